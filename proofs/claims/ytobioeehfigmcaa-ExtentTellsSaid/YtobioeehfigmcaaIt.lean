/- Sequences over slices of one-cell elements, and what is kept of them: contracts of each, so, Values, Clone, Of, Keep, Find at each element type. No condition but the slice's bound. -/
import Derived.Test.YtobioeehfigmcaaRows1
import Derived.Test.YtobioeehfigmcaaProg
set_option linter.unusedSimpArgs false
set_option linter.unusedVariables false
set_option maxRecDepth 100000
namespace Go.Proofs.Ytobioeehfigmcaa
open Go Go.RowKit Go.Shelf
attribute [local go_sem] Oper.semAt_some

theorem eqNil_seq_int (fn : Fn) (a c : Array Value) (w : World) : (binOp .eql 28 (.func fn a c) .nilFunc).run Try.prog w = .ok (.bool false) w := by kernel_rfl
theorem eqNil_is_int (fn : Fn) (a c : Array Value) (w : World) : (binOp .eql 25 (.func fn a c) .nilFunc).run Try.prog w = .ok (.bool false) w := by kernel_rfl
attribute [local go_sem] eqNil_seq_int eqNil_is_int
theorem each_int (f : Nat) (cap : Array Value) (w : World) : Calls Try.prog 58 #[.func (.func f) #[] cap] w fun e B => e = .returned (.func (.func f) #[] cap) ∧ w = B := by
  go_enter Try.func58, Try.ntmps58
  go_wp2
  go_ret
  exact ⟨rfl, rfl⟩
theorem so_int (f : Nat) (cap : Array Value) (w : World) : Calls Try.prog 62 #[.func (.func f) #[] cap] w fun e B => e = .returned (.func (.func f) #[] cap) ∧ w = B := by
  go_enter Try.func62, Try.ntmps62
  go_wp2
  go_ret
  exact ⟨rfl, rfl⟩
theorem vals_int (A : Option Addr) (n c : Nat) (w : World) : Calls Try.prog 66 #[.slice A n c] w fun e B =>
    e = .returned (.func (.func 113) #[] #[.pointer (some ⟨w.heap.size, 0, none⟩)]) ∧ B = w.alloc (.cells #[.slice A n c] 22) := by
  go_enter Try.func66, Try.ntmps66
  go_wp2
  go_ret
  exact ⟨rfl, rfl⟩

set_option maxHeartbeats 1000000 in
theorem values1_int (box c : Nat) (A : Option Addr) (D : Nat → Prop) (xs : List Int) (w : World)
    (hb : w.cell? ⟨box, 0, none⟩ = some (.slice A xs.length c)) (hr : Row1 (Value.int .i64) D w A xs) (hD : ∀ b, D b → b < w.heap.size) :
    IsSeq Try.prog (.func (.func 113) #[] #[.pointer (some ⟨box, 0, none⟩)]) (fun b => b = box ∨ D b) (xs.map fun x => #[Value.int .i64 x]) w := by
  refine ⟨?_, fun _ _ _ _ _ => trivial, ?_⟩
  · rintro b ((rfl | h) | h)
    · exact World.block_lt_of_cell? w _ hb
    · exact hD b h
    · exact h.elim
  intro yf ya yc J Jx m W hW hD' hJ hJx hR hY h0
  refine .fn _ _ _ _ _ (enters_of Try.func113 (by kernel_rfl) rfl) (calls_of_FW (ro := none) (n := 0) ?_)
  refine callsIn_of_wp Try.func113 rfl trivial ?_
  simp only [Try.ntmps113, List.size_toArray, List.length_cons, List.length_nil, Nat.reduceAdd, Nat.reduceSub, Array.replicate_succ, Array.replicate_zero, List.push_toArray, List.append_toArray, List.nil_append, List.cons_append]
  have hbW : W.cell? ⟨box, 0, none⟩ = some (.slice A xs.length c) := (World.cell?_of_block (hD' box (.inl (.inl rfl)))).trans hb
  have hm0 : ∀ b, m b → ¬ (b = box ∨ D b) := fun b hb hd => (hR 0 m W h0 b hb).2.1 hd
  have H0 : Hid (J 0 m W) := h0
  gi_wp2
  gi_loopw [7] (fun i wr => ∃ (k : Nat) (m' : Nat → Prop), k ≤ xs.length ∧ i = .int .i64 k ∧ Hid (J k m' wr ∧ Mod (fun b => m b ∨ Nil0 b) W wr ∧ ∀ b, m' b → m b ∨ W.heap.size ≤ b)) (fun i _ => xs.length - (intOf i).toNat)
  case atStart => exact ⟨0, m, Nat.zero_le _, rfl, H0, Mod.refl _ _, fun b hb => .inl hb⟩
  case round =>
    obtain ⟨k, m', hk, rfl, HJ⟩ := hrel
    by_cases hlt : k < xs.length
    · obtain ⟨hj, hmod, hm'⟩ := HJ.out
      obtain ⟨b, o, rfl, hDb, hcell⟩ := hr.2 (by omega)
      have hc : wr.cell? ⟨b, o + k, none⟩ = some (Value.int .i64 xs[k]) := by
        have h1 := hcell k xs[k] (by simp [hlt])
        have h2 : W.cell? ⟨b, o + k, none⟩ = some (Value.int .i64 xs[k]) := (World.cell?_of_block (a := ⟨b, o + k, none⟩) (hD' b (.inl (.inr hDb)))).trans h1
        exact hmod.cell h2 (fun h => h.elim (fun h => hm0 _ h (.inr hDb)) id)
      have hcall := hY k (by simpa using hlt) m' wr hj hmod.size
      simp only [List.getElem_map] at hcall
      have hsz := hmod.size
      have hlen := hr.1
      clear hY hJ hJx hR hD' hcell hr hD hb hj h0
      gi_wp2_with (refine wpListIn_callV (v := .func yf ya yc) (argl := [Value.int .i64 xs[k]]) rfl rfl rfl (hcall.mono ?_); clear hcall; rintro e B ⟨m2, hmod2, hm2, (⟨rfl, hj2⟩ | ⟨rfl, hj2⟩)⟩ <;> simp only [afterCall])
      · refine ⟨⟨k + 1, m2, by omega, by go_num, hj2, mod_step hmod hm' hmod2, sub_step hm' hm2 hsz⟩, by simp [intOf]; omega⟩
      · refine bodyPost_ret (results_none rfl _ _ _) rfl ?_
        exact ⟨⟨_, rfl⟩, m2, sub_step hm' hm2 hsz, mod_step hmod hm' hmod2, .inr ⟨k, by simpa using hlt, hj2, trivial⟩⟩
    · obtain rfl : k = xs.length := by omega
      obtain ⟨hj, hmod, hm'⟩ := HJ.out
      clear hY hJ hJx hR hD' hr hD hb h0
      gi_wp2
      go_end0
      exact ⟨⟨_, rfl⟩, m', hm', hmod, .inl ⟨by simpa using hj, trivial⟩⟩

theorem keep_int (s p : Value) (w : World) (hs : s.oneCell' = true) (hp : p.oneCell' = true) {sf pf : Fn} {sa sc pa pc : Array Value} (es : s = .func sf sa sc) (ep : p = .func pf pa pc) : Calls Try.prog 24 #[s, p] w fun e B =>
    e = .returned (.func (.func 71) #[] #[.pointer (some ⟨w.heap.size, 0, none⟩), .pointer (some ⟨w.heap.size + 1, 0, none⟩)]) ∧ B = (w.alloc (.cells #[s] 28)).alloc (.cells #[p] 25) := by
  subst es ep
  go_enter Try.func24, Try.ntmps24
  go_wp2
  go_ret
  exact ⟨rfl, rfl⟩

set_option maxHeartbeats 1000000 in
theorem keep1_int (bs bi f fi : Nat) (cap capi : Array Value) (D Wr Di : Nat → Prop) (It : Option Nat → World → Prop) (xs : List Int) (p : Int → Bool) (w : World)
    (hs : w.cell? ⟨bs, 0, none⟩ = some (.func (.func f) #[] cap)) (hi : w.cell? ⟨bi, 0, none⟩ = some (.func (.func fi) #[] capi)) (hsW : ¬ Wr bs) (hiW : ¬ Wr bi)
    (hseq : SeqSpec Try.prog (.func (.func f) #[] cap) D Wr It (xs.map fun x => #[Value.int .i64 x]) w) (hfun : PredV Try.prog (.func (.func fi) #[] capi) Di (Value.int .i64) p (· ∈ xs) w) (hDi : ∀ b, Di b → ¬ Wr b) (hDW : ∀ b, D b → ¬ Wr b) :
    SeqSpec Try.prog (.func (.func 71) #[] #[.pointer (some ⟨bs, 0, none⟩), .pointer (some ⟨bi, 0, none⟩)]) (fun b => b = bs ∨ b = bi ∨ D b ∨ Di b) Wr (KIt p xs It) ((xs.filter p).map fun x => #[Value.int .i64 x]) w := by
  refine ⟨?_, ?_, ?_⟩
  · rintro b ((rfl | rfl | h | h) | h)
    · exact World.block_lt_of_cell? w _ hs
    · exact World.block_lt_of_cell? w _ hi
    · exact hseq.1 b (.inl h)
    · exact hfun.1 b h
    · exact hseq.1 b (.inr h)
  · rintro (_ | k) A B h hS
    · exact hseq.2.1 _ _ _ h hS
    · obtain ⟨j, h1, h2, h3, h4⟩ := h
      exact ⟨j, h1, h2, h3, hseq.2.1 _ _ _ h4 hS⟩
  intro yf ya yc J Jx m W hW hD' hJ hJx hR hY h0
  refine .fn _ _ _ _ _ (enters_of Try.func71 (by kernel_rfl) rfl) (calls_of_FW (ro := none) (n := 0) ?_)
  refine callsIn_of_wp_marks Try.func71 rfl trivial ?_
  simp only [Try.ntmps71, List.size_toArray, List.length_cons, List.length_nil, Nat.reduceAdd, Nat.reduceSub, Array.replicate_succ, Array.replicate_zero, List.push_toArray, List.append_toArray, List.nil_append, List.cons_append]
  have hsW1 : W.cell? ⟨bs, 0, none⟩ = some (.func (.func f) #[] cap) := (World.cell?_of_block (hD' bs (.inl (.inl rfl)))).trans hs
  have hiW1 : W.cell? ⟨bi, 0, none⟩ = some (.func (.func fi) #[] capi) := (World.cell?_of_block (hD' bi (.inl (.inr (.inl rfl))))).trans hi
  have hbs : bs < W.heap.size := World.block_lt_of_cell? W _ hsW1
  have hbi : bi < W.heap.size := World.block_lt_of_cell? W _ hiW1
  gi_wp2_with (gi_at_call 58; refine (calls_FW (ro := none) (each_int f cap _)).mono ?_; rintro e B ⟨rfl, rfl⟩)
  have hyb := World.alloc_heap_new W (.cells #[.func yf ya yc] 25)
  have hM1 : Mod Nil0 W (W.alloc (.cells #[.func yf ya yc] 25)) := (Mod.refl _ _).alloc _
  have hsz1 : (W.alloc (.cells #[.func yf ya yc] 25)).heap.size = W.heap.size + 1 := by simp
  generalize hW1 : W.alloc (.cells #[.func yf ya yc] 25) = W1 at hyb hM1 hsz1 ⊢
  clear hW1
  have hlt0 : ∀ b, (b = bs ∨ b = bi ∨ D b ∨ Di b) ∨ Wr b → b < W.heap.size := by
    rintro b ((rfl | rfl | h | h) | h)
    · exact hbs
    · exact hbi
    · exact Nat.lt_of_lt_of_le (hseq.1 b (.inl h)) hW
    · exact Nat.lt_of_lt_of_le (hfun.1 b h) hW
    · exact Nat.lt_of_lt_of_le (hseq.1 b (.inr h)) hW
  have hseq1 : SeqSpec Try.prog (.func (.func f) #[] cap) D Wr It (xs.map fun x => #[Value.int .i64 x]) W1 := (hseq.later hW (fun b hb => hD' b (hb.elim (fun h => .inl (.inr (.inr (.inl h)))) .inr))).mod hM1 (fun _ _ hf => hf)
  have hm0 : ∀ b, m b → b < W.heap.size ∧ ¬ (b = bs ∨ b = bi ∨ D b ∨ Di b) ∧ ¬ Wr b := hR 0 m W h0
  have hPr := YBox.stab W.heap.size 25 (.func yf ya yc)
  refine wpIn_range0 rfl hseq1 (JIn J (· = W.heap.size) (YBox W.heap.size 25 (.func yf ya yc)) (kcnt p xs) m Wr W)
    (fun c j M A => KX p xs c j ∧ JIn Jx (· = W.heap.size) (YBox W.heap.size 25 (.func yf ya yc)) (kcnt p xs) m Wr W j M A)
    (fun b => m b ∨ b = W.heap.size) ?hps (JIn.stab hJ hPr W1.heap.size (by omega)) (fun c => (JIn.stab hJx hPr W1.heap.size (by omega)).const _) (JIn.rng hR (fun b hb => .inr (.inr (.inl hb))) (fun b hb => Nat.le_of_eq hb.symm) hlt0) ?h0 ?hround ?hdone ?hstop
  case hps => intro x hxm; simp only [List.mem_map] at hxm; obtain ⟨v, _, rfl⟩ := hxm; rfl
  case h0 =>
    exact ⟨m, rfl, hJ 0 m W W1 Nil0 h0 hM1 (fun _ hf => hf.elim) (fun _ hf => hf.elim), hyb, fun b hb => .inl hb, fun b hb => by subst hb; exact ⟨by omega, fun h => by have := (hm0 _ h).1; omega⟩, hM1.mono (fun _ _ hf => hf.elim)⟩
  case hround =>
    intro l k hk M A hl hlA hml hJk
    have hk' : k < xs.length := by simpa using hk
    simp only [List.getElem_map]
    simp only [List.zip_toArray, List.zip_cons_cons, List.zip_nil_right, List.foldl_toArray', List.foldl_cons, List.foldl_nil]
    gi_wp2
    refine ⟨Mod.refl _ _, fun A2 hA2 hrec hJ2 => ?_⟩
    have hs2 := hA2.size
    clear hJk hml
    obtain ⟨m1, rfl, hj, hy2, hm1, hpv, hmod⟩ := hJ2
    have hsA : W.heap.size ≤ A2.heap.size := hmod.size
    have hnm : ∀ b, b < W.heap.size → (b = bs ∨ b = bi ∨ D b ∨ Di b) → ¬ (m b ∨ Wr b) := fun b hb h h2 => h2.elim (fun h2 => (hm0 b h2).2.1 h) (fun h2 => by
      rcases h with rfl | rfl | h | h
      · exact hsW h2
      · exact hiW h2
      · exact hDW b h h2
      · exact hDi b h h2)
    have hiA : A2.cell? ⟨bi, 0, none⟩ = some (.func (.func fi) #[] capi) := hmod.cell hiW1 (hnm bi hbi (.inr (.inl rfl)))
    have hyA : A2.cell? ⟨W.heap.size, 0, none⟩ = some (.func yf ya yc) := cell_of_one' hy2
    have hcallp := hfun.2 A2 xs[k] (by omega) (fun b hb => (hmod.block b (hlt0 b (.inl (.inr (.inr (.inr hb))))) (hnm b (hlt0 b (.inl (.inr (.inr (.inr hb))))) (.inr (.inr (.inr hb))))).trans (hD' b (.inl (.inr (.inr (.inr hb)))))) (List.getElem_mem hk')
    have hybA : YBox W.heap.size 25 (.func yf ya yc) k A2 := hy2
    by_cases hp : p xs[k] = true
    · obtain ⟨hk2, hg2⟩ := kcnt_get hk' hp
      have hks := kcnt_succ_pos hk' hp
      have HP : Hid (p xs[k] = true) := hp
      rw [hp] at hcallp
      have hyC := fun (B : World) (hB : Mod Nil0 A2 B) => hY (kcnt p xs k) (by simpa using hk2) m1 B (hJ _ _ _ _ _ hj hB (fun _ hf => hf.elim) (fun _ hf => hf.elim)) (Nat.le_trans hsA hB.size)
      simp only [List.getElem_map, hg2] at hyC
      have HY : Hid (∀ (B : World) (hB : Mod Nil0 A2 B), CallV Try.prog (.func yf ya yc) #[Value.int .i64 xs[k]] B (YPost J Jx (kcnt p xs k) m1 B)) := hyC
      have HK : Hid (kcnt p xs (k + 1) = kcnt p xs k + 1) := hks
      clear hY hyC hp hk2 hg2 hks hJ hJx hR hseq hseq1 hD' hfun hPr hnm hy2
      gi_wp2_with (first
        | (gi_at_call 62; refine (calls_FW (ro := none) (so_int fi capi _)).mono ?_; rintro e B ⟨rfl, rfl⟩)
        | (refine wpListIn_callV (v := .func (.func fi) #[] capi) (argl := [Value.int .i64 xs[k]]) rfl rfl rfl (hcallp.mono ?_); clear hcallp; rintro e B ⟨rfl, hB⟩; simp only [afterCall]; have hyB : B.cell? ⟨W.heap.size, 0, none⟩ = some (.func yf ya yc) := hB.cell hyA (fun hf => hf))
        | (refine wpListIn_callV (v := .func yf ya yc) (argl := [Value.int .i64 xs[k]]) rfl rfl rfl ((HY.out _ hB).mono ?_); rintro e C ⟨m2, hm2a, hm2b, (⟨rfl, hj2⟩ | ⟨rfl, hj2⟩)⟩ <;> simp only [afterCall]))
      · have hAC : Mod (fun b => m1 b ∨ b = W.heap.size) A2 C := (hB.mono (fun _ _ hf => hf.elim)).trans' hm2a (fun b _ h => .inl h)
        have hsub : ∀ b, m2 b → m1 b ∨ A2.heap.size ≤ b := fun b h => (hm2b b h).imp id (fun h => Nat.le_trans hB.size h)
        exact ⟨_, hAC, fun b hb => hb.elim (fun h => (hsub b h).imp .inl (fun h => by omega)) (fun h => .inl (.inr h)),
          JIn.next hm1 hpv hmod hAC (fun b hb => Nat.le_of_eq hb.symm) hsub (HK.out ▸ hj2) (hm2a.heap (hB.heap hybA (fun hf => hf)) (hpv _ rfl).2)⟩
      · have hAC : Mod (fun b => m1 b ∨ b = W.heap.size) A2 C := (hB.mono (fun _ _ hf => hf.elim)).trans' hm2a (fun b _ h => .inl h)
        have hsub : ∀ b, m2 b → m1 b ∨ A2.heap.size ≤ b := fun b h => (hm2b b h).imp id (fun h => Nat.le_trans hB.size h)
        exact ⟨_, hAC, fun b hb => hb.elim (fun h => (hsub b h).imp .inl (fun h => by omega)) (fun h => .inl (.inr h)), ⟨rfl, k, hk', rfl, HP.out⟩,
          JIn.next hm1 hpv hmod hAC (fun b hb => Nat.le_of_eq hb.symm) hsub (HK.out ▸ hj2) (hm2a.heap (hB.heap hybA (fun hf => hf)) (hpv _ rfl).2)⟩
    · have hp' : p xs[k] = false := by simpa using hp
      have HK : Hid (kcnt p xs (k + 1) = kcnt p xs k) := kcnt_succ_neg hk' hp'
      rw [hp'] at hcallp
      have HJ : Hid (Stab W.heap.size Wr J) := hJ
      clear hY hp hp' hJ hJx hR hseq hseq1 hD' hfun hPr hnm hy2
      gi_wp2_with (first
        | (gi_at_call 62; refine (calls_FW (ro := none) (so_int fi capi _)).mono ?_; rintro e B ⟨rfl, rfl⟩)
        | (refine wpListIn_callV (v := .func (.func fi) #[] capi) (argl := [Value.int .i64 xs[k]]) rfl rfl rfl (hcallp.mono ?_); clear hcallp; rintro e B ⟨rfl, hB⟩; simp only [afterCall]))
      have hAC : Mod (fun b => m1 b ∨ b = W.heap.size) A2 B := hB.mono (fun _ _ hf => hf.elim)
      exact ⟨_, hAC, fun b hb => .inl hb, JIn.next hm1 hpv hmod hAC (fun b hb => Nat.le_of_eq hb.symm) (fun b h => .inl h) (HK.out ▸ HJ.out _ _ _ _ _ hj hB (fun _ hf => hf.elim) (fun _ hf => hf.elim)) (hB.heap hybA (fun hf => hf))⟩
  case hdone =>
    rintro d m' B hd hdB hmd ⟨hsub, hmod, ⟨m1, rfl, hj, hyB, hm1, hpv, hmodW⟩, hit⟩
    gi_wp2
    refine leaves_one hdB ⟨_, results_none rfl _ _ _, ⟨_, rfl⟩, m1, hm1, hmodW.putObj _ _ (fun h => by omega), .inl ⟨?_, ?_⟩⟩
    · have := hJ _ _ _ _ _ hj ((Mod.refl (· = d) B).putObj d (.deferred none) (fun _ => rfl)) (fun b hb h => hmd (by subst hb; exact .inl h)) (fun b hb h => by subst hb; omega)
      simpa [kcnt] using this
    · exact hseq.2.1 _ _ _ hit (fun b h => World.putObj_heap_other (by have := hlt0 b (.inr h); omega))
  case hstop =>
    rintro d m' B c j hj' hd hdB hmd ⟨hsub, hmod, ⟨⟨rfl, i, hi', e, hpi⟩, m1, rfl, hj, hyB, hm1, hpv, hmodW⟩, hit⟩
    obtain rfl : j = i := by omega
    gi_wp2
    have hks := kcnt_succ_pos hi' hpi
    obtain ⟨hk2, _⟩ := kcnt_get hi' hpi
    refine leaves_one hdB ⟨_, results_none rfl _ _ _, ⟨_, rfl⟩, m1, hm1, hmodW.putObj _ _ (fun h => by omega), .inr ⟨kcnt p xs j, by simpa using hk2, ?_, ?_⟩⟩
    · rw [← hks]
      exact hJx _ _ _ _ _ hj ((Mod.refl (· = d) B).putObj d (.deferred none) (fun _ => rfl)) (fun b hb h => hmd (by subst hb; exact .inl h)) (fun b hb h => by subst hb; omega)
    · exact ⟨j, hi', hpi, hks, hseq.2.1 _ _ _ hit (fun b h => World.putObj_heap_other (by have := hlt0 b (.inr h); omega))⟩

theorem eqNil_seq_str (fn : Fn) (a c : Array Value) (w : World) : (binOp .eql 89 (.func fn a c) .nilFunc).run Try.prog w = .ok (.bool false) w := by kernel_rfl
theorem eqNil_is_str (fn : Fn) (a c : Array Value) (w : World) : (binOp .eql 91 (.func fn a c) .nilFunc).run Try.prog w = .ok (.bool false) w := by kernel_rfl
attribute [local go_sem] eqNil_seq_str eqNil_is_str
theorem each_str (f : Nat) (cap : Array Value) (w : World) : Calls Try.prog 141 #[.func (.func f) #[] cap] w fun e B => e = .returned (.func (.func f) #[] cap) ∧ w = B := by
  go_enter Try.func141, Try.ntmps141
  go_wp2
  go_ret
  exact ⟨rfl, rfl⟩
theorem so_str (f : Nat) (cap : Array Value) (w : World) : Calls Try.prog 142 #[.func (.func f) #[] cap] w fun e B => e = .returned (.func (.func f) #[] cap) ∧ w = B := by
  go_enter Try.func142, Try.ntmps142
  go_wp2
  go_ret
  exact ⟨rfl, rfl⟩
theorem vals_str (A : Option Addr) (n c : Nat) (w : World) : Calls Try.prog 106 #[.slice A n c] w fun e B =>
    e = .returned (.func (.func 143) #[] #[.pointer (some ⟨w.heap.size, 0, none⟩)]) ∧ B = w.alloc (.cells #[.slice A n c] 138) := by
  go_enter Try.func106, Try.ntmps106
  go_wp2
  go_ret
  exact ⟨rfl, rfl⟩

set_option maxHeartbeats 1000000 in
theorem values1_str (box c : Nat) (A : Option Addr) (D : Nat → Prop) (xs : List ByteArray) (w : World)
    (hb : w.cell? ⟨box, 0, none⟩ = some (.slice A xs.length c)) (hr : Row1 (Value.string) D w A xs) (hD : ∀ b, D b → b < w.heap.size) :
    IsSeq Try.prog (.func (.func 143) #[] #[.pointer (some ⟨box, 0, none⟩)]) (fun b => b = box ∨ D b) (xs.map fun x => #[Value.string x]) w := by
  refine ⟨?_, fun _ _ _ _ _ => trivial, ?_⟩
  · rintro b ((rfl | h) | h)
    · exact World.block_lt_of_cell? w _ hb
    · exact hD b h
    · exact h.elim
  intro yf ya yc J Jx m W hW hD' hJ hJx hR hY h0
  refine .fn _ _ _ _ _ (enters_of Try.func143 (by kernel_rfl) rfl) (calls_of_FW (ro := none) (n := 0) ?_)
  refine callsIn_of_wp Try.func143 rfl trivial ?_
  simp only [Try.ntmps143, List.size_toArray, List.length_cons, List.length_nil, Nat.reduceAdd, Nat.reduceSub, Array.replicate_succ, Array.replicate_zero, List.push_toArray, List.append_toArray, List.nil_append, List.cons_append]
  have hbW : W.cell? ⟨box, 0, none⟩ = some (.slice A xs.length c) := (World.cell?_of_block (hD' box (.inl (.inl rfl)))).trans hb
  have hm0 : ∀ b, m b → ¬ (b = box ∨ D b) := fun b hb hd => (hR 0 m W h0 b hb).2.1 hd
  have H0 : Hid (J 0 m W) := h0
  gi_wp2
  gi_loopw [7] (fun i wr => ∃ (k : Nat) (m' : Nat → Prop), k ≤ xs.length ∧ i = .int .i64 k ∧ Hid (J k m' wr ∧ Mod (fun b => m b ∨ Nil0 b) W wr ∧ ∀ b, m' b → m b ∨ W.heap.size ≤ b)) (fun i _ => xs.length - (intOf i).toNat)
  case atStart => exact ⟨0, m, Nat.zero_le _, rfl, H0, Mod.refl _ _, fun b hb => .inl hb⟩
  case round =>
    obtain ⟨k, m', hk, rfl, HJ⟩ := hrel
    by_cases hlt : k < xs.length
    · obtain ⟨hj, hmod, hm'⟩ := HJ.out
      obtain ⟨b, o, rfl, hDb, hcell⟩ := hr.2 (by omega)
      have hc : wr.cell? ⟨b, o + k, none⟩ = some (Value.string xs[k]) := by
        have h1 := hcell k xs[k] (by simp [hlt])
        have h2 : W.cell? ⟨b, o + k, none⟩ = some (Value.string xs[k]) := (World.cell?_of_block (a := ⟨b, o + k, none⟩) (hD' b (.inl (.inr hDb)))).trans h1
        exact hmod.cell h2 (fun h => h.elim (fun h => hm0 _ h (.inr hDb)) id)
      have hcall := hY k (by simpa using hlt) m' wr hj hmod.size
      simp only [List.getElem_map] at hcall
      have hsz := hmod.size
      have hlen := hr.1
      clear hY hJ hJx hR hD' hcell hr hD hb hj h0
      gi_wp2_with (refine wpListIn_callV (v := .func yf ya yc) (argl := [Value.string xs[k]]) rfl rfl rfl (hcall.mono ?_); clear hcall; rintro e B ⟨m2, hmod2, hm2, (⟨rfl, hj2⟩ | ⟨rfl, hj2⟩)⟩ <;> simp only [afterCall])
      · refine ⟨⟨k + 1, m2, by omega, by go_num, hj2, mod_step hmod hm' hmod2, sub_step hm' hm2 hsz⟩, by simp [intOf]; omega⟩
      · refine bodyPost_ret (results_none rfl _ _ _) rfl ?_
        exact ⟨⟨_, rfl⟩, m2, sub_step hm' hm2 hsz, mod_step hmod hm' hmod2, .inr ⟨k, by simpa using hlt, hj2, trivial⟩⟩
    · obtain rfl : k = xs.length := by omega
      obtain ⟨hj, hmod, hm'⟩ := HJ.out
      clear hY hJ hJx hR hD' hr hD hb h0
      gi_wp2
      go_end0
      exact ⟨⟨_, rfl⟩, m', hm', hmod, .inl ⟨by simpa using hj, trivial⟩⟩

theorem keep_str (s p : Value) (w : World) (hs : s.oneCell' = true) (hp : p.oneCell' = true) {sf pf : Fn} {sa sc pa pc : Array Value} (es : s = .func sf sa sc) (ep : p = .func pf pa pc) : Calls Try.prog 105 #[s, p] w fun e B =>
    e = .returned (.func (.func 140) #[] #[.pointer (some ⟨w.heap.size, 0, none⟩), .pointer (some ⟨w.heap.size + 1, 0, none⟩)]) ∧ B = (w.alloc (.cells #[s] 89)).alloc (.cells #[p] 91) := by
  subst es ep
  go_enter Try.func105, Try.ntmps105
  go_wp2
  go_ret
  exact ⟨rfl, rfl⟩

set_option maxHeartbeats 1000000 in
theorem keep1_str (bs bi f fi : Nat) (cap capi : Array Value) (D Wr Di : Nat → Prop) (It : Option Nat → World → Prop) (xs : List ByteArray) (p : ByteArray → Bool) (w : World)
    (hs : w.cell? ⟨bs, 0, none⟩ = some (.func (.func f) #[] cap)) (hi : w.cell? ⟨bi, 0, none⟩ = some (.func (.func fi) #[] capi)) (hsW : ¬ Wr bs) (hiW : ¬ Wr bi)
    (hseq : SeqSpec Try.prog (.func (.func f) #[] cap) D Wr It (xs.map fun x => #[Value.string x]) w) (hfun : PredV Try.prog (.func (.func fi) #[] capi) Di (Value.string) p (· ∈ xs) w) (hDi : ∀ b, Di b → ¬ Wr b) (hDW : ∀ b, D b → ¬ Wr b) :
    SeqSpec Try.prog (.func (.func 140) #[] #[.pointer (some ⟨bs, 0, none⟩), .pointer (some ⟨bi, 0, none⟩)]) (fun b => b = bs ∨ b = bi ∨ D b ∨ Di b) Wr (KIt p xs It) ((xs.filter p).map fun x => #[Value.string x]) w := by
  refine ⟨?_, ?_, ?_⟩
  · rintro b ((rfl | rfl | h | h) | h)
    · exact World.block_lt_of_cell? w _ hs
    · exact World.block_lt_of_cell? w _ hi
    · exact hseq.1 b (.inl h)
    · exact hfun.1 b h
    · exact hseq.1 b (.inr h)
  · rintro (_ | k) A B h hS
    · exact hseq.2.1 _ _ _ h hS
    · obtain ⟨j, h1, h2, h3, h4⟩ := h
      exact ⟨j, h1, h2, h3, hseq.2.1 _ _ _ h4 hS⟩
  intro yf ya yc J Jx m W hW hD' hJ hJx hR hY h0
  refine .fn _ _ _ _ _ (enters_of Try.func140 (by kernel_rfl) rfl) (calls_of_FW (ro := none) (n := 0) ?_)
  refine callsIn_of_wp_marks Try.func140 rfl trivial ?_
  simp only [Try.ntmps140, List.size_toArray, List.length_cons, List.length_nil, Nat.reduceAdd, Nat.reduceSub, Array.replicate_succ, Array.replicate_zero, List.push_toArray, List.append_toArray, List.nil_append, List.cons_append]
  have hsW1 : W.cell? ⟨bs, 0, none⟩ = some (.func (.func f) #[] cap) := (World.cell?_of_block (hD' bs (.inl (.inl rfl)))).trans hs
  have hiW1 : W.cell? ⟨bi, 0, none⟩ = some (.func (.func fi) #[] capi) := (World.cell?_of_block (hD' bi (.inl (.inr (.inl rfl))))).trans hi
  have hbs : bs < W.heap.size := World.block_lt_of_cell? W _ hsW1
  have hbi : bi < W.heap.size := World.block_lt_of_cell? W _ hiW1
  gi_wp2_with (gi_at_call 141; refine (calls_FW (ro := none) (each_str f cap _)).mono ?_; rintro e B ⟨rfl, rfl⟩)
  have hyb := World.alloc_heap_new W (.cells #[.func yf ya yc] 91)
  have hM1 : Mod Nil0 W (W.alloc (.cells #[.func yf ya yc] 91)) := (Mod.refl _ _).alloc _
  have hsz1 : (W.alloc (.cells #[.func yf ya yc] 91)).heap.size = W.heap.size + 1 := by simp
  generalize hW1 : W.alloc (.cells #[.func yf ya yc] 91) = W1 at hyb hM1 hsz1 ⊢
  clear hW1
  have hlt0 : ∀ b, (b = bs ∨ b = bi ∨ D b ∨ Di b) ∨ Wr b → b < W.heap.size := by
    rintro b ((rfl | rfl | h | h) | h)
    · exact hbs
    · exact hbi
    · exact Nat.lt_of_lt_of_le (hseq.1 b (.inl h)) hW
    · exact Nat.lt_of_lt_of_le (hfun.1 b h) hW
    · exact Nat.lt_of_lt_of_le (hseq.1 b (.inr h)) hW
  have hseq1 : SeqSpec Try.prog (.func (.func f) #[] cap) D Wr It (xs.map fun x => #[Value.string x]) W1 := (hseq.later hW (fun b hb => hD' b (hb.elim (fun h => .inl (.inr (.inr (.inl h)))) .inr))).mod hM1 (fun _ _ hf => hf)
  have hm0 : ∀ b, m b → b < W.heap.size ∧ ¬ (b = bs ∨ b = bi ∨ D b ∨ Di b) ∧ ¬ Wr b := hR 0 m W h0
  have hPr := YBox.stab W.heap.size 91 (.func yf ya yc)
  refine wpIn_range0 rfl hseq1 (JIn J (· = W.heap.size) (YBox W.heap.size 91 (.func yf ya yc)) (kcnt p xs) m Wr W)
    (fun c j M A => KX p xs c j ∧ JIn Jx (· = W.heap.size) (YBox W.heap.size 91 (.func yf ya yc)) (kcnt p xs) m Wr W j M A)
    (fun b => m b ∨ b = W.heap.size) ?hps (JIn.stab hJ hPr W1.heap.size (by omega)) (fun c => (JIn.stab hJx hPr W1.heap.size (by omega)).const _) (JIn.rng hR (fun b hb => .inr (.inr (.inl hb))) (fun b hb => Nat.le_of_eq hb.symm) hlt0) ?h0 ?hround ?hdone ?hstop
  case hps => intro x hxm; simp only [List.mem_map] at hxm; obtain ⟨v, _, rfl⟩ := hxm; rfl
  case h0 =>
    exact ⟨m, rfl, hJ 0 m W W1 Nil0 h0 hM1 (fun _ hf => hf.elim) (fun _ hf => hf.elim), hyb, fun b hb => .inl hb, fun b hb => by subst hb; exact ⟨by omega, fun h => by have := (hm0 _ h).1; omega⟩, hM1.mono (fun _ _ hf => hf.elim)⟩
  case hround =>
    intro l k hk M A hl hlA hml hJk
    have hk' : k < xs.length := by simpa using hk
    simp only [List.getElem_map]
    simp only [List.zip_toArray, List.zip_cons_cons, List.zip_nil_right, List.foldl_toArray', List.foldl_cons, List.foldl_nil]
    gi_wp2
    refine ⟨Mod.refl _ _, fun A2 hA2 hrec hJ2 => ?_⟩
    have hs2 := hA2.size
    clear hJk hml
    obtain ⟨m1, rfl, hj, hy2, hm1, hpv, hmod⟩ := hJ2
    have hsA : W.heap.size ≤ A2.heap.size := hmod.size
    have hnm : ∀ b, b < W.heap.size → (b = bs ∨ b = bi ∨ D b ∨ Di b) → ¬ (m b ∨ Wr b) := fun b hb h h2 => h2.elim (fun h2 => (hm0 b h2).2.1 h) (fun h2 => by
      rcases h with rfl | rfl | h | h
      · exact hsW h2
      · exact hiW h2
      · exact hDW b h h2
      · exact hDi b h h2)
    have hiA : A2.cell? ⟨bi, 0, none⟩ = some (.func (.func fi) #[] capi) := hmod.cell hiW1 (hnm bi hbi (.inr (.inl rfl)))
    have hyA : A2.cell? ⟨W.heap.size, 0, none⟩ = some (.func yf ya yc) := cell_of_one' hy2
    have hcallp := hfun.2 A2 xs[k] (by omega) (fun b hb => (hmod.block b (hlt0 b (.inl (.inr (.inr (.inr hb))))) (hnm b (hlt0 b (.inl (.inr (.inr (.inr hb))))) (.inr (.inr (.inr hb))))).trans (hD' b (.inl (.inr (.inr (.inr hb)))))) (List.getElem_mem hk')
    have hybA : YBox W.heap.size 91 (.func yf ya yc) k A2 := hy2
    by_cases hp : p xs[k] = true
    · obtain ⟨hk2, hg2⟩ := kcnt_get hk' hp
      have hks := kcnt_succ_pos hk' hp
      have HP : Hid (p xs[k] = true) := hp
      rw [hp] at hcallp
      have hyC := fun (B : World) (hB : Mod Nil0 A2 B) => hY (kcnt p xs k) (by simpa using hk2) m1 B (hJ _ _ _ _ _ hj hB (fun _ hf => hf.elim) (fun _ hf => hf.elim)) (Nat.le_trans hsA hB.size)
      simp only [List.getElem_map, hg2] at hyC
      have HY : Hid (∀ (B : World) (hB : Mod Nil0 A2 B), CallV Try.prog (.func yf ya yc) #[Value.string xs[k]] B (YPost J Jx (kcnt p xs k) m1 B)) := hyC
      have HK : Hid (kcnt p xs (k + 1) = kcnt p xs k + 1) := hks
      clear hY hyC hp hk2 hg2 hks hJ hJx hR hseq hseq1 hD' hfun hPr hnm hy2
      gi_wp2_with (first
        | (gi_at_call 142; refine (calls_FW (ro := none) (so_str fi capi _)).mono ?_; rintro e B ⟨rfl, rfl⟩)
        | (refine wpListIn_callV (v := .func (.func fi) #[] capi) (argl := [Value.string xs[k]]) rfl rfl rfl (hcallp.mono ?_); clear hcallp; rintro e B ⟨rfl, hB⟩; simp only [afterCall]; have hyB : B.cell? ⟨W.heap.size, 0, none⟩ = some (.func yf ya yc) := hB.cell hyA (fun hf => hf))
        | (refine wpListIn_callV (v := .func yf ya yc) (argl := [Value.string xs[k]]) rfl rfl rfl ((HY.out _ hB).mono ?_); rintro e C ⟨m2, hm2a, hm2b, (⟨rfl, hj2⟩ | ⟨rfl, hj2⟩)⟩ <;> simp only [afterCall]))
      · have hAC : Mod (fun b => m1 b ∨ b = W.heap.size) A2 C := (hB.mono (fun _ _ hf => hf.elim)).trans' hm2a (fun b _ h => .inl h)
        have hsub : ∀ b, m2 b → m1 b ∨ A2.heap.size ≤ b := fun b h => (hm2b b h).imp id (fun h => Nat.le_trans hB.size h)
        exact ⟨_, hAC, fun b hb => hb.elim (fun h => (hsub b h).imp .inl (fun h => by omega)) (fun h => .inl (.inr h)),
          JIn.next hm1 hpv hmod hAC (fun b hb => Nat.le_of_eq hb.symm) hsub (HK.out ▸ hj2) (hm2a.heap (hB.heap hybA (fun hf => hf)) (hpv _ rfl).2)⟩
      · have hAC : Mod (fun b => m1 b ∨ b = W.heap.size) A2 C := (hB.mono (fun _ _ hf => hf.elim)).trans' hm2a (fun b _ h => .inl h)
        have hsub : ∀ b, m2 b → m1 b ∨ A2.heap.size ≤ b := fun b h => (hm2b b h).imp id (fun h => Nat.le_trans hB.size h)
        exact ⟨_, hAC, fun b hb => hb.elim (fun h => (hsub b h).imp .inl (fun h => by omega)) (fun h => .inl (.inr h)), ⟨rfl, k, hk', rfl, HP.out⟩,
          JIn.next hm1 hpv hmod hAC (fun b hb => Nat.le_of_eq hb.symm) hsub (HK.out ▸ hj2) (hm2a.heap (hB.heap hybA (fun hf => hf)) (hpv _ rfl).2)⟩
    · have hp' : p xs[k] = false := by simpa using hp
      have HK : Hid (kcnt p xs (k + 1) = kcnt p xs k) := kcnt_succ_neg hk' hp'
      rw [hp'] at hcallp
      have HJ : Hid (Stab W.heap.size Wr J) := hJ
      clear hY hp hp' hJ hJx hR hseq hseq1 hD' hfun hPr hnm hy2
      gi_wp2_with (first
        | (gi_at_call 142; refine (calls_FW (ro := none) (so_str fi capi _)).mono ?_; rintro e B ⟨rfl, rfl⟩)
        | (refine wpListIn_callV (v := .func (.func fi) #[] capi) (argl := [Value.string xs[k]]) rfl rfl rfl (hcallp.mono ?_); clear hcallp; rintro e B ⟨rfl, hB⟩; simp only [afterCall]))
      have hAC : Mod (fun b => m1 b ∨ b = W.heap.size) A2 B := hB.mono (fun _ _ hf => hf.elim)
      exact ⟨_, hAC, fun b hb => .inl hb, JIn.next hm1 hpv hmod hAC (fun b hb => Nat.le_of_eq hb.symm) (fun b h => .inl h) (HK.out ▸ HJ.out _ _ _ _ _ hj hB (fun _ hf => hf.elim) (fun _ hf => hf.elim)) (hB.heap hybA (fun hf => hf))⟩
  case hdone =>
    rintro d m' B hd hdB hmd ⟨hsub, hmod, ⟨m1, rfl, hj, hyB, hm1, hpv, hmodW⟩, hit⟩
    gi_wp2
    refine leaves_one hdB ⟨_, results_none rfl _ _ _, ⟨_, rfl⟩, m1, hm1, hmodW.putObj _ _ (fun h => by omega), .inl ⟨?_, ?_⟩⟩
    · have := hJ _ _ _ _ _ hj ((Mod.refl (· = d) B).putObj d (.deferred none) (fun _ => rfl)) (fun b hb h => hmd (by subst hb; exact .inl h)) (fun b hb h => by subst hb; omega)
      simpa [kcnt] using this
    · exact hseq.2.1 _ _ _ hit (fun b h => World.putObj_heap_other (by have := hlt0 b (.inr h); omega))
  case hstop =>
    rintro d m' B c j hj' hd hdB hmd ⟨hsub, hmod, ⟨⟨rfl, i, hi', e, hpi⟩, m1, rfl, hj, hyB, hm1, hpv, hmodW⟩, hit⟩
    obtain rfl : j = i := by omega
    gi_wp2
    have hks := kcnt_succ_pos hi' hpi
    obtain ⟨hk2, _⟩ := kcnt_get hi' hpi
    refine leaves_one hdB ⟨_, results_none rfl _ _ _, ⟨_, rfl⟩, m1, hm1, hmodW.putObj _ _ (fun h => by omega), .inr ⟨kcnt p xs j, by simpa using hk2, ?_, ?_⟩⟩
    · rw [← hks]
      exact hJx _ _ _ _ _ hj ((Mod.refl (· = d) B).putObj d (.deferred none) (fun _ => rfl)) (fun b hb h => hmd (by subst hb; exact .inl h)) (fun b hb h => by subst hb; omega)
    · exact ⟨j, hi', hpi, hks, hseq.2.1 _ _ _ hit (fun b h => World.putObj_heap_other (by have := hlt0 b (.inr h); omega))⟩

end Go.Proofs.Ytobioeehfigmcaa
