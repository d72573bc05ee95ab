/- Joining sequences: the list of them may hold nil. No condition but the slice's bound. -/
import Derived.Test.YtobioeehfigmcaaAsk
set_option linter.unusedSimpArgs false
set_option linter.unusedVariables false
set_option maxRecDepth 100000
namespace Go.Proofs.Ytobioeehfigmcaa
open Go Go.RowKit Go.Shelf
attribute [local go_sem] Oper.semAt_some eqNil_seq_int eqNil_is_int

theorem leaves_marks {P : Program} {n : Nat} {fn : Func} {tmps : Array Value} {R : Ending → World → Prop} : ∀ (bs : List Nat) (w : World), (∀ d ∈ bs, w.heap[d]? = some (.deferred (some []))) → bs.Nodup →
    (∀ w', Mod (· ∈ bs) w w' → ∃ v, (results fn tmps).run P w' = .ok v w' ∧ R (.returned v) w') →
    LeavesInM (FW none) n P fn tmps R (bs.map fun d => { target := .collected d, args := #[] }) .returning w
  | [], w, _, _, h => h w (Mod.refl _ _)
  | d :: bs, w, hb, hn, h => by
    refine ⟨by simp, .inl ⟨d, w.putObj d (.deferred none), rfl, run_takeDeferred (hb d (by simp)), ?_⟩⟩
    have hn' := List.nodup_cons.1 hn
    refine leaves_marks bs _ (fun e he => ?_) hn'.2 (fun w' hm => h w' ?_)
    · have : e ≠ d := fun h => hn'.1 (h ▸ he)
      exact (World.putObj_heap_other this).trans (hb e (by simp [he]))
    · have : Mod (· ∈ d :: bs) w (w.putObj d (.deferred none)) := (Mod.refl _ w).putObj _ _ (fun _ => by simp)
      exact this.trans' hm (fun b _ hb => by simp [hb])

theorem nilNil_seq_int (w : World) : (binOp .eql 28 .nilFunc .nilFunc).run Try.prog w = .ok (.bool true) w := by kernel_rfl
attribute [local go_sem] nilNil_seq_int
theorem eachNil_int (w : World) : Calls Try.prog 58 #[.nilFunc] w fun e B => e = .returned (.func (.func 109) #[] #[]) ∧ w = B := by
  go_enter Try.func58, Try.ntmps58
  go_wp2
  go_ret
  exact ⟨rfl, rfl⟩
theorem each1_int (w : World) : IsSeq Try.prog (.func (.func 109) #[] #[]) Nil0 [] w := by
  refine ⟨?_, fun _ _ _ _ _ => trivial, ?_⟩
  · rintro b (h | h) <;> exact h.elim
  intro yf ya yc J Jx m W hW hD' hJ hJx hR hY h0
  refine .fn _ _ _ _ _ (enters_of Try.func109 (by kernel_rfl) rfl) (calls_of_FW (ro := none) (n := 0) ?_)
  refine callsIn_of_wp Try.func109 rfl trivial ?_
  simp only [Try.ntmps109, List.size_toArray, List.length_cons, List.length_nil, Nat.reduceAdd, Nat.reduceSub, Array.replicate_succ, Array.replicate_zero, List.push_toArray, List.append_toArray, List.nil_append, List.cons_append]
  have H0 : Hid (J 0 m W) := h0
  clear hY hJ hJx hR hD' h0
  gi_wp2
  go_end0
  exact ⟨⟨_, rfl⟩, m, fun b hb => .inl hb, Mod.refl _ _, .inl ⟨H0, trivial⟩⟩

/-- An element of the list that is joined: a sequence, or nil. -/
def JEl (w : World) (v : Value) (D : Nat → Prop) (xs : List Int) : Prop :=
  (∃ f cap, v = .func (.func f) #[] cap ∧ IsSeq Try.prog v D (xs.map fun x => #[.int .i64 x]) w) ∨ (v = .nilFunc ∧ xs = [])
theorem eachEl_int {w : World} {v : Value} {D : Nat → Prop} {xs : List Int} (h : JEl w v D xs) (W : World) (hW : w.heap.size ≤ W.heap.size) (hD : ∀ b, D b → W.heap[b]? = w.heap[b]?) (hlt : ∀ b, D b → b < w.heap.size) :
    Calls Try.prog 58 #[v] W fun e B => W = B ∧ ∃ f cap, e = .returned (.func (.func f) #[] cap) ∧ IsSeq Try.prog (.func (.func f) #[] cap) D (xs.map fun x => #[.int .i64 x]) W := by
  rcases h with ⟨f, cap, rfl, hs⟩ | ⟨rfl, rfl⟩
  · refine (each_int f cap W).mono ?_
    rintro e B ⟨rfl, rfl⟩
    exact ⟨rfl, f, cap, rfl, hs.later hW (fun b hb => hb.elim (hD b) (fun h => h.elim))⟩
  · refine (eachNil_int W).mono ?_
    rintro e B ⟨rfl, rfl⟩
    exact ⟨rfl, _, _, rfl, (each1_int W).monoD (fun _ h => h.elim) (fun b hb => Nat.lt_of_lt_of_le (hlt b hb) hW)⟩

/-- How many go out ahead of the i-th sequence. -/
def jpre (xss : List (List Int)) (i : Nat) : Nat := (xss.take i).flatten.length
theorem jpre_succ {xss : List (List Int)} {i : Nat} (h : i < xss.length) : jpre xss (i + 1) = jpre xss i + xss[i].length := by
  unfold jpre; rw [List.take_succ_eq_append_getElem h, List.flatten_append, List.length_append, List.flatten_singleton]
theorem jpre_get {xss : List (List Int)} {i j : Nat} (h : i < xss.length) (hj : j < xss[i].length) : ∃ h' : jpre xss i + j < xss.flatten.length, xss.flatten[jpre xss i + j] = xss[i][j] := by
  have e : xss = xss.take i ++ xss[i] :: xss.drop (i + 1) := by rw [← List.drop_eq_getElem_cons h, List.take_append_drop]
  have e2 : xss.flatten = (xss.take i).flatten ++ (xss[i] ++ (xss.drop (i + 1)).flatten) := by
    conv => lhs; rw [e, List.flatten_append, List.flatten_cons]
  refine ⟨by rw [e2]; simp only [jpre, List.length_append]; omega, ?_⟩
  simp only [e2]
  rw [List.getElem_append_right (by simp only [jpre]; omega)]
  simp only [jpre, Nat.add_sub_cancel_left]
  rw [List.getElem_append_left hj]

set_option maxHeartbeats 1000000 in
theorem join1_int (bx c : Nat) (A : Option Addr) (Dv D : Nat → Prop) (vs : List Value) (xss : List (List Int)) (w : World) (hlen2 : vs.length = xss.length)
    (hb : w.cell? ⟨bx, 0, none⟩ = some (.slice A vs.length c)) (hr : Row1 (fun v : Value => v) Dv w A vs) (hDv : ∀ b, Dv b → b < w.heap.size) (hD : ∀ b, D b → b < w.heap.size)
    (hel : ∀ i (h : i < vs.length) (h' : i < xss.length), JEl w vs[i] D xss[i]) :
    IsSeq Try.prog (.func (.func 70) #[] #[.pointer (some ⟨bx, 0, none⟩)]) (fun b => b = bx ∨ Dv b ∨ D b) (xss.flatten.map fun x => #[.int .i64 x]) w := by
  refine ⟨?_, fun _ _ _ _ _ => trivial, ?_⟩
  · rintro b ((rfl | h | h) | h)
    · exact World.block_lt_of_cell? w _ hb
    · exact hDv b h
    · exact hD b h
    · exact h.elim
  intro yf ya yc J Jx m W hW hD' hJ hJx hR hY h0
  refine .fn _ _ _ _ _ (enters_of Try.func70 (by kernel_rfl) rfl) (calls_of_FW (ro := none) (n := 0) ?_)
  refine callsIn_of_wp_marks Try.func70 rfl trivial ?_
  simp only [Try.ntmps70, List.size_toArray, List.length_cons, List.length_nil, Nat.reduceAdd, Nat.reduceSub, Array.replicate_succ, Array.replicate_zero, List.push_toArray, List.append_toArray, List.nil_append, List.cons_append]
  have hbW : W.cell? ⟨bx, 0, none⟩ = some (.slice A vs.length c) := (World.cell?_of_block (hD' bx (.inl (.inl rfl)))).trans hb
  have hbx : bx < W.heap.size := World.block_lt_of_cell? W _ hbW
  have hvl := hr.1
  have HL : Hid (vs.length = xss.length) := hlen2
  clear hlen2
  gi_wp2
  have hyb := World.alloc_heap_new W (.cells #[.func yf ya yc] 25)
  have hM1 : Mod Nil0 W (W.alloc (.cells #[.func yf ya yc] 25)) := (Mod.refl _ _).alloc _
  have hsz1 : (W.alloc (.cells #[.func yf ya yc] 25)).heap.size = W.heap.size + 1 := by simp
  generalize hW1 : W.alloc (.cells #[.func yf ya yc] 25) = W1 at hyb hM1 hsz1 ⊢
  clear hW1
  have hm0 : ∀ b, m b → b < W.heap.size ∧ ¬ (b = bx ∨ Dv b ∨ D b) ∧ ¬ Nil0 b := hR 0 m W h0
  have hPr := YBox.stab W.heap.size 25 (.func yf ya yc)
  have hlt0 : ∀ b, (b = bx ∨ Dv b ∨ D b) ∨ Nil0 b → b < W.heap.size := by
    rintro b ((rfl | h | h) | h)
    · exact hbx
    · exact Nat.lt_of_lt_of_le (hDv b h) hW
    · exact Nat.lt_of_lt_of_le (hD b h) hW
    · exact h.elim
  have hstart : JIn J (· = W.heap.size) (YBox W.heap.size 25 (.func yf ya yc)) (fun j => j) m Nil0 W (jpre xss 0) (fun b => m b ∨ b = W.heap.size) W1 :=
    ⟨m, rfl, hJ 0 m W W1 Nil0 h0 hM1 (fun _ hf => hf.elim) (fun _ hf => hf.elim), hyb, fun b hb => .inl hb, fun b hb => by subst hb; exact ⟨by omega, fun h => by have := (hm0 _ h).1; omega⟩, hM1.mono (fun _ _ hf => hf.elim)⟩
  have HS : Hid (Stab W.heap.size Nil0 J ∧ Stab W.heap.size Nil0 Jx ∧ Rng (fun b => b = bx ∨ Dv b ∨ D b) Nil0 J) := ⟨hJ, hJx, hR⟩
  refine wpIn_loop (fun a' wr => ∃ (u4 u8 u9 u10 u11 u12 u13 u19 : Value) (k : Nat) (M : Nat → Prop) (bs : List Nat),
      Hid (JIn J (· = W.heap.size) (YBox W.heap.size 25 (.func yf ya yc)) (fun j => j) m Nil0 W (jpre xss k) M wr ∧ (∀ e ∈ bs, wr.heap[e]? = some (.deferred (some [])) ∧ W.heap.size ≤ e ∧ ¬ M e) ∧ bs.Nodup) ∧ k ≤ vs.length ∧ u8 = .int .i64 k ∧
      a' = { tmps := #[.func yf ya yc, .pointer (some ⟨bx, 0, none⟩), .pointer (some ⟨W.heap.size, 0, none⟩), undef, u4, undef, .slice A vs.length c, .int .i64 (vs.length : Int), u8, u9, u10, u11, u12, u13, undef, undef, undef, undef, undef, u19], defers := bs.map fun d => { target := .collected d, args := #[] } })
    (fun a' _ => vs.length - (intOf (a'.tmps.getD 8 undef)).toNat) ?start ?round
  case start =>
    exact ⟨undef, .int .i64 (0 : Nat), undef, undef, undef, undef, undef, undef, 0, _, [], ⟨hstart, fun e he => by simp at he, List.nodup_nil⟩, Nat.zero_le _, rfl, rfl⟩
  case round =>
    rintro a' wr ⟨u4, u8, u9, u10, u11, u12, u13, u19, k, M, bs, HK, hk, rfl, rfl⟩
    clear hstart hJ hJx hR h0
    by_cases hlt : k < vs.length
    · obtain ⟨⟨m1, hMe, hj, hy1, hm1, hpv, hmod⟩, hbs, hnd⟩ := HK.out
      obtain ⟨b, o, rfl, hDb, hcell⟩ := hr.2 (by omega)
      have hc : wr.cell? ⟨b, o + k, none⟩ = some vs[k] := by
        have h1 := hcell k vs[k] (by simp [hlt])
        have h2 : W.cell? ⟨b, o + k, none⟩ = some vs[k] := (World.cell?_of_block (a := ⟨b, o + k, none⟩) (hD' b (.inl (.inr (.inl hDb))))).trans h1
        exact hmod.cell h2 (fun h => h.elim (fun h => (hm0 _ h).2.1 (.inr (.inl hDb))) id)
      have hkx : k < xss.length := by have := HL.out; omega
      have hsz := hmod.size
      have hDk : ∀ b, D b → wr.heap[b]? = w.heap[b]? := fun b hb => (hmod.block b (hlt0 b (.inl (.inr (.inr hb)))) (fun h => h.elim (fun h => (hm0 _ h).2.1 (.inr (.inr hb))) id)).trans (hD' b (.inl (.inr (.inr hb))))
      have heach := eachEl_int (hel k hlt hkx) wr (by omega) hDk hD
      have HE : Hid (Calls Try.prog 58 #[vs[k]] wr fun e B => wr = B ∧ ∃ f cap, e = .returned (.func (.func f) #[] cap) ∧ IsSeq Try.prog (.func (.func f) #[] cap) D (xss[k].map fun x => #[.int .i64 x]) wr) := heach
      have HYK : Hid (∀ j (h : j < xss[k].length) m A, J (jpre xss k + j) m A → W.heap.size ≤ A.heap.size → CallV Try.prog (.func yf ya yc) #[.int .i64 xss[k][j]] A (YPost J Jx (jpre xss k + j) m A)) := by
        intro j h m A hj hA
        obtain ⟨h1, h2⟩ := jpre_get hkx h
        have := hY _ (by rw [List.length_map]; exact h1) m A hj hA
        simp only [List.getElem_map, h2] at this
        exact this
      have HJ1 : Hid (jpre xss (k + 1) = jpre xss k + xss[k].length) := jpre_succ hkx
      have HB : Hid ((∀ e ∈ bs, wr.heap[e]? = some (.deferred (some [])) ∧ W.heap.size ≤ e ∧ ¬ M e) ∧ bs.Nodup) := ⟨hbs, hnd⟩
      have HN : Hid (∀ j, j < xss[k].length → jpre xss k + j < xss.flatten.length) := fun j h => (jpre_get hkx h).1
      have HJ0 : Hid (JIn J (· = W.heap.size) (YBox W.heap.size 25 (.func yf ya yc)) (fun j => j) m Nil0 W (jpre xss k) M wr) := HK.out.1
      clear HK hj hy1 hbs hnd hcell hDk heach hY hel hr hD' hMe hm1 hpv hb
      gi_wp2_with (gi_at_call 58; refine (calls_FW (ro := none) HE.out).mono ?_; rintro e B ⟨rfl, f, cap, rfl, hseq⟩)
      refine wpIn_range0 rfl hseq (JIn J (· = W.heap.size) (YBox W.heap.size 25 (.func yf ya yc)) (fun j => jpre xss k + j) m Nil0 W)
        (fun c j M A => c = .ret ∧ JIn Jx (· = W.heap.size) (YBox W.heap.size 25 (.func yf ya yc)) (fun j => jpre xss k + j) m Nil0 W j M A)
        M ?hps (JIn.stab HS.out.1 hPr wr.heap.size hsz) (fun c => (JIn.stab HS.out.2.1 hPr wr.heap.size hsz).const (fun _ => c = .ret)) (JIn.rng HS.out.2.2 (fun b hb => .inr (.inr hb)) (fun b hb => Nat.le_of_eq hb.symm) hlt0) HJ0.out ?hround ?hdone ?hstop
      case hps => intro x hxm; simp only [List.mem_map] at hxm; obtain ⟨v, _, rfl⟩ := hxm; rfl
      case hround =>
        intro l j hj0 M2 A hl hlA hml hJk
        have hj' : j < xss[k].length := by simpa using hj0
        simp only [List.getElem_map]
        simp only [List.zip_toArray, List.zip_cons_cons, List.zip_nil_right, List.foldl_toArray', List.foldl_cons, List.foldl_nil]
        clear hJk hml hseq
        gi_wp2
        refine ⟨Mod.refl _ _, fun A2 hA2 hrec hJ2 => ?_⟩
        have hs2 := hA2.size
        obtain ⟨m2, rfl, hj2, hy2, hm2, hpv2, hmod2⟩ := hJ2
        have hyA : A2.cell? ⟨W.heap.size, 0, none⟩ = some (.func yf ya yc) := cell_of_one' hy2
        have HC : Hid (CallV Try.prog (.func yf ya yc) #[.int .i64 xss[k][j]] A2 (YPost J Jx (jpre xss k + j) m2 A2)) := HYK.out j hj' m2 A2 hj2 hmod2.size
        have HY2 : Hid (A2.heap[W.heap.size]? = some (.cells #[.func yf ya yc] 25 (0, 0)) ∧ (∀ b, m2 b → m b ∨ W.heap.size ≤ b) ∧ (∀ b, b = W.heap.size → b < A2.heap.size ∧ ¬ m2 b) ∧ Mod (fun b => m b ∨ Nil0 b) W A2) := ⟨hy2, hm2, hpv2, hmod2⟩
        clear hj2 hy2 hm2 hpv2 hmod2 hPr
        gi_wp2_with (refine wpListIn_callV (v := .func yf ya yc) (argl := [.int .i64 xss[k][j]]) rfl rfl rfl (HC.out.mono ?_); rintro e C ⟨m3, hm3a, hm3b, (⟨rfl, hj3⟩ | ⟨rfl, hj3⟩)⟩ <;> simp only [afterCall])
        all_goals
          obtain ⟨hy2, hm2, hpv2, hmod2⟩ := HY2.out
          have hAC : Mod (fun b => m2 b ∨ b = W.heap.size) A2 C := hm3a.mono (fun b _ h => .inl h)
          have hsubM : ∀ b, (m3 b ∨ b = W.heap.size) → (m2 b ∨ b = W.heap.size) ∨ A.heap.size ≤ b := fun b hb => hb.elim (fun h => (hm3b b h).imp .inl (fun h => by omega)) (fun h => .inl (.inr h))
        · exact ⟨_, hAC, hsubM, JIn.next hm2 hpv2 hmod2 hAC (fun b hb => Nat.le_of_eq hb.symm) hm3b hj3 (hm3a.heap hy2 (hpv2 _ rfl).2)⟩
        · exact ⟨_, hAC, hsubM, rfl, JIn.next hm2 hpv2 hmod2 hAC (fun b hb => Nat.le_of_eq hb.symm) hm3b hj3 (hm3a.heap hy2 (hpv2 _ rfl).2)⟩
      case hdone =>
        rintro d m' B hd hdB hmd ⟨hsub, hmodM, hJB, -⟩
        rw [List.length_map] at hJB
        have HJB : Hid (JIn J (· = W.heap.size) (YBox W.heap.size 25 (.func yf ya yc)) (fun j => jpre xss k + j) m Nil0 W xss[k].length m' B) := hJB
        clear hJB hseq hPr
        gi_wp2
        refine ⟨⟨_, _, _, _, _, _, _, _, k + 1, m', d :: bs, ⟨?_, ?_, ?_⟩, by omega, by go_num, rfl⟩, by simp [intOf]; omega⟩
        · rw [HJ1.out]; exact HJB.out
        · intro e he
          rcases List.mem_cons.1 he with rfl | he
          · exact ⟨hdB, by omega, hmd⟩
          · obtain ⟨h1, h2, h3⟩ := HB.out.1 e he
            have hel := (Array.getElem?_eq_some_iff.1 h1).1
            exact ⟨hmodM.heap h1 (fun h => h.elim h3 id), h2, fun h => (hsub e h).elim h3 (fun h => by omega)⟩
        · refine List.nodup_cons.2 ⟨fun he => ?_, HB.out.2⟩
          have := (Array.getElem?_eq_some_iff.1 (HB.out.1 d he).1).1
          omega
      case hstop =>
        rintro d m' B c j hj' hd hdB hmd ⟨hsub, hmodM, ⟨rfl, m2, hMe, hjx, hy1, hm1, hpv, hmodW⟩, -⟩
        have hj2 : j < xss[k].length := by simpa using hj'
        have HX : Hid (Jx (jpre xss k + j + 1) m2 B ∧ (∀ b, m2 b → m b ∨ W.heap.size ≤ b) ∧ Mod (fun b => m b ∨ Nil0 b) W B ∧ (∀ b, m2 b → m' b)) := ⟨hjx, hm1, hmodW, fun b h => by rw [hMe]; exact .inl h⟩
        clear hseq hPr hjx hy1 hpv hMe
        gi_wp2
        obtain ⟨hjx, hm1, hmodW, hMm⟩ := HX.out
        have hall : ∀ e ∈ d :: bs, B.heap[e]? = some (.deferred (some [])) ∧ W.heap.size ≤ e ∧ ¬ m2 e := by
          intro e he
          rcases List.mem_cons.1 he with rfl | he
          · exact ⟨hdB, by omega, fun h => hmd (hMm _ h)⟩
          · obtain ⟨h1, h2, h3⟩ := HB.out.1 e he
            have hel := (Array.getElem?_eq_some_iff.1 h1).1
            exact ⟨hmodM.heap h1 (fun h => h.elim h3 id), h2, fun h => (hsub e (hMm _ h)).elim h3 (fun h => by omega)⟩
        have hnd : (d :: bs).Nodup := by
          refine List.nodup_cons.2 ⟨fun he => ?_, HB.out.2⟩
          have := (Array.getElem?_eq_some_iff.1 (HB.out.1 d he).1).1
          omega
        refine leaves_marks (d :: bs) B (fun e he => (hall e he).1) hnd (fun w' hw' => ⟨_, results_none rfl _ _ _, ⟨_, rfl⟩, m2, hm1, hmodW.trans' hw' (fun b hb h => by have := (hall b h).2.1; omega), .inr ⟨jpre xss k + j, ?_, ?_, trivial⟩⟩)
        · rw [List.length_map]; exact HN.out j hj2
        · exact HS.out.2.1 _ _ _ _ _ hjx hw' (fun b hb h => (hall b hb).2.2 h) (fun b hb h => by have := (hall b hb).2.1; omega)
    · obtain rfl : k = vs.length := by omega
      have hlN : jpre xss vs.length = xss.flatten.length := by unfold jpre; rw [HL.out, List.take_length]
      obtain ⟨⟨m1, hMe, hj, hy1, hm1, hpv, hmod⟩, hbs, hnd⟩ := HK.out
      have HR : Hid (J xss.flatten.length m1 wr ∧ (∀ b, m1 b → m b ∨ W.heap.size ≤ b) ∧ Mod (fun b => m b ∨ Nil0 b) W wr ∧ (∀ e ∈ bs, wr.heap[e]? = some (.deferred (some [])) ∧ W.heap.size ≤ e ∧ ¬ m1 e) ∧ bs.Nodup) :=
        ⟨by rw [← hlN]; exact hj, hm1, hmod, fun e he => ⟨(hbs e he).1, (hbs e he).2.1, fun h => (hbs e he).2.2 (by rw [hMe]; exact .inl h)⟩, hnd⟩
      clear HK hj hy1 hm1 hpv hmod hbs hnd hY hel hr hD' hMe hb hlN
      gi_wp2
      obtain ⟨hj, hm1, hmod, hbs, hnd⟩ := HR.out
      refine leaves_marks bs wr (fun d hd => (hbs d hd).1) hnd (fun w' hw' => ⟨_, results_none rfl _ _ _, ⟨_, rfl⟩, m1, hm1, hmod.trans' hw' (fun b hb h => by have := (hbs b h).2.1; omega), .inl ⟨?_, trivial⟩⟩)
      rw [List.length_map]
      exact HS.out.1 _ _ _ _ _ hj hw' (fun b hb h => (hbs b hb).2.2 h) (fun b hb h => by have := (hbs b hb).2.1; omega)
end Go.Proofs.Ytobioeehfigmcaa
