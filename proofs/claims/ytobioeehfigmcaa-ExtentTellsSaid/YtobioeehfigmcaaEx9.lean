/- The program's Apart, Total and Take over extents. No condition but the bounds. -/
import Derived.Test.YtobioeehfigmcaaEx8
import Derived.Test.YtobioeehfigmcaaJn2
set_option linter.unusedSimpArgs false
set_option linter.unusedVariables false
set_option maxRecDepth 100000
namespace Go.Proofs.Ytobioeehfigmcaa
open Go Go.RowKit Go.Shelf
attribute [local go_sem] Oper.semAt_some

/-- What a loop has made so far: a row of the call's own. -/
def OwnE (w : World) (ys : List (Int × Int)) (v : Value) (A : World) : Prop := A.ownsRow w.heap.size 64 2 v ys.length (ys.flatMap encE) ∧ Mod Nil0 w A
theorem OwnE.nil (w A : World) (h : Mod Nil0 w A) : OwnE w [] (.slice none 0 0) A := ⟨World.ownsRow_nil _ _ _ _, h⟩
theorem OwnE.next {w A B : World} {ys : List (Int × Int)} {y : Int × Int} {v v1 : Value} (h : OwnE w ys v A) (ho : B.ownsRow w.heap.size 64 2 v1 (ys.length + 1) (ys.flatMap encE ++ [.int .i64 y.1, .int .i64 y.2])) (hg : Mod (fun b => v.ownBlock = some b) A B) :
    OwnE w (ys ++ [y]) v1 B :=
  ⟨by simpa [encE] using ho, h.2.trans' hg (fun b hb hv => by have := (own_lt h.1 hv).1; omega)⟩
theorem OwnE.alloc {w A : World} {ys : List (Int × Int)} {v : Value} (h : OwnE w ys v A) (o : Obj) : OwnE w ys v (A.alloc o) := ⟨h.1.alloc _, h.2.alloc _⟩
theorem OwnE.mod {w A B : World} {ys : List (Int × Int)} {v : Value} (h : OwnE w ys v A) (hm : Mod Nil0 A B) : OwnE w ys v B :=
  ⟨own_move h.1 (fun b hb => hm.block b (own_lt h.1 hb).2 (fun hf => hf)), h.2.trans hm⟩
theorem OwnE.row {w A : World} {ys : List (Int × Int)} {v : Value} (h : OwnE w ys v A) (hl : ys.length ≤ 140737488351232) :
    ∃ A' c, v = .slice A' ys.length c ∧ Mod Nil0 w A ∧ RowK 2 encE (fun b => w.heap.size ≤ b ∧ b < A.heap.size) A A' ys := by
  obtain ⟨A', c, e, hr⟩ := RowK.of_own encE_len (by omega) h.1 hl
  exact ⟨A', c, e, h.2, hr.mono (fun b hb => ⟨hb.1, hb.2.1⟩)⟩
theorem chain_drop {rs : List (Int × Int)} {k : Nat} (h : k < rs.length) (low : Int) :
    Ext.chain low (rs.drop k) = (decide (low ≤ rs[k].1 ∧ 1 ≤ rs[k].2 ∧ rs[k].2 ≤ 1099511627776 ∧ rs[k].1 ≤ 1099511627776 - rs[k].2) && Ext.chain (rs[k].1 + rs[k].2) (rs.drop (k + 1))) := by
  rw [List.drop_eq_getElem_cons h, Ext.chain]

set_option maxHeartbeats 2000000 in
theorem apart_ext (A : Option Addr) (c : Nat) (D : Nat → Prop) (xs : List (Int × Int)) (w : World) (hr : RowK 2 encE D w A xs) (hD : ∀ b, D b → b < w.heap.size) (hbig : xs.length * 16 ≤ 140737488355328) :
    Calls Try.prog 29 #[.slice A xs.length c] w fun e B => e = .returned (.bool (Ext.apartB xs)) ∧ Mod Nil0 w B := by
  have hri := fun W (hm : Mod Nil0 w W) => rising_ext A c D xs W (hr.keep (fun b hb => hm.block b (hD b hb) (fun hf => hf))) (fun b hb => Nat.lt_of_lt_of_le (hD b hb) hm.size) hbig
  have bx := hr.1
  clear hr hD
  go_enter Try.func29, Try.ntmps29
  go_wp2_with (go_at_call 73; refine (hri _ (Mod.refl _ _)).mono ?_; go_loud (clear hri; rintro e B ⟨rs, hperm, hris, v, rfl, hm, hown, -⟩; obtain ⟨A', c', rfl, hrow⟩ := RowK.of_own encE_len (by omega) hown (by rw [hperm.length_eq]; exact bx); have hlen := hperm.length_eq; have hbl : rs.length ≤ 140737488351232 := (by omega); have HP : Hid (rs.Perm xs ∧ Ext.Rises rs ∧ Mod Nil0 w B ∧ RowK 2 encE (fun b => b < B.heap.size) B A' rs ∧ rs.length = xs.length) := ⟨hperm, hris, hm, hrow.mono (fun b hb => hb.2.1), hlen⟩; clear hperm hris hm hrow hlen hown))
  go_loopw [3, 9] (fun lo i wr => ∃ (k : Nat) (low : Int), k ≤ rs.length ∧ i = .int .i64 k ∧ lo = .int .i64 low ∧ 0 ≤ low ∧ low ≤ 1099511627776 ∧ Hid (Ext.chain 0 rs = Ext.chain low (rs.drop k) ∧ Mod Nil0 B wr)) (fun _ i _ => rs.length - (intOf i).toNat)
  case atStart => exact ⟨0, 0, Nat.zero_le _, rfl, rfl, by omega, by omega, by simp, Mod.refl _ _⟩
  case round =>
    obtain ⟨k, low, hk, rfl, rfl, hl0, hl1, HK⟩ := hrel
    by_cases hlt : k < rs.length
    · obtain ⟨b, o, rfl, hDb, hc1, hc2⟩ := (HP.out.2.2.2.1.keep (fun b hb => HK.out.2.block b hb (fun hf => hf))).ext hlt
      have HC : Hid (Ext.chain 0 rs = _) := HK.out.1.trans (chain_drop hlt low)
      have HM : Hid (Mod Nil0 B wr) := HK.out.2
      clear HK
      generalize rs[k] = x at hc1 hc2 HC
      obtain ⟨p, q⟩ := x
      simp only at hc1 hc2
      by_cases h1 : p < low
      · have HF : Hid (Ext.chain 0 rs = false) := by show _ = _; rw [HC.out]; simp; omega
        clear HC
        go_wp2
        go_ret
        exact ⟨by rw [← HF.out, Ext.chain_apart HP.out.1 HP.out.2.1]; rfl, HP.out.2.2.1.trans (HM.out.alloc _)⟩
      by_cases h2 : q < 1
      · have HF : Hid (Ext.chain 0 rs = false) := by show _ = _; rw [HC.out]; simp; omega
        clear HC
        go_wp2
        go_ret
        exact ⟨by rw [← HF.out, Ext.chain_apart HP.out.1 HP.out.2.1]; rfl, HP.out.2.2.1.trans (HM.out.alloc _)⟩
      by_cases h3 : q > 1099511627776
      · have HF : Hid (Ext.chain 0 rs = false) := by show _ = _; rw [HC.out]; simp; omega
        clear HC
        go_wp2
        go_ret
        exact ⟨by rw [← HF.out, Ext.chain_apart HP.out.1 HP.out.2.1]; rfl, HP.out.2.2.1.trans (HM.out.alloc _)⟩
      by_cases h4 : p > 1099511627776 - q
      · have HF : Hid (Ext.chain 0 rs = false) := by show _ = _; rw [HC.out]; simp; omega
        clear HC
        go_wp2
        go_ret
        exact ⟨by rw [← HF.out, Ext.chain_apart HP.out.1 HP.out.2.1]; rfl, HP.out.2.2.1.trans (HM.out.alloc _)⟩
      have HF : Hid (Ext.chain 0 rs = Ext.chain (p + q) (rs.drop (k + 1))) := by show _ = _; rw [HC.out]; simp; omega
      clear HC
      go_wp2
      exact ⟨⟨k + 1, p + q, by omega, by go_num, rfl, by omega, by omega, HF.out, HM.out.alloc _⟩, by simp [intOf]; omega⟩
    · obtain rfl : k = rs.length := by omega
      have HF : Hid (Ext.chain 0 rs = true) := by show _ = _; rw [HK.out.1]; simp [Ext.chain]
      have HM : Hid (Mod Nil0 B wr) := HK.out.2
      clear HK
      go_wp2
      go_ret
      exact ⟨by rw [← HF.out, Ext.chain_apart HP.out.1 HP.out.2.1]; rfl, HP.out.2.2.1.trans HM.out⟩

theorem take_flat {xs : List (Int × Int)} {k : Nat} (h : k < xs.length) : Ext.sumE (xs.take (k + 1)) = Ext.sumE (xs.take k) + xs[k].2 := by
  rw [List.take_succ_eq_append_getElem h, Ext.sumE_snoc]

theorem total_add (n : Int) (x : Int × Int) (W : World) (h : -9223372036854775808 ≤ n + x.2) (h2 : n + x.2 ≤ 9223372036854775807) :
    CallV Try.prog (.func (.func 76) #[] #[]) #[.int .i64 n, aggE x] W fun e B => e = .returned (.int .i64 (n + x.2)) ∧ Mod Nil0 W B := by
  refine .fn _ _ _ _ _ (enters_of Try.func76 (by kernel_rfl) rfl) ?_
  obtain ⟨p, q⟩ := x
  simp only at h h2
  show Calls _ _ #[.int .i64 n, .agg #[.int .i64 p, .int .i64 q]] _ _
  go_enter Try.func76, Try.ntmps76
  go_wp2
  go_ret
  exact ⟨rfl, (Mod.refl _ _).alloc _⟩
theorem eqNil_foldE (fn : Fn) (a c : Array Value) (w : World) : (binOp .eql 107 (.func fn a c) .nilFunc).run Try.prog w = .ok (.bool false) w := by kernel_rfl
attribute [local go_sem] eqNil_foldE
set_option maxHeartbeats 1000000 in
theorem fold_ext (f fi : Nat) (cap capi : Array Value) (D Wr Di : Nat → Prop) (It : Option Nat → World → Prop) (xs : List (Int × Int)) (z : Int) (acc : Nat → Int) (w : World) (h0 : acc 0 = z)
    (hseq : SeqSpec Try.prog (.func (.func f) #[] cap) D Wr It (xs.map fun x => #[aggE x]) w) (hDi : ∀ b, Di b → b < w.heap.size ∧ ¬ Wr b)
    (hfun : ∀ k (h : k < xs.length) (W : World), w.heap.size ≤ W.heap.size → (∀ b, Di b → W.heap[b]? = w.heap[b]?) → CallV Try.prog (.func (.func fi) #[] capi) #[.int .i64 (acc k), aggE xs[k]] W fun e B => e = .returned (.int .i64 (acc (k + 1))) ∧ Mod Nil0 W B) :
    Calls Try.prog 74 #[.func (.func f) #[] cap, .int .i64 z, .func (.func fi) #[] capi] w fun e B => e = .returned (.int .i64 (acc xs.length)) ∧ Mod Wr w B ∧ It none B := by
  have hWr := fun b (h : Wr b) => hseq.1 b (.inr h)
  refine calls_of_FW (ro := none) (n := 0) ?_
  refine callsIn_of_wp_marks Try.func74 rfl trivial ?_
  simp only [Try.ntmps74, List.size_toArray, List.length_cons, List.length_nil, Nat.reduceAdd, Nat.reduceSub, Array.replicate_succ, Array.replicate_zero, List.push_toArray, List.append_toArray, List.nil_append, List.cons_append]
  have HF : Hid (∀ k (h : k < xs.length) (W : World), w.heap.size ≤ W.heap.size → (∀ b, Di b → W.heap[b]? = w.heap[b]?) → CallV Try.prog (.func (.func fi) #[] capi) #[.int .i64 (acc k), aggE xs[k]] W fun e B => e = .returned (.int .i64 (acc (k + 1))) ∧ Mod Nil0 W B) := hfun
  have HD : Hid ((∀ b, Di b → b < w.heap.size ∧ ¬ Wr b) ∧ (∀ b, Wr b → b < w.heap.size)) := ⟨hDi, hWr⟩
  have HZ : Hid (acc 0 = z) := h0
  clear hfun hDi hWr h0
  gi_wp2_with (gi_at_call 118; refine (calls_FW (ro := none) (each_ext f cap _)).mono ?_; rintro e B ⟨rfl, rfl⟩)
  have hM1 := two_mod w (.cells #[.int .i64 z] 3) (.cells #[.func (.func fi) #[] capi] 107)
  have hsz1 := two_size w (.cells #[.int .i64 z] 3) (.cells #[.func (.func fi) #[] capi] 107)
  have hb0 : ((w.alloc (.cells #[.int .i64 z] 3)).alloc (.cells #[.func (.func fi) #[] capi] 107)).heap[w.heap.size]? = some (.cells #[.int .i64 z] 3 (0, 0)) := (Below.heap_alloc _ _ _ (by simp)).trans (World.alloc_heap_new w _)
  have hb1 := (two_cells w (.int .i64 z) (.func (.func fi) #[] capi) 3 107).2
  generalize hW1 : (w.alloc (.cells #[.int .i64 z] 3)).alloc (.cells #[.func (.func fi) #[] capi] 107) = W1 at hM1 hsz1 hb0 hb1 ⊢
  clear hW1
  have hseq1 := hseq.mod hM1 (fun _ _ hf => hf)
  have hb1' : Hid (W1.cell? ⟨w.heap.size + 1, 0, none⟩ = some (.func (.func fi) #[] capi)) := hb1
  have HM1 : Hid (Mod Nil0 w W1) := hM1
  refine wpIn_range0 rfl hseq1 (FoldJ (Value.int .i64) 3 acc w.heap.size Wr W1) (fun _ _ _ _ => False) (· = w.heap.size) ?hps (FoldJ.stab W1.heap.size (Nat.le_refl _)) (fun c _ _ _ _ _ h => h.elim) ?hrng ⟨rfl, by rw [HZ.out]; exact hb0, Mod.refl _ _⟩ ?hround ?hdone ?hstop
  case hrng =>
    rintro k m A ⟨rfl, h, hm⟩ b rfl
    exact ⟨(Array.getElem?_eq_some_iff.1 h).1, fun h => by have := hseq.1 _ (.inl h); omega, fun h => by have := hseq.1 _ (.inr h); omega⟩
  case hps => intro x hxm; simp only [List.mem_map] at hxm; obtain ⟨v, _, rfl⟩ := hxm; rfl
  case hstop => rintro d m' B c k hk hd hdB hmd ⟨_, _, hf, _⟩; exact hf.elim
  case hround =>
    intro l k hk M A hl hlA hml hJk
    have hk' : k < xs.length := by simpa using hk
    simp only [List.getElem_map]
    simp only [List.zip_toArray, List.zip_cons_cons, List.zip_nil_right, List.foldl_toArray', List.foldl_cons, List.foldl_nil]
    clear hJk hml hseq hseq1 hM1 hb0
    unfold aggE
    gi_wp2
    refine ⟨(Mod.refl _ _).alloc _, fun A2 hA2 hrec hJ2 => ?_⟩
    have hb5 : A2.heap[A.heap.size]? = some (.cells #[.int .i64 xs[k].1, .int .i64 xs[k].2] 64 (0, 0)) := hA2.heap (World.alloc_heap_new A _) (by omega)
    have hc50 : A2.cell? ⟨A.heap.size, 0, none⟩ = some (.int .i64 xs[k].1) := by simp [World.cell?, hb5]
    have hc51 : A2.cell? ⟨A.heap.size, 1, none⟩ = some (.int .i64 xs[k].2) := by simp [World.cell?, hb5]
    have hs2 := hA2.size
    have hs3 : A.heap.size + 1 ≤ A2.heap.size := by simpa using hs2
    clear hs2 hb5
    obtain ⟨rfl, hbA, hmodA⟩ := hJ2
    have hcA := cell_of_one' hbA
    have hsA := hmodA.size
    have hbxl := (Array.getElem?_eq_some_iff.1 hbA).1
    have hfA : A2.cell? ⟨w.heap.size + 1, 0, none⟩ = some (.func (.func fi) #[] capi) := hmodA.cell hb1'.out (fun h => h.elim (fun h => by have : w.heap.size + 1 = w.heap.size := h; omega) (fun h => by have : w.heap.size + 1 < w.heap.size := HD.out.2 _ h; omega))
    have HC : Hid (CallV Try.prog (.func (.func fi) #[] capi) #[.int .i64 (acc k), .agg #[.int .i64 xs[k].1, .int .i64 xs[k].2]] A2 fun e B => e = .returned (.int .i64 (acc (k + 1))) ∧ Mod Nil0 A2 B) :=
      HF.out k hk' A2 (by omega) (fun b hb => (hmodA.block b (by have := HD.out.1 b hb; omega) (fun h => h.elim (fun h => by have := HD.out.1 b hb; omega) (HD.out.1 b hb).2)).trans (HM1.out.block b (HD.out.1 b hb).1 (fun hf => hf)))
    have HB : Hid (A2.heap[w.heap.size]? = some (.cells #[.int .i64 (acc k)] 3 (0, 0)) ∧ Mod (fun b => b = w.heap.size ∨ Wr b) W1 A2) := ⟨hbA, hmodA⟩
    clear hbA hmodA hb1
    gi_wp2_with (refine wpListIn_callV (v := .func (.func fi) #[] capi) (argl := [.int .i64 (acc k), .agg #[.int .i64 xs[k].1, .int .i64 xs[k].2]]) rfl rfl rfl (HC.out.mono ?_); rintro e B ⟨rfl, hB⟩; simp only [afterCall]; have hbB := hB.heap HB.out.1 (fun hf => hf); have hcB := cell_of_one' hbB; have hfB := free_of_one' hbB)
    have hMA : Mod (· = w.heap.size) A2 (B.setCell ⟨w.heap.size, 0, none⟩ (.int .i64 (acc (k + 1)))) := (hB.mono (fun _ _ hf => hf.elim)).setCell ⟨w.heap.size, 0, none⟩ _ (fun _ => rfl)
    exact ⟨(· = w.heap.size), hMA, fun b hb => .inl hb, rfl, Boxed.set (B := w.heap.size) _ hbB, HB.out.2.trans' hMA (fun b hb h => .inl h)⟩
  case hdone =>
    rintro d m' B hd hdB hmd ⟨hsub, hmod, ⟨rfl, hbB, hmodB⟩, hit⟩
    rw [List.length_map] at hbB
    have hcB := cell_of_one' hbB
    have hbxl := (Array.getElem?_eq_some_iff.1 hbB).1
    have HI : Hid (It none B ∧ Mod (fun b => b = w.heap.size ∨ Wr b) W1 B ∧ ItStab Wr It) := ⟨hit, hmodB, hseq.2.1⟩
    clear hseq hseq1 hit hmodB hbB hb1 hb0 hM1 hmod
    gi_wp2
    refine leaves_one hdB ⟨_, results_tmp rfl _ _ _, rfl, ?_, ?_⟩
    · exact (HM1.out.mono (T := Wr) (fun _ _ hf => hf.elim)).trans' (HI.out.2.1.putObj d _ (fun h => by omega)) (fun b hb h => h.elim (fun h => by omega) id)
    · exact HI.out.2.2 _ _ _ HI.out.1 (fun b h => World.putObj_heap_other (by have := HD.out.2 _ h; omega))

/-- The sums of the first k. -/
def accE (xs : List (Int × Int)) (k : Nat) : Int := Ext.sumE (xs.take k)
theorem accE_bd {xs : List (Int × Int)} (h : Ext.apart xs) (h40 : xs.length ≤ 40) (k : Nat) : 0 ≤ accE xs k ∧ accE xs k ≤ 43980465111040 := by
  have := Ext.sumE_bd (xs.take k) (fun x hx => h.1 x (List.mem_of_mem_take hx))
  have h2 : (xs.take k).length ≤ 40 := by rw [List.length_take]; omega
  unfold accE; omega
theorem accE_succ {xs : List (Int × Int)} {k : Nat} (h : k < xs.length) : accE xs (k + 1) = accE xs k + xs[k].2 := take_flat h
theorem total_ext (A : Option Addr) (c : Nat) (D : Nat → Prop) (xs : List (Int × Int)) (w : World) (hr : RowK 2 encE D w A xs) (hD : ∀ b, D b → b < w.heap.size) (h40 : xs.length ≤ 40) :
    Calls Try.prog 31 #[.slice A xs.length c] w fun e B => e = .returned (.int .i64 (Ext.total xs)) ∧ Mod Nil0 w B := by
  have ha := fun W (hm : Mod Nil0 w W) => apart_ext A c D xs W (hr.keep (fun b hb => hm.block b (hD b hb) (fun hf => hf))) (fun b hb => Nat.lt_of_lt_of_le (hD b hb) hm.size) (by omega)
  have ho := fun W (hm : Mod Nil0 w W) => of_ext A c D xs W (hr.keep (fun b hb => hm.block b (hD b hb) (fun hf => hf))) (by omega)
  clear hr hD
  by_cases hap : Ext.apart xs
  · have HT : Hid (Ext.apartB xs = true ∧ Ext.total xs = Ext.sumE xs) := ⟨by simp [Ext.apartB, hap], by simp [Ext.total, hap]⟩
    have HA : Hid (Ext.apart xs) := hap
    clear hap
    go_enter Try.func31, Try.ntmps31
    go_wp2_with (first
      | (go_at_call 29; refine (ha _ (Mod.refl _ _)).mono ?_; clear ha; rintro e B ⟨rfl, hm⟩; rw [HT.out.1])
      | (go_at_call 75; refine (ho _ hm).mono ?_; clear ho; rintro e B1 ⟨f1, cap1, rfl, hm1, hs1⟩)
      | (go_at_call 74; refine (fold_ext f1 _ cap1 #[] _ Nil0 Nil0 _ xs 0 (accE xs) _ rfl hs1 (fun _ h => h.elim) (fun k h W _ _ => by rw [accE_succ h]; exact total_add _ _ W (by have := accE_bd HA.out h40 (k + 1); rw [accE_succ h] at this; omega) (by have := accE_bd HA.out h40 (k + 1); rw [accE_succ h] at this; omega))).mono ?_; rintro e B2 ⟨rfl, hm2, -⟩))
    go_ret
    exact ⟨by rw [HT.out.2, accE, List.take_length]; rfl, (hm.trans hm1).trans hm2⟩
  · have HT : Hid (Ext.apartB xs = false ∧ Ext.total xs = 0) := ⟨by simp [Ext.apartB, hap], by simp [Ext.total, hap]⟩
    clear hap
    go_enter Try.func31, Try.ntmps31
    go_wp2_with (go_at_call 29; refine (ha _ (Mod.refl _ _)).mono ?_; clear ha; rintro e B ⟨rfl, hm⟩; rw [HT.out.1])
    go_ret
    exact ⟨by rw [HT.out.2]; rfl, hm⟩
end Go.Proofs.Ytobioeehfigmcaa
