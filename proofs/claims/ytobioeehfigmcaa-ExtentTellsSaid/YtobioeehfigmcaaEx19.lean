/- The law's first look over extents. No condition. -/
import Derived.Test.YtobioeehfigmcaaEx18
set_option linter.unusedSimpArgs false
set_option linter.unusedVariables false
set_option maxRecDepth 100000
namespace Go.Proofs.Ytobioeehfigmcaa
open Go Go.RowKit Go.Shelf
attribute [local go_sem] Oper.semAt_some

theorem row_one (w : World) (p q : Int) : RowK 2 encE (fun b => b = w.heap.size) (w.alloc (.cells #[.int .i64 p, .int .i64 q] 64)) (some ⟨w.heap.size, 0, none⟩) [(p, q)] := by
  refine ⟨by simp, fun _ => ⟨_, _, rfl, rfl, fun j x hj i v hi => ?_⟩⟩
  have hj0 : j = 0 := by have := (List.getElem?_eq_some_iff.1 hj).1; simp at this; exact this
  subst hj0
  simp at hj
  subst hj
  obtain ⟨h1, h2⟩ := two_at w p q
  match i, hi with
  | 0, hi => simp [encE] at hi; subst hi; simp [h1]
  | 1, hi => simp [encE] at hi; subst hi; simp [h2]
theorem basis_free {w B : World} {e : Ending} (h : RFree [(2, 3)] 0 8 w e B) : RTup [(0, 2), (5, 3)] 0 w e B := by
  obtain ⟨rs, hp, _, ⟨_, h⟩ | ⟨hn, h⟩⟩ := h
  · have : rs = [(2, 3)] := List.perm_singleton.1 hp
    subst this
    exact h
  · exact absurd (show FreeArg [(2, 3)] 0 8 from by unfold FreeArg; decide) hn
theorem basis_take3 : takeOut [(0, 2), (5, 3)] 3 = [(0, 2), (5, 1)] ∧ takeErr [(0, 2), (5, 3)] 3 = 0 := by decide
theorem basis_take6 : takeOut [(0, 2), (5, 3)] 6 = [] ∧ takeErr [(0, 2), (5, 3)] 6 = 31 := by decide
theorem basis_secs : Ext.secsA [(0, 2), (5, 1)] = [0, 1, 5] := by decide
theorem basis_total : Ext.total [(0, 2), (5, 3)] = 5 := by decide
theorem basis_apart : Ext.apartB [(0, 2), (5, 3)] = true ∧ Ext.apartB [(1, 0)] = false := by decide

theorem last15 (bl : Nat) (s u : Int) (W : World) (hb : W.heap[bl]? = some (.cells #[.int .i64 u] 3 (0, 0))) :
    Calls Try.prog 72 #[.int .i64 s, .pointer (some ⟨bl, 0, none⟩)] W fun e B => e = .returned (.bool true) ∧ B = W.setCell ⟨bl, 0, none⟩ (.int .i64 s) := by
  have c1 := cell_of_one' hb
  have f1 := free_of_one' hb
  clear hb
  go_enter Try.func72, Try.ntmps72
  go_wp2
  go_ret
  exact ⟨rfl, rfl⟩
def LastJ (bl : Nat) (vs : List Int) (W : World) (j : Nat) (m : Nat → Prop) (A : World) : Prop := m = (· = bl) ∧ Mod (· = bl) W A ∧ A.heap[bl]? = some (.cells #[.int .i64 ((0 :: vs).getD j 0)] 3 (0, 0))
theorem last15_run (f : Nat) (cap : Array Value) (D' : Nat → Prop) (bl : Nat) (vs : List Int) (W : World) (hseq : SeqSpec Try.prog (.func (.func f) #[] cap) D' Nil0 (fun _ _ => True) (vs.map fun n => #[.int .i64 n]) W)
    (hb : W.heap[bl]? = some (.cells #[.int .i64 0] 3 (0, 0))) (hD : ¬ D' bl) :
    CallV Try.prog (.func (.func f) #[] cap) #[.func (.func 72) #[] #[.pointer (some ⟨bl, 0, none⟩)]] W fun e B => (∃ r, e = .returned r) ∧ Mod (· = bl) W B ∧ B.heap[bl]? = some (.cells #[.int .i64 ((0 :: vs).getD vs.length 0)] 3 (0, 0)) := by
  refine (hseq.2.2 _ _ _ (LastJ bl vs W) (fun _ _ _ => False) (· = bl) W (Nat.le_refl _) (fun _ _ => rfl) ?_ (fun _ _ _ _ _ h => h.elim) ?_ ?_ ⟨rfl, Mod.refl _ _, by simpa using hb⟩).mono ?_
  · rintro j m A B S ⟨rfl, hm, h⟩ hAB hS hS2
    exact ⟨rfl, hm.trans' hAB (fun b hb h => (hS2 b h hb).elim), hAB.heap h (fun h => hS _ h rfl)⟩
  · rintro j m A ⟨rfl, hm, h⟩ b rfl
    exact ⟨(Array.getElem?_eq_some_iff.1 h).1, hD, fun h => h⟩
  · rintro j hj m A ⟨rfl, hm, h⟩ hWA
    refine .fn _ _ _ _ _ (enters_of Try.func72 (by kernel_rfl) rfl) ?_
    have hj' : j < vs.length := by simpa using hj
    simp only [List.getElem_map]
    refine (last15 bl vs[j] _ A h).mono ?_
    rintro e B ⟨rfl, rfl⟩
    have hM : Mod (· = bl) A (A.setCell ⟨bl, 0, none⟩ (.int .i64 vs[j])) := (Mod.refl _ _).setCell _ _ (fun _ => rfl)
    refine ⟨(· = bl), hM, fun b hb => .inl hb, .inl ⟨rfl, rfl, hm.trans hM, ?_⟩⟩
    have := Boxed.set (B := bl) (.int .i64 vs[j]) h
    rw [show (0 :: vs).getD (j + 1) 0 = vs[j] by simp [hj']]
    exact this
  · rintro e B ⟨hv, m', hm', hmod, ⟨⟨-, hM, h⟩, -⟩ | ⟨k, hk, hf, -⟩⟩
    · exact ⟨hv, hM, by simpa using h⟩
    · exact hf.elim
theorem neqNil_seq_int (fn : Fn) (a c : Array Value) (w : World) : (binOp .neq 28 (.func fn a c) .nilFunc).run Try.prog w = .ok (.bool true) w := by kernel_rfl
attribute [local go_sem] neqNil_seq_int
theorem cell_two {D : Nat → Prop} {w : World} {A : Option Addr} {p q p' q' : Int} (h : RowK 2 encE D w A [(p, q), (p', q')]) : ∃ b o, A = some ⟨b, o, none⟩ ∧ w.cell? ⟨b, o + 2, none⟩ = some (.int .i64 p') ∧ w.cell? ⟨b, o + 2 + 1, none⟩ = some (.int .i64 q') := by
  obtain ⟨b, o, e, _, h1, h2⟩ := h.ext (j := 1) (by simp)
  exact ⟨b, o, e, by simpa using h1, by simpa using h2⟩
theorem basis_t {w B1 B2 B3 : World} {o : Obj} {A1 A2 : Option Addr} (h : Mod Nil0 (w.alloc o) B1 ∧ Mod Nil0 B1 B2 ∧ Mod Nil0 B2 B3 ∧ RowK 2 encE (fun b => (w.alloc o).heap.size ≤ b ∧ b < B1.heap.size) B2 A1 [(0, 2), (5, 3)] ∧ RowK 2 encE (fun b => B1.heap.size ≤ b ∧ b < B2.heap.size) B2 A2 [(0, 2), (5, 1)]) :
    RowK 2 encE (fun b => b < B3.heap.size) (B3.alloc (.cells #[.int .i64 0] 3)) A2 [(0, 2), (5, 1)] :=
  ((h.2.2.2.2.at (h.2.2.1.alloc _) (fun b hb => ⟨hb.2, fun h => h⟩)).mono (fun b hb => by have := h.2.2.1.size; have := hb.2; omega))
theorem basis_box {B3 B4 : World} (hm4 : Mod Nil0 (B3.alloc (.cells #[.int .i64 0] 3)) B4) : B4.heap[B3.heap.size]? = some (.cells #[.int .i64 0] 3 (0, 0)) ∧ ¬ (Nil0 B3.heap.size ∨ ((B3.alloc (.cells #[.int .i64 0] 3)).heap.size ≤ B3.heap.size ∧ B3.heap.size < B4.heap.size)) :=
  ⟨hm4.heap (World.alloc_heap_new B3 _) (fun h => h), fun h => h.elim (fun h => h) (fun h => by have := h.1; simp at this; omega)⟩
theorem basis_cells {w B1 B2 B3 B4 B5 : World} {o : Obj} {A1 A2 : Option Addr} (h : Mod Nil0 (w.alloc o) B1 ∧ Mod Nil0 B1 B2 ∧ Mod Nil0 B2 B3 ∧ RowK 2 encE (fun b => (w.alloc o).heap.size ≤ b ∧ b < B1.heap.size) B2 A1 [(0, 2), (5, 3)] ∧ RowK 2 encE (fun b => B1.heap.size ≤ b ∧ b < B2.heap.size) B2 A2 [(0, 2), (5, 1)])
    (h4 : Mod Nil0 (B3.alloc (.cells #[.int .i64 0] 3)) B4) (h5 : Mod (· = B3.heap.size) B4 B5) :
    (∃ b o, A1 = some ⟨b, o, none⟩ ∧ B5.cell? ⟨b, o + 2, none⟩ = some (.int .i64 5) ∧ B5.cell? ⟨b, o + 2 + 1, none⟩ = some (.int .i64 3)) ∧ (∃ b o, A2 = some ⟨b, o, none⟩ ∧ B5.cell? ⟨b, o + 2, none⟩ = some (.int .i64 5) ∧ B5.cell? ⟨b, o + 2 + 1, none⟩ = some (.int .i64 1)) ∧
      Mod Nil0 w B5 ∧ RowK 2 encE (fun b => b < B5.heap.size) B5 A1 [(0, 2), (5, 3)] := by
  obtain ⟨h1, h2, h3, hr1, hr2⟩ := h
  have hM : Mod Nil0 B2 B5 := ((h3.alloc _).trans h4).trans' h5 (fun b hb e => by have := h3.size; omega)
  have s1 := h2.size
  have k1 := hr1.at hM (fun b hb => ⟨by have := hb.2; omega, fun h => h⟩)
  have k2 := hr2.at hM (fun b hb => ⟨hb.2, fun h => h⟩)
  exact ⟨cell_two k1, cell_two k2, ((((Mod.refl _ _).alloc o).trans h1).trans h2).trans hM, k1.mono (fun b hb => by have := hb.2; have := hM.size; omega)⟩
set_option maxHeartbeats 4000000 in
theorem basis15 (w : World) : Calls Try.prog 26 #[] w fun e B => e = .returned (.bool true) ∧ Mod Nil0 w B := by
  refine calls_of_FW (ro := none) (n := 0) ?_
  refine callsIn_of_wp Try.func26 rfl trivial ?_
  simp only [Try.ntmps26, List.size_toArray, List.length_cons, List.length_nil, Nat.reduceAdd, Nat.reduceSub, Array.replicate_succ, Array.replicate_zero, List.push_toArray, List.append_toArray, List.nil_append, List.cons_append]
  have hrow := row_one w 2 3
  gi_wp2_with (first
    | (gi_at_call 34; refine (calls_FW (ro := none) (free_ext _ 1 _ [(2, 3)] 0 8 _ hrow (fun b hb => by subst hb; simp) (by simp))).mono ?_; clear hrow; go_loud (rintro e B1 h; obtain ⟨A1, c1, rfl, hm1, hr1⟩ := basis_free h; clear h))
    | (gi_at_call 27; refine (calls_FW (ro := none) (take_ext A1 c1 _ [(0, 2), (5, 3)] 3 _ hr1 (fun b hb => hb.2) (by simp) (by decide))).mono ?_; rw [basis_take3.1, basis_take3.2]; go_loud (rintro e B2 ⟨A2, c2, rfl, hm2, hr2⟩; replace hr1 := hr1.at hm2 (fun b hb => ⟨hb.2, fun h => h⟩)))
    | (gi_at_call 27; refine (calls_FW (ro := none) (take_ext A1 c1 _ [(0, 2), (5, 3)] 6 _ hr1 (fun b hb => by have := hm2.size; have := hb.2; omega) (by simp) (by decide))).mono ?_; rw [basis_take6.1, basis_take6.2]; go_loud (rintro e B3 ⟨A3, c3, rfl, hm3, -⟩; have HW := Lib.hid (And.intro hm1 (And.intro hm2 (And.intro hm3 (And.intro hr1 hr2)))); clear hm1 hm2 hm3 hr1 hr2))
    | (gi_at_call 36; go_loud (refine (calls_FW (ro := none) (sectors_ext A2 c2 (fun b => b < B3.heap.size) [(0, 2), (5, 1)] _ (basis_t HW.out) (fun b hb => by simp; omega) (by simp))).mono ?_); rw [basis_secs]; go_loud (rintro e B4 ⟨f4, cap4, rfl, hm4, hs4⟩; obtain ⟨HB, HD⟩ := basis_box hm4; have HS4 := Lib.hid (And.intro hm4 (And.intro hs4 (And.intro HB HD))); clear hm4 hs4 HB HD))
    | (refine wpListIn_callV (v := .func (.func f4) #[] cap4) (argl := [.func (.func 72) #[] #[.pointer (some ⟨B3.heap.size, 0, none⟩)]]) rfl rfl rfl ((last15_run f4 cap4 _ B3.heap.size [0, 1, 5] _ HS4.out.2.1 HS4.out.2.2.1 HS4.out.2.2.2).mono ?_); go_loud (rintro e B5 ⟨⟨r, rfl⟩, hm5, hb5⟩; obtain ⟨hk1, hk2, hk3, hk4⟩ := basis_cells HW.out HS4.out.1 hm5; obtain ⟨b1, o1, rfl, hc1, hc2⟩ := hk1; obtain ⟨b2, o2, rfl, hc3, hc4⟩ := hk2; have hlast := cell_of_one' hb5; simp only [List.length_cons, List.length_nil, List.getD_cons_succ, List.getD_cons_zero, Nat.zero_add] at hlast; have HR5 := Lib.hid (And.intro hk3 hk4); clear hk3 hk4 hm5 hb5); simp only [afterCall])
    | (gi_at_call 31; refine (calls_FW (ro := none) (total_ext _ c1 (fun b => b < B5.heap.size) [(0, 2), (5, 3)] _ HR5.out.2 (fun b hb => hb) (by simp))).mono ?_; rw [basis_total]; go_loud (rintro e B6 ⟨rfl, hm6⟩; have HM6 := Lib.hid hm6; clear hm6))
    | (gi_at_call 29; refine (calls_FW (ro := none) (apart_ext _ 1 _ [(1, 0)] _ (row_one B7 1 0) (fun b hb => by subst hb; simp) (by simp))).mono ?_; rw [basis_apart.2]; go_loud (rintro e B8 ⟨rfl, hm8⟩; have HM8 := Lib.hid hm8; clear hm8))
    | (gi_at_call 29; refine (calls_FW (ro := none) (apart_ext _ c1 (fun b => b < B5.heap.size) [(0, 2), (5, 3)] _ (HR5.out.2.at HM6.out (fun b hb => ⟨hb, fun h => h⟩)) (fun b hb => Nat.lt_of_lt_of_le hb HM6.out.size) (by simp))).mono ?_; rw [basis_apart.1]; go_loud (rintro e B7 ⟨rfl, hm7⟩; have HM7 := Lib.hid hm7; clear hm7)))
  go_ret
  exact ⟨rfl, (((HR5.out.1.trans HM6.out).trans HM7.out).alloc _).trans HM8.out⟩
end Go.Proofs.Ytobioeehfigmcaa
