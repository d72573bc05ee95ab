/- The law's own function values, and its check of the basis. No condition. -/
import Derived.Test.YtobioeehfigmcaaRf2
set_option linter.unusedSimpArgs false
set_option linter.unusedVariables false
set_option maxRecDepth 100000
namespace Go.Proofs.Ytobioeehfigmcaa
open Go Go.RowKit Go.Shelf

/-- The strings that the law's check hands over. -/
def s1 : ByteArray := ⟨#[97]⟩
def s2 : ByteArray := ⟨#[98, 99]⟩
theorem pred_lt (bn : Nat) (n : Int) (w : World) (hb : w.heap[bn]? = some (.cells #[.int .i64 n] 3 (0, 0))) : PredV Try.prog (.func (.func 8) #[] #[.pointer (some ⟨bn, 0, none⟩)]) (· = bn) (Value.int .i64) (fun x => decide (x < n)) (fun _ => True) w := by
  refine ⟨fun b hb' => hb' ▸ (Array.getElem?_eq_some_iff.1 hb).1, fun W x hW hD _ => ?_⟩
  refine .fn _ _ _ _ _ (enters_of Try.func8 (by kernel_rfl) rfl) ?_
  show Calls Try.prog 8 #[.int .i64 x, .pointer (some ⟨bn, 0, none⟩)] W _
  have hc := cell_of_one' ((hD bn rfl).trans hb)
  clear hb hD
  go_enter Try.func8, Try.ntmps8
  go_wp2
  go_ret
  exact ⟨rfl, Mod.refl _ _⟩
theorem fun_xor (w : World) : FunG Try.prog (.func (.func 22) #[] #[]) Nil0 (Value.int .i64) (fun x => .int .i64 (bits .xor .i64 x 1)) (fun _ => True) w := by
  refine ⟨fun b hb' => hb'.elim, fun W x hW hD _ => ?_⟩
  refine .fn _ _ _ _ _ (enters_of Try.func22 (by kernel_rfl) rfl) ?_
  show Calls Try.prog 22 #[.int .i64 x] W _
  go_enter Try.func22, Try.ntmps22
  go_wp2
  go_ret
  exact ⟨rfl, Mod.refl _ _⟩
theorem pred_two (w : World) : PredV Try.prog (.func (.func 54) #[] #[]) Nil0 Value.string (fun s => ((s.size : Int) == 2)) (· ∈ [s1, s2]) w := by
  refine ⟨fun b hb' => hb'.elim, fun W x hW hD hx => ?_⟩
  refine .fn _ _ _ _ _ (enters_of Try.func54 (by kernel_rfl) rfl) ?_
  show Calls Try.prog 54 #[.string x] W _
  have hx2 : x.size ≤ 2 := by simp only [List.mem_cons, List.not_mem_nil, or_false] at hx; rcases hx with rfl | rfl <;> decide
  clear hx
  go_enter Try.func54, Try.ntmps54
  go_wp2
  go_ret
  exact ⟨rfl, Mod.refl _ _⟩
theorem fun_add (x y : Int) (W : World) (h1 : -4611686018427387904 ≤ x) (h2 : x ≤ 4611686018427387904) (h3 : -4611686018427387904 ≤ y) (h4 : y ≤ 4611686018427387903) : CallV Try.prog (.func (.func 56) #[] #[]) #[.int .i64 x, .int .i64 y] W fun e B => e = .returned (.int .i64 (x + y)) ∧ Mod Nil0 W B := by
  refine .fn _ _ _ _ _ (enters_of Try.func56 (by kernel_rfl) rfl) ?_
  show Calls Try.prog 56 #[.int .i64 x, .int .i64 y] W _
  go_enter Try.func56, Try.ntmps56
  go_wp2
  go_ret
  exact ⟨rfl, Mod.refl _ _⟩

theorem row_alloc {α : Type} (enc : α → Value) (xs : List α) (t : TypeId) (W : World) (hl : xs.length ≤ 140737488351232) : Row1 enc (fun b => b = W.heap.size) (W.alloc (.cells (xs.map enc).toArray t)) (some ⟨W.heap.size, 0, none⟩) xs := by
  refine ⟨hl, fun _ => ⟨W.heap.size, 0, rfl, rfl, fun j x hj => ?_⟩⟩
  have := World.alloc_heap_new W (.cells (xs.map enc).toArray t)
  simp only [World.cell?, this]
  simp [hj]
theorem find_two {w B : World} {Wr : Nat → Prop} {e : Ending} {It : Option Nat → World → Prop} (h : RFind Value.string (⟨#[]⟩ : ByteArray) (fun s => ((s.size : Int) == 2)) [s1, s2] Wr w It e B) : e = .returned (.tuple #[.string s2, .bool true]) ∧ Mod Wr w B := by
  obtain ⟨hm, ⟨_, h, _⟩ | ⟨i, hi, h, _, rfl, _⟩⟩ := h
  · have h2 : ((s2.size : Int) == 2) = false := h s2 (by simp)
    have h3 : ((s2.size : Int) == 2) = true := by decide
    rw [h3] at h2; cases h2
  · match i, hi with
    | 0, _ =>
      have h3 : ((s1.size : Int) == 2) = false := by decide
      have h : ((s1.size : Int) == 2) = true := h
      rw [h3] at h; cases h
    | 1, _ => exact ⟨rfl, hm⟩
theorem fold_three {w : World} (k : Nat) (h : k < [(1 : Int), 2, 3].length) (W : World) (hW : w.heap.size ≤ W.heap.size) (hD : ∀ b, Nil0 b → W.heap[b]? = w.heap[b]?) :
    CallV Try.prog (.func (.func 56) #[] #[]) #[.int .i64 ([(10 : Int), 11, 13, 16].getD k 0), .int .i64 [(1 : Int), 2, 3][k]] W fun e B => e = .returned (.int .i64 ([(10 : Int), 11, 13, 16].getD (k + 1) 0)) ∧ Mod Nil0 W B := by
  match k, h with
  | 0, _ => exact fun_add 10 1 W (by decide) (by decide) (by decide) (by decide)
  | 1, _ => exact fun_add 11 2 W (by decide) (by decide) (by decide) (by decide)
  | 2, _ => exact fun_add 13 3 W (by decide) (by decide) (by decide) (by decide)
theorem basis_cell {w B1 B2 B3 B4 B5 B6 B7 : World} {o1 o4 o6 : Obj} {A : Option Addr} {D : Nat → Prop} (h1 : Mod Nil0 (w.alloc o1) B1) (h2 : Mod Nil0 B1 B2) (h3 : Mod Nil0 B2 B3) (hr : Row1 (Value.int .i64) D B3 A [5, 6]) (h4 : Mod Nil0 (B3.alloc o4) B4) (h5 : Mod Nil0 B4 B5) (h6 : Mod Nil0 (B5.alloc o6) B6) (h7 : Mod Nil0 B6 B7) :
    (∃ b o, A = some ⟨b, o, none⟩ ∧ B7.cell? ⟨b, o + 1, none⟩ = some (.int .i64 6)) ∧ Mod Nil0 w B7 := by
  have h37 : Mod Nil0 B3 B7 := (((((Mod.refl _ _).alloc o4).trans h4).trans h5).trans ((((Mod.refl _ _).alloc o6).trans h6))).trans h7
  obtain ⟨b, o, e, _, hc⟩ := hr.cell (k := 1) (by simp)
  exact ⟨⟨b, o, e, h37.cell hc (fun h => h)⟩, ((((Mod.refl _ _).alloc o1).trans h1).trans (h2.trans h3)).trans h37⟩
set_option maxHeartbeats 1000000 in
theorem basis05 (w : World) : Calls Try.prog 7 #[] w fun e B => e = .returned (.bool true) ∧ Mod Nil0 w B := by
  go_enter Try.func7, Try.ntmps7
  have hz2 : (s2.toList == [98, 99]) = true := by kernel_rfl
  go_wp2_with (first
    | (go_at_call 9; refine (list_int _ _ _ Nil0 _ [5, 6] _ hs2 (by simp)).mono ?_; rintro e B3 ⟨A1, c1, rfl, hm3, hr3, -⟩)
    | (go_at_call 10; refine (firstS_int _ 2 _ _ Nil0 _ [5, 6, 7] _ (fun _ _ h => h) hs1 trivial (by decide) (by decide)).mono ?_; rintro e B2 ⟨f2, cap2, rfl, hm2, hs2⟩)
    | (go_at_call 19; refine (ofS_int _ 3 _ [5, 6, 7] _ (row_alloc (Value.int .i64) [5, 6, 7] 3 w (by simp)) (by simp)).mono ?_; rintro e B1 ⟨f1, cap1, rfl, hm1, hs1⟩)
    | (go_at_call 53; refine (of_str _ 2 _ [s1, s2] _ (row_alloc Value.string [s1, s2] 9 B3 (by simp)) (by simp)).mono ?_; rintro e B4 ⟨f4, cap4, D4, rfl, hm4, hD4, hs4⟩)
    | (go_at_call 52; go_loud (refine (find_str _ _ _ _ D4 Nil0 Nil0 _ [s1, s2] _ _ hs4 (pred_two _) (fun _ _ h => h) (fun _ _ h => h)).mono ?_); rintro e B5 h5; obtain ⟨rfl, hm5⟩ := find_two h5; clear h5)
    | (go_at_call 19; refine (ofS_int _ 3 _ [1, 2, 3] _ (row_alloc (Value.int .i64) [1, 2, 3] 3 B5 (by simp)) (by simp)).mono ?_; rintro e B6 ⟨f6, cap6, rfl, hm6, hs6⟩)
    | (go_at_call 55; refine (fold_int _ _ _ _ _ Nil0 Nil0 _ [1, 2, 3] 10 (fun k => [10, 11, 13, 16].getD k 0) _ rfl hs6 (fun _ h => h.elim) fold_three).mono ?_; rintro e B7 ⟨rfl, hm7, -⟩; obtain ⟨hc7, HM⟩ := basis_cell hm1 hm2 hm3 hr3 hm4 hm5 hm6 hm7; obtain ⟨b7, o7, rfl, hc7⟩ := hc7))
  go_ret
  exact ⟨rfl, HM⟩
end Go.Proofs.Ytobioeehfigmcaa
