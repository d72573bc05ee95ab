/- The law's closures over extents. No condition but the bounds. -/
import Derived.Test.YtobioeehfigmcaaEx16
import Derived.LoopN
import Derived.StillTailTactics
set_option linter.unusedSimpArgs false
set_option linter.unusedVariables false
set_option maxRecDepth 100000
namespace Go.Proofs.Ytobioeehfigmcaa
open Go Go.RowKit Go.Shelf

def ClM (bi bk bg : Nat) (b : Nat) : Prop := b = bi ∨ b = bk ∨ b = bg
def ClBox (bi bk bg : Nat) (i k : Int) (A : World) : Prop := A.heap[bi]? = some (.cells #[.int .i64 i] 3 (0, 0)) ∧ A.heap[bk]? = some (.cells #[.int .i64 k] 3 (0, 0)) ∧ A.heap[bg]? = some (.cells #[.bool true] 4 (0, 0))

def ClPost (bi bk bg : Nat) (i k : Int) (W : World) (e : Ending) (B : World) : Prop := (∃ b, e = .returned (.bool b)) ∧ Mod (ClM bi bk bg) W B ∧ ClBox bi bk bg i k B
theorem clos_step {bi bk bg : Nat} {i k : Int} {W : World} (n : Nat) (i' k' : Int) (h12 : bi ≠ bk) (h13 : bi ≠ bg) (h23 : bk ≠ bg) (hB : ClBox bi bk bg i k W) :
    Mod (ClM bi bk bg) W (((W.drewN n).setCell ⟨bi, 0, none⟩ (.int .i64 i')).setCell ⟨bk, 0, none⟩ (.int .i64 k')) ∧ ClBox bi bk bg i' k' (((W.drewN n).setCell ⟨bi, 0, none⟩ (.int .i64 i')).setCell ⟨bk, 0, none⟩ (.int .i64 k')) := by
  refine ⟨(((Mod.refl _ _).drewN n).setCell _ _ (fun _ => .inl rfl)).setCell _ _ (fun _ => .inr (.inl rfl)), ?_⟩
  obtain ⟨b1, b2, b3⟩ := hB
  refine ⟨?_, ?_, ?_⟩
  · rw [Below.heap_setCell _ _ _ _ (by simpa using h12)]; exact Boxed.set (B := bi) (.int .i64 i') (v := .int .i64 i) (W := W.drewN n) b1
  · exact Boxed.set (B := bk) (.int .i64 k') (v := .int .i64 k) (by show ((W.drewN n).setCell _ _).heap[bk]? = _; rw [Below.heap_setCell _ _ _ _ (by simpa using Ne.symm h12)]; exact b2)
  · rw [Below.heap_setCell _ _ _ _ (by simpa using Ne.symm h23), Below.heap_setCell _ _ _ _ (by simpa using Ne.symm h13)]; exact b3
theorem clos_end {bi bk bg : Nat} {i k : Int} {W : World} (n : Nat) (h12 : bi ≠ bk) (h13 : bi ≠ bg) (h23 : bk ≠ bg) (hB : ClBox bi bk bg i k W) :
    Mod Nil0 W (W.drewN n) ∧ ClBox bi bk bg i k (W.drewN n) ∧ (∀ V, Mod Nil0 W V → ∀ k' : Int, ClBox bi bk bg i k V → Mod (ClM bi bk bg) W ((V.setCell ⟨bg, 0, none⟩ (.bool true)).setCell ⟨bk, 0, none⟩ (.int .i64 k'))) ∧
      (∀ V, ClBox bi bk bg i k V → ∀ k' : Int, ClBox bi bk bg i k' ((V.setCell ⟨bg, 0, none⟩ (.bool true)).setCell ⟨bk, 0, none⟩ (.int .i64 k'))) := by
  refine ⟨(Mod.refl _ _).drewN n, hB, fun V hV k' _ => ?_, fun V hV k' => ?_⟩
  · exact ((hV.mono (fun _ _ hf => hf.elim)).setCell _ _ (fun _ => .inr (.inr rfl))).setCell _ _ (fun _ => .inr (.inl rfl))
  · obtain ⟨b1, b2, b3⟩ := hV
    refine ⟨?_, ?_, ?_⟩
    · rw [Below.heap_setCell _ _ _ _ (by simpa using h12), Below.heap_setCell _ _ _ _ (by simpa using h13)]; exact b1
    · exact Boxed.set (B := bk) (.int .i64 k') (v := .int .i64 k) (by show (V.setCell _ _).heap[bk]? = _; rw [Below.heap_setCell _ _ _ _ (by simpa using h23)]; exact b2)
    · rw [Below.heap_setCell _ _ _ _ (by simpa using Ne.symm h23)]; exact Boxed.set (B := bg) (.bool true) b3
set_option maxHeartbeats 2000000 in
theorem ask15_a (bi bl bk bg i k : Nat) (s : Int) (A : Option Addr) (c : Nat) (D : Nat → Prop) (xs : List (Int × Int)) (W : World) (hB : ClBox bi bk bg i k W) (hl : W.cell? ⟨bl, 0, none⟩ = some (.slice A xs.length c)) (hr : RowK 2 encE D W A xs)
    (h12 : bi ≠ bk) (h13 : bi ≠ bg) (h23 : bk ≠ bg) (h40 : xs.length ≤ 40) (hi : i < xs.length) (hk : (k : Int) < xs[i].2) (hN : xs[i].2 ≤ 1099511627776) (hp0 : 0 ≤ xs[i].1) (hp1 : xs[i].1 ≤ 1099511627776) (hs : s = xs[i].1 + (k : Int)) :
    Calls Try.prog 37 #[.int .i64 s, .pointer (some ⟨bi, 0, none⟩), .pointer (some ⟨bl, 0, none⟩), .pointer (some ⟨bk, 0, none⟩), .pointer (some ⟨bg, 0, none⟩)] W (ClPost bi bk bg i (k + 1) W) := by
  obtain ⟨b1, b2, b3⟩ := hB
  have c1 := cell_of_one' b1
  have c2 := cell_of_one' b2
  have c3 := cell_of_one' b3
  have f2 := free_of_one' b2
  have f3 := free_of_one' b3
  have HB := Lib.hid (And.intro b1 (And.intro b2 b3))
  obtain ⟨b, o, rfl, hDb, hc1, hc2⟩ := hr.ext hi
  generalize xs[i].1 = p at hc1 hs hp0 hp1
  generalize xs[i].2 = q at hc2 hk hN
  subst hs
  clear hr b1 b2 b3
  have hne : ((k : Int) == q) = false := by simp; omega
  go_enter Try.func37, Try.ntmps37
  go_wp2
  refine wp_loop_rounds 1 ?_
  rw [rounds_succ]
  go_wp2
  go_quiet (fail)
  go_wp2
  refine wp_region_still_tail 18 (by kernel_rfl) (by kernel_rfl) ?_
  simp only [List.take_succ_cons, List.take_zero, List.drop_succ_cons, List.drop_zero]
  change wpStill _ _ (World.drewN W (nq + 1)) _ _ _
  have hwr : IntKind.i64.wrap (p + (k : Int)) = p + (k : Int) := IntWalk.i64_in _ (by omega)
  repeat still_step
  refine wpStill_nil ?_
  change wpList _ _ _ _ _ (World.drewN W (nq + 1))
  clear hwr
  obtain ⟨h1, h2, h3, h4⟩ := clos_end (nq + 1) h12 h13 h23 HB.out
  generalize World.drewN W (nq + 1) = W2 at h1 h2 h3 h4 ⊢
  obtain ⟨b1, b2, b3⟩ := h2
  have c1 := cell_of_one' b1
  have c2 := cell_of_one' b2
  have c3 := cell_of_one' b3
  have f2 := free_of_one' b2
  have f3 := free_of_one' b3
  have n1 : ¬ bk = bg := h23
  have n2 : ¬ bg = bk := fun h => h23 h.symm
  have n3 : ¬ bi = bg := h13
  have n4 : ¬ bi = bk := h12
  have n5 : ¬ bg = bi := fun h => h13 h.symm
  have n6 : ¬ bk = bi := fun h => h12 h.symm
  have HM := Lib.hid (And.intro h1 (And.intro h3 h4))
  have HC2 := Lib.hid (show ClBox bi bk bg i k W2 from ⟨b1, b2, b3⟩)
  clear b1 b2 b3 h1 h3 h4 h12 h13 h23
  go_wp2
  all_goals
    go_ret
    exact ⟨⟨_, rfl⟩, HM.out.2.1 _ HM.out.1 _ HC2.out, HM.out.2.2 _ HC2.out _⟩


set_option maxHeartbeats 4000000 in
theorem ask15_b (bi bl bk bg i k : Nat) (s : Int) (A : Option Addr) (c : Nat) (D : Nat → Prop) (xs : List (Int × Int)) (W : World) (hB : ClBox bi bk bg i k W) (hl : W.cell? ⟨bl, 0, none⟩ = some (.slice A xs.length c)) (hr : RowK 2 encE D W A xs)
    (h12 : bi ≠ bk) (h13 : bi ≠ bg) (h23 : bk ≠ bg) (hlm : ¬ ClM bi bk bg bl) (hDm : ∀ b, D b → ¬ ClM bi bk bg b) (h40 : xs.length ≤ 40) (hi0 : i < xs.length) (hk : (k : Int) = xs[i].2) (hi : i + 1 < xs.length) (hN1 : 1 ≤ xs[i + 1].2) (hN : xs[i + 1].2 ≤ 1099511627776) (hp0 : 0 ≤ xs[i + 1].1) (hp1 : xs[i + 1].1 ≤ 1099511627776) (hs : s = xs[i + 1].1) :
    Calls Try.prog 37 #[.int .i64 s, .pointer (some ⟨bi, 0, none⟩), .pointer (some ⟨bl, 0, none⟩), .pointer (some ⟨bk, 0, none⟩), .pointer (some ⟨bg, 0, none⟩)] W (ClPost bi bk bg (i + 1) 1 W) := by
  obtain ⟨b1, b2, b3⟩ := hB
  have c1 := cell_of_one' b1
  have c2 := cell_of_one' b2
  have c3 := cell_of_one' b3
  have f1 := free_of_one' b1
  have f2 := free_of_one' b2
  have f3 := free_of_one' b3
  have HB := Lib.hid (And.intro b1 (And.intro b2 b3))
  have HR := Lib.hid (And.intro hr (And.intro hl (And.intro hlm hDm)))
  obtain ⟨b, o, rfl, hDb, hc1, hc2⟩ := hr.ext hi0
  rw [← hk] at hc2
  generalize xs[i].1 = p0 at hc1
  have HX := Lib.hid (And.intro (rfl : xs[i + 1].1 = xs[i + 1].1) (rfl : xs[i + 1].2 = xs[i + 1].2))
  obtain ⟨p, hp⟩ : ∃ p, xs[i + 1].1 = p := ⟨_, rfl⟩
  obtain ⟨q, hq⟩ : ∃ q, xs[i + 1].2 = q := ⟨_, rfl⟩
  have HPQ := Lib.hid (And.intro hp hq)
  rw [hp] at hs hp0 hp1
  rw [hq] at hN hN1
  subst hs
  have HI := Lib.hid hi
  clear hr b1 b2 b3 hlm hDm hp hq hk HX
  have hkk : ((k : Int) == (k : Int)) = true := by simp
  have n1 : ¬ bi = bk := h12
  have n2 : ¬ bk = bi := fun h => h12 h.symm
  go_enter Try.func37, Try.ntmps37
  go_wp2
  refine wp_loop_rounds 2 ?_
  rw [rounds_succ]
  go_wp2
  go_quiet (fail)
  go_wp2
  obtain ⟨hM3, hB3⟩ := clos_step nq ((i : Int) + 1) 0 h12 h13 h23 HB.out
  generalize ((W.drewN nq).setCell ⟨bi, 0, none⟩ (.int .i64 ((i : Int) + 1))).setCell ⟨bk, 0, none⟩ (.int .i64 0) = W3 at hM3 hB3 ⊢
  have HM3 := Lib.hid hM3
  have HB3 := Lib.hid hB3
  obtain ⟨b1, b2, b3⟩ := hB3
  clear c1 c2 c3 f1 f2 f3 hc1 hc2 n1 n2 hkk hl
  have c1 := cell_of_one' b1
  have c2 := cell_of_one' b2
  have c3 := cell_of_one' b3
  have hl3 := hM3.cell HR.out.2.1 HR.out.2.2.1
  obtain ⟨b', o', he, hDb', hc1, hc2⟩ := HR.out.1.ext HI.out
  simp only [Option.some.injEq, Addr.mk.injEq, and_true] at he
  obtain ⟨rfl, rfl⟩ := he
  rw [HPQ.out.1] at hc1
  rw [HPQ.out.2] at hc2
  replace hc1 := hM3.cell hc1 (HR.out.2.2.2 _ hDb)
  replace hc2 := hM3.cell hc2 (HR.out.2.2.2 _ hDb)
  clear hM3 b1 b2 b3
  have hi := HI.out
  have hne : ((0 : Int) == q) = false := by simp; omega
  have hlt1 : decide ((i : Int) + 1 < (xs.length : Int)) = true := by simp; omega
  have hlt2 : (i : Int) + 1 < (xs.length : Int) := by omega
  have hlt3 : (0 : Int) ≤ (i : Int) + 1 := by omega
  have hlt4 : ((i : Int) + 1).toNat = i + 1 := by omega
  rw [rounds_succ]
  go_wp2
  go_quiet (fail)
  go_wp2
  refine wp_region_still_tail 18 (by kernel_rfl) (by kernel_rfl) ?_
  simp only [List.take_succ_cons, List.take_zero, List.drop_succ_cons, List.drop_zero]
  change wpStill _ _ (World.drewN W3 (nq + 1)) _ _ _
  have hwr : IntKind.i64.wrap (s + 0) = s := by rw [Int.add_zero]; exact IntWalk.i64_in _ (by omega)
  repeat still_step
  refine wpStill_nil ?_
  change wpList _ _ _ _ _ (World.drewN W3 (nq + 1))
  clear hwr
  obtain ⟨h1, h2, h3, h4⟩ := clos_end (nq + 1) h12 h13 h23 HB3.out
  generalize World.drewN W3 (nq + 1) = W2 at h1 h2 h3 h4 ⊢
  obtain ⟨b1, b2, b3⟩ := h2
  have c1 := cell_of_one' b1
  have c2 := cell_of_one' b2
  have c3 := cell_of_one' b3
  have f2 := free_of_one' b2
  have f3 := free_of_one' b3
  have n1 : ¬ bk = bg := h23
  have n2 : ¬ bg = bk := fun h => h23 h.symm
  have n3 : ¬ bi = bg := h13
  have n4 : ¬ bi = bk := h12
  have n5 : ¬ bg = bi := fun h => h13 h.symm
  have n6 : ¬ bk = bi := fun h => h12 h.symm
  have HM := Lib.hid (And.intro h1 (And.intro h3 h4))
  have HC2 := Lib.hid (show ClBox bi bk bg (i + 1) 0 W2 from ⟨b1, b2, b3⟩)
  clear b1 b2 b3 h1 h3 h4
  go_wp2
  all_goals
    go_ret
    exact ⟨⟨_, rfl⟩, HM3.out.trans (HM.out.2.1 _ HM.out.1 _ HC2.out), HM.out.2.2 _ HC2.out _⟩


end Go.Proofs.Ytobioeehfigmcaa
