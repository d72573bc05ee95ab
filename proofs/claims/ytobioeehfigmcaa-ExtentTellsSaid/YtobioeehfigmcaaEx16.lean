/- The reference's Same over extents; the law's closures. No condition but the bounds. -/
import Derived.Test.YtobioeehfigmcaaEx15
import Derived.Deep.QuietTactic
import Derived.BigQuiet
set_option linter.unusedSimpArgs false
set_option linter.unusedVariables false
set_option maxRecDepth 100000
namespace Go.Proofs.Ytobioeehfigmcaa
open Go Go.RowKit Go.Shelf

theorem run_neqE (p q p' q' : Int) (w : World) : (binOp .neq 64 (.agg #[.int .i64 p, .int .i64 q]) (.agg #[.int .i64 p', .int .i64 q'])).run Try.prog w = .ok (.bool (! (decide (p = p') && decide (q = q')))) w := by
  simp [go_sem]
  by_cases h1 : p = p' <;> by_cases h2 : q = q' <;> simp [h1, h2]
set_option maxHeartbeats 1000000 in
theorem same_ext (A B : Option Addr) (c d : Nat) (D : Nat → Prop) (xs ys : List (Int × Int)) (w : World) (hx : RowK 2 encE D w A xs) (hy : RowK 2 encE D w B ys) :
    Calls Try.prog 33 #[.slice A xs.length c, .slice B ys.length d] w fun e C => e = .returned (.bool (decide (xs = ys))) ∧ Mod Nil0 w C := by
  have bx := hx.1
  have by' := hy.1
  by_cases hl : xs.length = ys.length
  · have HL : Hid (xs.length = ys.length) := hl
    have HX : Hid (RowK 2 encE D w A xs) := hx
    have HY : Hid (RowK 2 encE D w B ys) := hy
    have hz : ((xs.length : Int) != (ys.length : Int)) = false := by simp [hl]
    clear hx hy hl
    go_enter Try.func33, Try.ntmps33
    go_wp2
    go_loopw [13] (fun i wr => ∃ k : Nat, k ≤ xs.length ∧ i = .int .i64 k ∧ Hid (xs.take k = ys.take k ∧ ∃ n, wr = w.drewN n)) (fun i _ => xs.length - (intOf i).toNat)
    case atStart => exact ⟨0, Nat.zero_le _, rfl, by simp, 0, rfl⟩
    case round =>
      obtain ⟨k, hk, rfl, HK⟩ := hrel
      obtain ⟨htk, n, rfl⟩ := HK.out
      by_cases hlt : k < xs.length
      · have hly : k < ys.length := by have := HL.out; omega
        obtain ⟨b, o, rfl, hDb, hc1, hc2⟩ := HX.out.ext hlt
        obtain ⟨b', o', rfl, hDb', hd1, hd2⟩ := HY.out.ext hly
        have HT : Hid (xs.take k = ys.take k) := htk
        have HE := Lib.hid (show xs[k] = ys[k] ↔ (xs[k].1 = ys[k].1 ∧ xs[k].2 = ys[k].2) from Prod.ext_iff)
        generalize xs[k].1 = p at hc1 HE
        generalize xs[k].2 = q at hc2 HE
        generalize ys[k].1 = p' at hd1 HE
        generalize ys[k].2 = q' at hd2 HE
        have hrn := run_neqE p q p' q'
        clear HK htk
        by_cases he : p = p' ∧ q = q'
        · have HF := Lib.hid (HE.out.2 he)
          rw [show (!(decide (p = p') && decide (q = q'))) = false by simp [he]] at hrn
          clear HE he
          go_wp2
          go_quiet (fail)
          go_wp2
          refine ⟨⟨k + 1, by omega, by go_num, ?_, _, rfl⟩, by simp [intOf]; omega⟩
          rw [List.take_succ_eq_append_getElem hlt, List.take_succ_eq_append_getElem hly, HT.out, HF.out]
        · have HF := Lib.hid (fun h => he (HE.out.1 h))
          rw [show (!(decide (p = p') && decide (q = q'))) = true by simp; exact Decidable.not_and_iff_or_not.1 he] at hrn
          clear HE he
          go_wp2
          go_quiet (fail)
          go_wp2
          go_ret
          refine ⟨?_, ((Mod.refl _ _).drewN _).drewN _⟩
          have : ¬ xs = ys := fun h => HF.out (by subst h; rfl)
          simp [this]
      · obtain rfl : k = xs.length := by omega
        have HT : Hid (xs.take xs.length = ys.take xs.length) := htk
        clear HK htk
        go_wp2
        go_ret
        refine ⟨?_, (Mod.refl _ _).drewN _⟩
        have := HT.out
        rw [List.take_length, HL.out, List.take_length] at this
        simp [this]
  · have hz : ((xs.length : Int) != (ys.length : Int)) = true := by rw [bne_iff_ne]; omega
    have HL : Hid (¬ xs.length = ys.length) := hl
    clear hx hy hl
    go_enter Try.func33, Try.ntmps33
    go_wp2
    go_ret
    refine ⟨?_, Mod.refl _ _⟩
    have : ¬ xs = ys := fun h => HL.out (by subst h; rfl)
    simp [this]
end Go.Proofs.Ytobioeehfigmcaa
