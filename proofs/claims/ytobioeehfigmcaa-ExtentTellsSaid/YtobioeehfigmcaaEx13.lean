/- The reference's Apart, Has, Total and Take over extents. No condition but the bounds. -/
import Derived.Test.YtobioeehfigmcaaEx12
set_option linter.unusedSimpArgs false
set_option linter.unusedVariables false
set_option maxRecDepth 100000
namespace Go.Proofs.Ytobioeehfigmcaa
open Go Go.RowKit Go.Shelf
attribute [local go_sem] Oper.semAt_some

theorem apart_bad {xs : List (Int × Int)} {k : Nat} (h : k < xs.length) (hn : ¬ Ext.okE xs[k]) : Ext.apartB xs = false := by
  unfold Ext.apartB; rw [decide_eq_false_iff_not]; exact fun ha => hn (ha.1 _ (List.getElem_mem h))
theorem apart_meet {xs : List (Int × Int)} {j k : Nat} (hk : k < xs.length) (hj : j < k) (hn : ¬ Ext.dj xs[j] xs[k]) : Ext.apartB xs = false := by
  unfold Ext.apartB; rw [decide_eq_false_iff_not]; exact fun ha => hn (List.pairwise_iff_getElem.1 ha.2 j k (by omega) hk hj)
theorem take_all {xs : List (Int × Int)} {x : Int × Int} {j k : Nat} (hk : k < xs.length) (hj : j < k) (h : ∀ y ∈ xs.take j, Ext.dj y x) (h2 : Ext.dj xs[j] x) : ∀ y ∈ xs.take (j + 1), Ext.dj y x := by
  intro y hy
  rw [List.take_succ_eq_append_getElem (by omega)] at hy
  rcases List.mem_append.1 hy with hy | hy
  · exact h y hy
  · simp at hy; subst hy; exact h2

set_option maxHeartbeats 4000000 in
theorem refApart (A : Option Addr) (c : Nat) (D : Nat → Prop) (xs : List (Int × Int)) (w : World) (hr : RowK 2 encE D w A xs) (hD : ∀ b, D b → b < w.heap.size) (h40 : xs.length ≤ 40) (hcap : xs.length ≤ c) :
    Calls Try.prog 30 #[.slice A xs.length c] w fun e B => e = .returned (.bool (Ext.apartB xs)) ∧ Mod Nil0 w B := by
  have HR : Hid (RowK 2 encE D w A xs ∧ ∀ b, D b → b < w.heap.size) := ⟨hr, hD⟩
  clear hr hD
  go_enter Try.func30, Try.ntmps30
  go_wp2
  go_loopw [9] (fun i wr => ∃ k : Nat, k ≤ xs.length ∧ i = .int .i64 k ∧ Hid (Ext.apart (xs.take k) ∧ Mod Nil0 w wr)) (fun i _ => xs.length - (intOf i).toNat)
  case atStart => exact ⟨0, Nat.zero_le _, rfl, ⟨by simp, by simp⟩, Mod.refl _ _⟩
  case round =>
    obtain ⟨k, hk, rfl, HK⟩ := hrel
    by_cases hlt : k < xs.length
    · obtain ⟨w0, hw0⟩ : ∃ w0, w0 = wr := ⟨_, rfl⟩
      subst hw0
      have hrow := HR.out.1.keep (fun b hb => HK.out.2.block b (HR.out.2 b hb) (fun hf => hf))
      obtain ⟨b, o, rfl, hDb, hc1, hc2⟩ := hrow.ext hlt
      have HB : Hid (Ext.okE xs[k] ∨ Ext.apartB xs = false) := by by_cases h : Ext.okE xs[k]; exact .inl h; exact .inr (apart_bad hlt h)
      have HX : Hid (xs[k] = (xs[k].1, xs[k].2)) := rfl
      have HM : Hid (Mod Nil0 w w0) := HK.out.2
      generalize hp : xs[k].1 = p at hc1 HX
      generalize hq : xs[k].2 = q at hc2 HX
      clear hp hq
      by_cases h1 : p < 0
      · have HF : Hid (Ext.apartB xs = false) := HB.out.elim (fun h => by rw [HX.out] at h; unfold Ext.okE at h; simp only at h; omega) id
        clear HB HK
        go_wp2
        go_ret
        exact ⟨by rw [HF.out]; rfl, HM.out.alloc _⟩
      by_cases h2 : q < 1
      · have HF : Hid (Ext.apartB xs = false) := HB.out.elim (fun h => by rw [HX.out] at h; unfold Ext.okE at h; simp only at h; omega) id
        clear HB HK
        go_wp2
        go_ret
        exact ⟨by rw [HF.out]; rfl, HM.out.alloc _⟩
      by_cases h3 : q > 1099511627776
      · have HF : Hid (Ext.apartB xs = false) := HB.out.elim (fun h => by rw [HX.out] at h; unfold Ext.okE at h; simp only at h; omega) id
        clear HB HK
        go_wp2
        go_ret
        exact ⟨by rw [HF.out]; rfl, HM.out.alloc _⟩
      by_cases h4 : p > 1099511627776 - q
      · have HF : Hid (Ext.apartB xs = false) := HB.out.elim (fun h => by rw [HX.out] at h; unfold Ext.okE at h; simp only at h; omega) id
        clear HB HK
        go_wp2
        go_ret
        exact ⟨by rw [HF.out]; rfl, HM.out.alloc _⟩
      have HO : Hid (Ext.okE xs[k]) := by show Ext.okE xs[k]; rw [HX.out]; unfold Ext.okE; simp only; omega
      clear HB
      have hbx := World.alloc_heap_new w0 (.cells #[.int .i64 p, .int .i64 q] 64)
      have HI := Lib.hid (And.intro hbx ((Mod.refl Nil0 w0).alloc (.cells #[.int .i64 p, .int .i64 q] 64)))
      clear hbx
      go_wp2
      go_loopw [39] (fun i wr' => ∃ j : Nat, j ≤ k ∧ i = .int .i64 j ∧ Hid ((∀ y ∈ xs.take j, Ext.dj y xs[k]) ∧ Mod Nil0 w0 wr' ∧ wr'.heap[w0.heap.size]? = some (.cells #[.int .i64 p, .int .i64 q] 64 (0, 0)))) (fun i _ => k - (intOf i).toNat)
      case atStart => exact ⟨0, Nat.zero_le _, rfl, by simp, HI.out.2, HI.out.1⟩
      case round =>
        obtain ⟨j, hj, rfl, HJ⟩ := hrel
        by_cases hlj : j < k
        · obtain ⟨b', o', he, hDb', hd1, hd2⟩ := (HR.out.1.keep (fun b hb => (HJ.out.2.1.block b (by have := HR.out.2 b hb; have := HM.out.size; omega) (fun hf => hf)).trans (HM.out.block b (HR.out.2 b hb) (fun hf => hf)))).ext (show j < xs.length by omega)
          simp only [Option.some.injEq, Addr.mk.injEq, and_true] at he
          obtain ⟨rfl, rfl⟩ := he
          have hx1 : wr.cell? ⟨w0.heap.size, 0, none⟩ = some (.int .i64 p) := by have := HJ.out.2.2; simp [World.cell?, this]
          have hx2 : wr.cell? ⟨w0.heap.size, 1, none⟩ = some (.int .i64 q) := by have := HJ.out.2.2; simp [World.cell?, this]
          have hbz : w0.heap.size < wr.heap.size := (Array.getElem?_eq_some_iff.1 HJ.out.2.2).1
          have HY : Hid (xs[j] = (xs[j].1, xs[j].2)) := rfl
          have hoy := HK.out.1.1 xs[j] (by rw [List.mem_take_iff_getElem]; exact ⟨j, by omega, rfl⟩)
          unfold Ext.okE at hoy
          generalize hp : xs[j].1 = p' at hd1 HY hoy
          generalize hq : xs[j].2 = q' at hd2 HY hoy
          clear hp hq
          obtain ⟨hy1, hy2, hy3, hy4⟩ := hoy
          by_cases h5 : p < p' + q'
          · by_cases h6 : p' < p + q
            · have HF : Hid (Ext.apartB xs = false) := apart_meet hlt hlj (by rw [HX.out, HY.out]; unfold Ext.dj; simp only; omega)
              have hM2 := Lib.hid (HM.out.trans HJ.out.2.1)
              clear HK HI HJ
              go_wp2
              go_ret
              exact ⟨by rw [HF.out]; rfl, hM2.out.alloc _⟩
            · have HD := Lib.hid (take_all hlt hlj HJ.out.1 (by rw [HX.out, HY.out]; unfold Ext.dj; simp only; omega))
              have hM2 := Lib.hid (And.intro HJ.out.2.1 HJ.out.2.2)
              clear HK HI HJ
              go_wp2
              exact ⟨⟨j + 1, by omega, by go_num, HD.out, hM2.out.1.alloc _, (Below.heap_alloc _ _ _ hbz).trans hM2.out.2⟩, by simp [intOf]; omega⟩
          · have HD := Lib.hid (take_all hlt hlj HJ.out.1 (by rw [HX.out, HY.out]; unfold Ext.dj; simp only; omega))
            have hM2 := Lib.hid (And.intro HJ.out.2.1 HJ.out.2.2)
            clear HK HI HJ
            go_wp2
            exact ⟨⟨j + 1, by omega, by go_num, HD.out, hM2.out.1.alloc _, (Below.heap_alloc _ _ _ hbz).trans hM2.out.2⟩, by simp [intOf]; omega⟩
        · obtain rfl : j = k := by omega
          have HN : Hid (Ext.apart (xs.take (j + 1)) ∧ Mod Nil0 w wr) := ⟨by rw [List.take_succ_eq_append_getElem hlt, Ext.apart_snoc]; exact ⟨HK.out.1, HO.out, HJ.out.1⟩, HM.out.trans HJ.out.2.1⟩
          clear HK HI HJ
          go_wp2
          exact ⟨⟨j + 1, by omega, by go_num, HN.out⟩, by simp [intOf]; omega⟩
    · obtain rfl : k = xs.length := by omega
      have HF : Hid (Ext.apartB xs = true ∧ Mod Nil0 w wr) := ⟨by have := HK.out.1; rw [List.take_length] at this; simp [Ext.apartB, this], HK.out.2⟩
      clear HK
      go_wp2
      go_ret
      exact ⟨by rw [HF.out.1]; rfl, HF.out.2⟩
end Go.Proofs.Ytobioeehfigmcaa
