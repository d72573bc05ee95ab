/- The reference's Free over extents. No condition but the bounds. -/
import Derived.Test.YtobioeehfigmcaaEx14
import Derived.Sort.QuietIn
import Derived.Laws.OwnMore
set_option linter.unusedSimpArgs false
set_option linter.unusedVariables false
set_option maxRecDepth 100000
namespace Go.Proofs.Ytobioeehfigmcaa
open Go Go.RowKit Go.Shelf
attribute [local go_sem] Oper.semAt_some

theorem ext_mem {l : List (Int × Int)} {n lo : Int} (hl : ∀ y ∈ l, lo ≤ y.1 ∧ 1 ≤ y.2 ∧ y.1 + y.2 ≤ n) (h : lo ≤ n) : (∀ y ∈ Ext.ext l n, lo ≤ y.1 ∧ 1 ≤ y.2 ∧ y.1 + y.2 ≤ n + 1) ∧ (Ext.ext l n).length ≤ l.length + 1 := by
  have new : (∀ y ∈ l ++ [(n, (1 : Int))], lo ≤ y.1 ∧ 1 ≤ y.2 ∧ y.1 + y.2 ≤ n + 1) := by
    intro y hy
    rcases List.mem_append.1 hy with hy | hy
    · have := hl y hy; omega
    · simp at hy; subst hy; simp; omega
  unfold Ext.ext
  cases hq : l.getLast? with
  | none => exact ⟨new, by simp⟩
  | some z =>
    simp only
    by_cases he : z.1 + z.2 = n
    · rw [if_pos he]
      refine ⟨fun y hy => ?_, by simp⟩
      rcases List.mem_append.1 hy with hy | hy
      · have := hl y (List.dropLast_subset _ hy); omega
      · simp at hy; subst hy
        have := hl z (List.mem_of_getLast? hq)
        simp; omega
    · rw [if_neg he]; exact ⟨new, by simp⟩
theorem freeR_bd (xs : List (Int × Int)) (lo : Int) : ∀ k : Nat, (∀ y ∈ Ext.freeR xs lo k, lo ≤ y.1 ∧ 1 ≤ y.2 ∧ y.1 + y.2 ≤ lo + k) ∧ (Ext.freeR xs lo k).length ≤ k
  | 0 => by simp [Ext.freeR]
  | k + 1 => by
    obtain ⟨h1, h2⟩ := freeR_bd xs lo k
    rw [Ext.freeR]
    split
    · exact ⟨fun y hy => by have := h1 y hy; omega, by omega⟩
    · obtain ⟨h3, h4⟩ := ext_mem h1 (by omega)
      exact ⟨fun y hy => by have := h3 y hy; omega, by omega⟩
theorem flat_set (pre : List (Int × Int)) (a c u : Int) : ((pre ++ [(a, c)]).flatMap encE).set (pre.length * 2 + 1) (.int .i64 u) = (pre ++ [(a, u)]).flatMap encE := by
  rw [List.flatMap_append, List.flatMap_append, List.set_append_right _ _ (by rw [flat_len encE_len]; omega), flat_len encE_len]
  simp [encE]
/-- The last one of a row of the call's own. -/
theorem OwnE.form {w A : World} {pre : List (Int × Int)} {a c : Int} {v : Value} (h : OwnE w (pre ++ [(a, c)]) v A) : ∃ g cap, v = .slice (some ⟨g, 0, none⟩) (pre.length + 1) cap ∧ w.heap.size ≤ g ∧ g < A.heap.size := by
  have hl : (pre ++ [(a, c)]).length = pre.length + 1 := by simp
  obtain ⟨h1, h2⟩ := h
  rw [hl] at h1
  exact h1.form (by omega)
theorem OwnE.last {w A : World} {pre : List (Int × Int)} {a c : Int} {g cap : Nat} (h : OwnE w (pre ++ [(a, c)]) (.slice (some ⟨g, 0, none⟩) (pre.length + 1) cap) A) :
    A.cell? ⟨g, pre.length * 2, none⟩ = some (.int .i64 a) ∧ A.cell? ⟨g, pre.length * 2 + 1, none⟩ = some (.int .i64 c) ∧ A.frozen? ⟨g, pre.length * 2 + 1, none⟩ = false ∧
      ∀ u, OwnE w (pre ++ [(a, u)]) (.slice (some ⟨g, 0, none⟩) (pre.length + 1) cap) (A.setCell ⟨g, pre.length * 2 + 1, none⟩ (.int .i64 u)) := by
  have hl : (pre ++ [(a, c)]).length = pre.length + 1 := by simp
  obtain ⟨h1, h2⟩ := h
  rw [hl] at h1
  have hb := (own_lt h1 (b := g) rfl).1
  have c1 := h1.cellAt (pre.length * 2) (by omega)
  have c2 := h1.cellAt (pre.length * 2 + 1) (by omega)
  have e : ∀ i v, (encE (a, c))[i]? = some v → ((pre ++ [(a, c)]).flatMap encE)[pre.length * 2 + i]? = some v := fun i v hi => flat_get encE_len _ pre.length (a, c) (by simp) i v hi
  rw [← Nat.add_zero (pre.length * 2), e 0 (.int .i64 a) rfl, Nat.add_zero] at c1
  rw [e 1 (.int .i64 c) rfl] at c2
  refine ⟨c1, c2, h1.frozenAt _, fun u => ⟨?_, h2.setCell _ _ (fun h => by have h : g < w.heap.size := h; omega)⟩⟩
  have := (h1.stored (pre.length * 2 + 1) (.int .i64 u)).1
  rw [flat_set] at this
  simpa using this

set_option maxHeartbeats 4000000 in
theorem refFree (A : Option Addr) (c : Nat) (D : Nat → Prop) (xs : List (Int × Int)) (lo hi : Int) (w : World) (hr : RowK 2 encE D w A xs) (hD : ∀ b, D b → b < w.heap.size) (h40 : xs.length ≤ 40) (hcap : xs.length ≤ c) (hsm : lo < 0 ∨ lo > hi ∨ hi ≤ 3000) :
    Calls Try.prog 35 #[.slice A xs.length c, .int .i64 lo, .int .i64 hi] w fun e B => (FreeArg xs lo hi ∧ RTup (Ext.freeR xs lo (hi - lo).toNat) 0 w e B) ∨ (¬ FreeArg xs lo hi ∧ RTup [] 2 w e B) := by
  have ha := fun W (hm : Mod Nil0 w W) => refApart A c D xs W (hr.keep (fun b hb => hm.block b (hD b hb) (fun hf => hf))) (fun b hb => Nat.lt_of_lt_of_le (hD b hb) hm.size) h40 hcap
  have hh := fun n W (hm : Mod Nil0 w W) => refHas A c D xs n W (hr.keep (fun b hb => hm.block b (hD b hb) (fun hf => hf))) (fun b hb => Nat.lt_of_lt_of_le (hD b hb) hm.size) h40
  clear hr hD
  refine calls_of_FW (ro := none) (n := 0) ?_
  refine callsIn_of_wp Try.func35 rfl trivial ?_
  simp only [Try.ntmps35, List.size_toArray, List.length_cons, List.length_nil, Nat.reduceAdd, Nat.reduceSub, Array.replicate_succ, Array.replicate_zero, List.push_toArray, List.append_toArray, List.nil_append, List.cons_append]
  by_cases hap : Ext.apart xs
  · have HT : Hid (Ext.apartB xs = true ∧ Ext.apart xs) := ⟨by simp [Ext.apartB, hap], hap⟩
    clear hap
    by_cases h1 : lo < 0
    · have HN : Hid (¬ FreeArg xs lo hi) := fun h => by have := h.2.1; omega
      gi_wp2_with (gi_at_call 30; refine (calls_FW (ro := none) (ha _ (Mod.refl _ _))).mono ?_; clear ha; rintro e B ⟨rfl, hm⟩; rw [HT.out.1]; have HM : Hid (Mod Nil0 w B) := hm; clear hm)
      go_ret2
      exact .inr ⟨HN.out, RTup.none HM.out⟩
    by_cases h2 : lo > hi
    · have HN : Hid (¬ FreeArg xs lo hi) := fun h => by have := h.2.2.1; omega
      gi_wp2_with (gi_at_call 30; refine (calls_FW (ro := none) (ha _ (Mod.refl _ _))).mono ?_; clear ha; rintro e B ⟨rfl, hm⟩; rw [HT.out.1]; have HM : Hid (Mod Nil0 w B) := hm; clear hm)
      go_ret2
      exact .inr ⟨HN.out, RTup.none HM.out⟩
    have h4 : 0 ≤ lo := by omega
    have h5 : lo ≤ hi := by omega
    have h6 : hi ≤ 3000 := by omega
    have HG : Hid (FreeArg xs lo hi) := ⟨HT.out.2, by omega, by omega, by omega⟩
    clear h1 h2 hsm
    obtain ⟨N, hN⟩ : ∃ N : Nat, hi = lo + N := ⟨(hi - lo).toNat, by omega⟩
    have HNN : Hid ((hi - lo).toNat = N) := by show _ = _; omega
    subst hN
    gi_wp2_with (gi_at_call 30; refine (calls_FW (ro := none) (ha _ (Mod.refl _ _))).mono ?_; clear ha; rintro e B ⟨rfl, hm⟩; rw [HT.out.1]; have HM : Hid (Mod Nil0 w B) := hm; clear hm)
    gi_loopw [8, 9] (fun v t wr => ∃ (k : Nat), k ≤ N ∧ t = .int .i64 (lo + (k : Int)) ∧ Hid (OwnE B (Ext.freeR xs lo k) v wr)) (fun _ t _ => (lo + (N : Int) - intOf t).toNat)
    case atStart => exact ⟨0, Nat.zero_le _, by simp, OwnE.nil _ _ (Mod.refl _ _)⟩
    case round =>
      obtain ⟨k, hk, rfl, HK⟩ := hrel
      by_cases hlt : k < N
      · have HH := Lib.hid (hh (lo + (k : Int)) wr (HM.out.trans HK.out.2) HT.out.2)
        clear hh
        by_cases hhas : Ext.has xs (lo + (k : Int)) = true
        · have HF : Hid (Ext.has xs (lo + (k : Int)) = true ∧ Ext.freeR xs lo (k + 1) = Ext.freeR xs lo k) := ⟨hhas, by rw [Ext.freeR, if_pos hhas]⟩
          clear hhas
          gi_wp2_with (gi_at_call 77; refine (calls_FW (ro := none) HH.out).mono ?_; clear HH; rintro e B2 ⟨rfl, hm⟩; rw [HF.out.1]; have HM2 : Hid (OwnE B (Ext.freeR xs lo k) _ B2) := HK.out.mod hm; clear hm)
          refine ⟨⟨k + 1, by omega, by go_num, by rw [HF.out.2]; exact HM2.out⟩, by simp [intOf]; omega⟩
        · have HF : Hid (Ext.has xs (lo + (k : Int)) = false ∧ Ext.freeR xs lo (k + 1) = Ext.ext (Ext.freeR xs lo k) (lo + (k : Int))) := ⟨by simpa using hhas, by rw [Ext.freeR, if_neg hhas]⟩
          clear hhas
          obtain ⟨hbd, hln⟩ := freeR_bd xs lo k
          have HBD := Lib.hid hbd
          clear hbd
          generalize Ext.freeR xs lo k = ys at HK HF HBD hln
          rcases List.eq_nil_or_concat ys with rfl | ⟨pre, ⟨a, d⟩, rfl⟩
          · obtain ⟨Av, cv, rfl⟩ : ∃ A c, u8 = .slice A 0 c := own_shape HK.out.1
            have HN : Hid (Ext.freeR xs lo (k + 1) = [(lo + (k : Int), 1)]) := HF.out.2.trans (by simp [Ext.ext])
            gi_wp2_with (gi_at_call 77; refine (calls_FW (ro := none) HH.out).mono ?_; clear HH; rintro e B2 ⟨rfl, hm⟩; rw [HF.out.1]; have HM2 : Hid (OwnE B [] _ B2) := HK.out.mod hm; clear hm)
            gi_quiet (fail)
            gi_wp2_with (gi_at_builtin; go_loud (refine appE B rfl _ _ rfl (.slice Av 0 cv) [] (lo + (k : Int)) 1 _ rfl rfl rfl (by exact HM2.out.mod ((Mod.refl _ _).drewN _)) (by simp) ?_); rintro A3 c3 w3 ho3 -; have HO3 := Lib.hid ho3; clear ho3)
            exact ⟨⟨k + 1, by omega, by go_num, by rw [HN.out]; exact HO3.out⟩, by simp [intOf]; omega⟩
          · rw [List.concat_eq_append] at HBD HK hln HF
            have hpl : pre.length ≤ 3000 := by simp at hln; omega
            clear hln
            have hbd := HBD.out (a, d) (by simp)
            simp only at hbd
            obtain ⟨hb1, hb2, hb3⟩ := hbd
            obtain ⟨g, cap, rfl, hg1, hg2⟩ := HK.out.form
            by_cases he : a + d = lo + (k : Int)
            · have HN : Hid (Ext.freeR xs lo (k + 1) = pre ++ [(a, d + 1)]) := HF.out.2.trans (by rw [Ext.ext_snoc, if_pos he])
              have he1 : (a + d == lo + (k : Int)) = true := by simp [he]
              have HE := Lib.hid he
              clear he
              gi_wp2_with (gi_at_call 77; refine (calls_FW (ro := none) HH.out).mono ?_; clear HH; rintro e B2 ⟨rfl, hm⟩; rw [HF.out.1]; have HM2 : Hid (OwnE B (pre ++ [(a, d)]) (.slice (some ⟨g, 0, none⟩) (pre.length + 1) cap) B2) := HK.out.mod hm; obtain ⟨hc1, hc2, hfz, hst⟩ := HM2.out.last; have HS := Lib.hid hst; clear hm hst)
              gi_quiet (fail)
              gi_wp2
              exact ⟨⟨k + 1, by omega, by go_num, by rw [HN.out]; exact (HM2.out.mod ((Mod.refl _ _).drewN _)).last.2.2.2 (d + 1)⟩, by simp [intOf]; omega⟩
            · have HN : Hid (Ext.freeR xs lo (k + 1) = pre ++ [(a, d)] ++ [(lo + (k : Int), 1)]) := HF.out.2.trans (by rw [Ext.ext_snoc, if_neg he])
              have he1 : (a + d == lo + (k : Int)) = false := by simp [he]
              have HE := Lib.hid he
              clear he
              gi_wp2_with (gi_at_call 77; refine (calls_FW (ro := none) HH.out).mono ?_; clear HH; rintro e B2 ⟨rfl, hm⟩; rw [HF.out.1]; have HM2 : Hid (OwnE B (pre ++ [(a, d)]) (.slice (some ⟨g, 0, none⟩) (pre.length + 1) cap) B2) := HK.out.mod hm; obtain ⟨hc1, hc2, hfz, hst⟩ := HM2.out.last; have HS := Lib.hid hst; clear hm hst)
              gi_quiet (fail)
              gi_wp2_with (gi_at_builtin; go_loud (refine appE B rfl _ _ rfl (.slice (some ⟨g, 0, none⟩) (pre.length + 1) cap) (pre ++ [(a, d)]) (lo + (k : Int)) 1 _ rfl rfl rfl (by exact HM2.out.mod ((Mod.refl _ _).drewN _)) (by simp; omega) ?_); rintro A3 c3 w3 ho3 -; have HO3 := Lib.hid ho3; clear ho3)
              exact ⟨⟨k + 1, by omega, by go_num, by rw [HN.out]; have := HO3.out; rw [show (pre ++ [(a, d)]).length = pre.length + 1 from by simp] at this; exact this⟩, by simp [intOf]; omega⟩
      · obtain rfl : k = N := by omega
        obtain ⟨hbd, hln⟩ := freeR_bd xs lo k
        obtain ⟨A', c', rfl, hm2, hr2⟩ := HK.out.row (by omega)
        have HD : Hid (RTup (Ext.freeR xs lo k) 0 w (.returned (.tuple #[.slice A' (Ext.freeR xs lo k).length c', .int .i64 0])) wr) :=
          ⟨A', c', rfl, HM.out.trans hm2, hr2.mono (fun b hb => ⟨by have := HM.out.size; omega, hb.2⟩)⟩
        clear hbd hm2 hr2 HK
        gi_wp2
        go_ret2
        exact .inl ⟨HG.out, by rw [HNN.out]; exact HD.out⟩
  · have HT : Hid (Ext.apartB xs = false ∧ ¬ FreeArg xs lo hi) := ⟨by simp [Ext.apartB, hap], fun h => hap h.1⟩
    clear hap
    gi_wp2_with (gi_at_call 30; refine (calls_FW (ro := none) (ha _ (Mod.refl _ _))).mono ?_; clear ha; rintro e B ⟨rfl, hm⟩; rw [HT.out.1]; have HM : Hid (Mod Nil0 w B) := hm; clear hm)
    go_ret2
    exact .inr ⟨HT.out.2, RTup.none HM.out⟩
end Go.Proofs.Ytobioeehfigmcaa
