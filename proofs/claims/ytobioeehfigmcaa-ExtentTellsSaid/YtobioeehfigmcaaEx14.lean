/- The reference's Has, Total and Take over extents. No condition but the bounds. -/
import Derived.Test.YtobioeehfigmcaaEx13
set_option linter.unusedSimpArgs false
set_option linter.unusedVariables false
set_option maxRecDepth 100000
namespace Go.Proofs.Ytobioeehfigmcaa
open Go Go.RowKit Go.Shelf
attribute [local go_sem] Oper.semAt_some

theorem has_snoc {xs : List (Int × Int)} {n : Int} {k : Nat} (h : k < xs.length) : Ext.has (xs.take (k + 1)) n = (Ext.has (xs.take k) n || (decide (xs[k].1 ≤ n) && decide (n < xs[k].1 + xs[k].2))) := by
  unfold Ext.has; rw [List.take_succ_eq_append_getElem h, List.any_append]; simp
theorem has_of {xs : List (Int × Int)} {n : Int} {k : Nat} (h : k < xs.length) (h1 : xs[k].1 ≤ n) (h2 : n < xs[k].1 + xs[k].2) : Ext.has xs n = true := by
  unfold Ext.has; rw [List.any_eq_true]; exact ⟨xs[k], List.getElem_mem h, by simp [h1, h2]⟩
set_option maxHeartbeats 2000000 in
theorem refHas (A : Option Addr) (c : Nat) (D : Nat → Prop) (xs : List (Int × Int)) (n : Int) (w : World) (hr : RowK 2 encE D w A xs) (hD : ∀ b, D b → b < w.heap.size) (h40 : xs.length ≤ 40) (hap : Ext.apart xs) :
    Calls Try.prog 77 #[.slice A xs.length c, .int .i64 n] w fun e B => e = .returned (.bool (Ext.has xs n)) ∧ Mod Nil0 w B := by
  have HR : Hid (RowK 2 encE D w A xs ∧ (∀ b, D b → b < w.heap.size) ∧ Ext.apart xs) := ⟨hr, hD, hap⟩
  clear hr hD hap
  go_enter Try.func77, Try.ntmps77
  go_wp2
  go_loopw [9] (fun i wr => ∃ k : Nat, k ≤ xs.length ∧ i = .int .i64 k ∧ Hid (Ext.has (xs.take k) n = false ∧ Mod Nil0 w wr)) (fun i _ => xs.length - (intOf i).toNat)
  case atStart => exact ⟨0, Nat.zero_le _, rfl, by simp [Ext.has], Mod.refl _ _⟩
  case round =>
    obtain ⟨k, hk, rfl, HK⟩ := hrel
    by_cases hlt : k < xs.length
    · obtain ⟨b, o, rfl, hDb, hc1, hc2⟩ := (HR.out.1.keep (fun b hb => HK.out.2.block b (HR.out.2.1 b hb) (fun hf => hf))).ext hlt
      have hok := HR.out.2.2.1 xs[k] (List.getElem_mem hlt)
      unfold Ext.okE at hok
      have HS := Lib.hid (has_snoc (n := n) hlt)
      have HO := Lib.hid (has_of (n := n) hlt)
      generalize xs[k].1 = p at hc1 hok HS HO
      generalize xs[k].2 = q at hc2 hok HS HO
      obtain ⟨h1, h2, h3, h4⟩ := hok
      by_cases h5 : p ≤ n
      · by_cases h6 : n < p + q
        · have HF : Hid (Ext.has xs n = true) := HO.out h5 h6
          go_wp2
          go_ret
          exact ⟨by rw [HF.out]; rfl, HK.out.2.alloc _⟩
        · have HN : Hid (Ext.has (xs.take (k + 1)) n = false) := by show _ = _; rw [HS.out, HK.out.1]; simp; omega
          go_wp2
          exact ⟨⟨k + 1, by omega, by go_num, HN.out, HK.out.2.alloc _⟩, by simp [intOf]; omega⟩
      · have HN : Hid (Ext.has (xs.take (k + 1)) n = false) := by show _ = _; rw [HS.out, HK.out.1]; simp; omega
        go_wp2
        exact ⟨⟨k + 1, by omega, by go_num, HN.out, HK.out.2.alloc _⟩, by simp [intOf]; omega⟩
    · obtain rfl : k = xs.length := by omega
      have HF : Hid (Ext.has xs n = false ∧ Mod Nil0 w wr) := ⟨by have := HK.out.1; rwa [List.take_length] at this, HK.out.2⟩
      clear HK
      go_wp2
      go_ret
      exact ⟨by rw [HF.out.1]; rfl, HF.out.2⟩

set_option maxHeartbeats 2000000 in
theorem refTotal (A : Option Addr) (c : Nat) (D : Nat → Prop) (xs : List (Int × Int)) (w : World) (hr : RowK 2 encE D w A xs) (hD : ∀ b, D b → b < w.heap.size) (h40 : xs.length ≤ 40) (hcap : xs.length ≤ c) :
    Calls Try.prog 32 #[.slice A xs.length c] w fun e B => e = .returned (.int .i64 (Ext.total xs)) ∧ Mod Nil0 w B := by
  have ha := fun W (hm : Mod Nil0 w W) => refApart A c D xs W (hr.keep (fun b hb => hm.block b (hD b hb) (fun hf => hf))) (fun b hb => Nat.lt_of_lt_of_le (hD b hb) hm.size) h40 hcap
  have HR : Hid (RowK 2 encE D w A xs ∧ (∀ b, D b → b < w.heap.size)) := ⟨hr, hD⟩
  clear hr hD
  by_cases hap : Ext.apart xs
  · have HT : Hid (Ext.apartB xs = true ∧ Ext.apart xs ∧ Ext.total xs = Ext.sumE xs) := ⟨by simp [Ext.apartB, hap], hap, by simp [Ext.total, hap]⟩
    clear hap
    go_enter Try.func32, Try.ntmps32
    go_wp2_with (go_at_call 30; refine (ha _ (Mod.refl _ _)).mono ?_; clear ha; rintro e B ⟨rfl, hm⟩; rw [HT.out.1]; have HM : Hid (Mod Nil0 w B) := hm; clear hm)
    go_loopw [3, 10] (fun s i wr => ∃ k : Nat, k ≤ xs.length ∧ i = .int .i64 k ∧ s = .int .i64 (accE xs k) ∧ Hid (Mod Nil0 w wr)) (fun _ i _ => xs.length - (intOf i).toNat)
    case atStart => exact ⟨0, Nat.zero_le _, rfl, by simp [accE, Ext.sumE], HM.out⟩
    case round =>
      obtain ⟨k, hk, rfl, rfl, HK⟩ := hrel
      by_cases hlt : k < xs.length
      · obtain ⟨b, o, rfl, hDb, hc1, hc2⟩ := (HR.out.1.keep (fun b hb => HK.out.block b (HR.out.2 b hb) (fun hf => hf))).ext hlt
        have hb1 := accE_bd HT.out.2.1 h40 k
        have hb2 := accE_bd HT.out.2.1 h40 (k + 1)
        have HS := Lib.hid (accE_succ hlt)
        rw [HS.out] at hb2
        generalize xs[k].1 = p at hc1
        generalize xs[k].2 = q at hc2 HS hb2
        generalize accE xs k = s at hb1 hb2 HS
        go_wp2
        exact ⟨⟨k + 1, by omega, by go_num, by rw [HS.out], HK.out.alloc _⟩, by simp [intOf]; omega⟩
      · obtain rfl : k = xs.length := by omega
        go_wp2
        go_ret
        exact ⟨by rw [HT.out.2.2, accE, List.take_length]; rfl, HK.out⟩
  · have HT : Hid (Ext.apartB xs = false ∧ Ext.total xs = 0) := ⟨by simp [Ext.apartB, hap], by simp [Ext.total, hap]⟩
    clear hap
    go_enter Try.func32, Try.ntmps32
    go_wp2_with (go_at_call 30; refine (ha _ (Mod.refl _ _)).mono ?_; clear ha; rintro e B ⟨rfl, hm⟩; rw [HT.out.1]; have HM : Hid (Mod Nil0 w B) := hm; clear hm)
    go_ret
    exact ⟨by rw [HT.out.2]; rfl, HM.out⟩

def refOut (xs : List (Int × Int)) (n : Int) : List (Int × Int) := if Ext.apart xs ∧ 0 ≤ n ∧ n ≤ Ext.total xs then Ext.takeR xs n else []
def refErr (xs : List (Int × Int)) (n : Int) : Int := if Ext.apart xs ∧ 0 ≤ n then (if n ≤ Ext.total xs then 0 else 31) else 2
theorem ref_take (xs : List (Int × Int)) (n : Int) : refOut xs n = takeOut xs n ∧ refErr xs n = takeErr xs n := by
  unfold refOut takeOut refErr takeErr Ext.total
  by_cases h : Ext.apart xs ∧ 0 ≤ n
  · obtain ⟨e1, e2⟩ := Ext.take_eq xs n (fun x hx => (h.1.1 x hx).2.1) h.2
    rw [e1, e2, if_pos h.1, if_pos h, if_pos h]
    by_cases h3 : n ≤ Ext.sumE xs
    · rw [if_pos ⟨h.1, h.2, h3⟩, if_pos ⟨h.1, h.2, by omega⟩, if_pos h3, if_pos (by omega)]; exact ⟨rfl, rfl⟩
    · rw [if_neg (fun h' => h3 h'.2.2), if_neg (fun h' => h3 (by have := h'.2.2; omega)), if_neg h3, if_neg (by omega)]; exact ⟨rfl, rfl⟩
  · rw [if_neg (fun h' => h ⟨h'.1, h'.2.1⟩), if_neg (fun h' => h ⟨h'.1, h'.2.1⟩), if_neg h, if_neg h]; exact ⟨rfl, rfl⟩
def TakeT (xs : List (Int × Int)) (n : Int) (k : Nat) (m : Int) (ys : List (Int × Int)) : Prop := Ext.takeR xs n = ys ++ Ext.takeR (xs.drop k) m
theorem TakeT.all {xs : List (Int × Int)} {n m : Int} {k : Nat} {ys : List (Int × Int)} (h : TakeT xs n k m ys) (hk : k < xs.length) (hq : xs[k].2 ≤ m) : TakeT xs n (k + 1) (m - xs[k].2) (ys ++ [(xs[k].1, xs[k].2)]) := by
  unfold TakeT at *; rw [h, List.drop_eq_getElem_cons hk, Ext.takeR, if_pos hq]; simp
theorem TakeT.part {xs : List (Int × Int)} {n m : Int} {k : Nat} {ys : List (Int × Int)} (h : TakeT xs n k m ys) (hk : k < xs.length) (hq : ¬ xs[k].2 ≤ m) (hm : 0 < m) : TakeT xs n (k + 1) 0 (ys ++ [(xs[k].1, m)]) := by
  unfold TakeT at *; rw [h, List.drop_eq_getElem_cons hk, Ext.takeR, if_neg hq, if_pos hm]; simp
theorem TakeT.none {xs : List (Int × Int)} {n m : Int} {k : Nat} {ys : List (Int × Int)} (h : TakeT xs n k m ys) (hk : k < xs.length) (hq : ¬ xs[k].2 ≤ m) (hm : ¬ 0 < m) : TakeT xs n (k + 1) 0 ys := by
  unfold TakeT at *; rw [h, List.drop_eq_getElem_cons hk, Ext.takeR, if_neg hq, if_neg hm]
theorem TakeT.done {xs : List (Int × Int)} {n m : Int} {ys : List (Int × Int)} (h : TakeT xs n xs.length m ys) : Ext.takeR xs n = ys := by
  unfold TakeT at h; rw [h, List.drop_length]; simp [Ext.takeR]

set_option maxHeartbeats 2000000 in
theorem refTake (A : Option Addr) (c : Nat) (D : Nat → Prop) (xs : List (Int × Int)) (n : Int) (w : World) (hr : RowK 2 encE D w A xs) (hD : ∀ b, D b → b < w.heap.size) (h40 : xs.length ≤ 40) (hcap : xs.length ≤ c) (hn2 : n ≤ 9223372036854775807) :
    Calls Try.prog 28 #[.slice A xs.length c, .int .i64 n] w (RTup (takeOut xs n) (takeErr xs n) w) := by
  rw [← (ref_take xs n).1, ← (ref_take xs n).2]
  have ha := fun W (hm : Mod Nil0 w W) => refApart A c D xs W (hr.keep (fun b hb => hm.block b (hD b hb) (fun hf => hf))) (fun b hb => Nat.lt_of_lt_of_le (hD b hb) hm.size) h40 hcap
  have ht := fun W (hm : Mod Nil0 w W) => refTotal A c D xs W (hr.keep (fun b hb => hm.block b (hD b hb) (fun hf => hf))) (fun b hb => Nat.lt_of_lt_of_le (hD b hb) hm.size) h40 hcap
  have HR : Hid (RowK 2 encE D w A xs ∧ ∀ b, D b → b < w.heap.size) := ⟨hr, hD⟩
  clear hr hD
  refine calls_of_FW (ro := none) (n := 0) ?_
  refine callsIn_of_wp Try.func28 rfl trivial ?_
  simp only [Try.ntmps28, List.size_toArray, List.length_cons, List.length_nil, Nat.reduceAdd, Nat.reduceSub, Array.replicate_succ, Array.replicate_zero, List.push_toArray, List.append_toArray, List.nil_append, List.cons_append]
  by_cases hap : Ext.apart xs
  · by_cases hn : 0 ≤ n
    · by_cases ht2 : n ≤ Ext.total xs
      · have HT : Hid (Ext.apartB xs = true ∧ Ext.apart xs ∧ refOut xs n = Ext.takeR xs n ∧ refErr xs n = 0) := ⟨by simp [Ext.apartB, hap], hap, by simp [refOut, hap, hn, ht2], by simp [refErr, hap, hn, ht2]⟩
        clear hap
        gi_wp2_with (first
          | (gi_at_call 30; refine (calls_FW (ro := none) (ha _ (Mod.refl _ _))).mono ?_; clear ha; rintro e B ⟨rfl, hm⟩; rw [HT.out.1]; have HM : Hid (Mod Nil0 w B) := hm; clear hm)
          | (gi_at_call 32; refine (calls_FW (ro := none) (ht _ HM.out)).mono ?_; clear ht; rintro e B1 ⟨rfl, hm⟩; generalize Ext.total xs = tot at ht2 ⊢; have HM1 : Hid (Mod Nil0 w B1) := HM.out.trans hm; clear hm))
        gi_loopw [1, 6, 22] (fun t v i wr => ∃ (k : Nat) (m : Int) (ys : List (Int × Int)), k ≤ xs.length ∧ ys.length ≤ k ∧ i = .int .i64 k ∧ t = .int .i64 m ∧ 0 ≤ m ∧ m ≤ n ∧ Hid (OwnE B1 ys v wr ∧ TakeT xs n k m ys)) (fun _ _ i _ => xs.length - (intOf i).toNat)
        case atStart => exact ⟨0, n, [], Nat.zero_le _, by simp, rfl, rfl, hn, by omega, OwnE.nil _ _ (Mod.refl _ _), by simp [TakeT]⟩
        case round =>
          obtain ⟨k, m, ys, hk, hyk, rfl, rfl, hm0, hmn, HK⟩ := hrel
          by_cases hlt : k < xs.length
          · obtain ⟨b, o, rfl, hDb, hc1, hc2⟩ := (HR.out.1.keep (fun b hb => (HK.out.1.2.block b (by have := HR.out.2 b hb; have := HM1.out.size; omega) (fun hf => hf)).trans (HM1.out.block b (HR.out.2 b hb) (fun hf => hf)))).ext hlt
            obtain ⟨Av, cv, rfl⟩ := own_shape HK.out.1.1
            have hsz := HK.out.1.2.size
            have hq1 := (HT.out.2.1.1 xs[k] (List.getElem_mem hlt)).2.1
            have H1 := Lib.hid (HK.out.2.all hlt)
            have H2 := Lib.hid (HK.out.2.part hlt)
            have H3 := Lib.hid (HK.out.2.none hlt)
            have HX : Hid (OwnE B1 ys _ wr) := HK.out.1
            generalize xs[k].1 = p at hc1 H1 H2 H3
            generalize xs[k].2 = q at hc2 H1 H2 H3 hq1
            have HO := Lib.hid (HX.out.alloc (.cells #[.int .i64 p, .int .i64 q] 64))
            clear HK
            by_cases h5 : q ≤ m
            · have HN := Lib.hid (H1.out h5)
              gi_wp2_with (gi_at_builtin; go_loud (refine appE B1 rfl _ _ rfl (.slice Av ys.length cv) ys p q _ (by simp) rfl rfl HO.out (by omega) ?_); go_loud (rintro A3 c3 w3 ho3 hg3; have hc3 := hg3.cell (two_at wr p q).1 (fun h => by have := own_lt HX.out.1 h; simp at this); have hc4 := hg3.cell (two_at wr p q).2 (fun h => by have := own_lt HX.out.1 h; simp at this); have HO3 := Lib.hid ho3; clear ho3 hg3))
              exact ⟨⟨k + 1, m - q, ys ++ [(p, q)], by omega, by simp; omega, by go_num, rfl, by omega, by omega, HO3.out, HN.out⟩, by simp [intOf]; omega⟩
            · by_cases h6 : 0 < m
              · have HN := Lib.hid (H2.out h5 h6)
                gi_wp2_with (gi_at_builtin; go_loud (refine appE B1 rfl _ _ rfl (.slice Av ys.length cv) ys p m _ (by simp) rfl rfl HO.out (by omega) ?_); rintro A3 c3 w3 ho3 -; have HO3 := Lib.hid ho3; clear ho3)
                exact ⟨⟨k + 1, 0, ys ++ [(p, m)], by omega, by simp; omega, by go_num, rfl, by omega, by omega, HO3.out, HN.out⟩, by simp [intOf]; omega⟩
              · have HN := Lib.hid (H3.out h5 h6)
                gi_wp2
                exact ⟨⟨k + 1, 0, ys, by omega, by omega, by go_num, rfl, by omega, by omega, HO.out, HN.out⟩, by simp [intOf]; omega⟩
          · obtain rfl : k = xs.length := by omega
            have h1 := HK.out.2.done
            obtain ⟨A', c', rfl, hm2, hr2⟩ := HK.out.1.row (by omega)
            have HD : Hid (RTup (refOut xs n) (refErr xs n) w (.returned (.tuple #[.slice A' ys.length c', .int .i64 0])) wr) := by
              show RTup _ _ _ _ _
              rw [HT.out.2.2.1, HT.out.2.2.2, h1]
              exact ⟨A', c', rfl, HM1.out.trans hm2, hr2.mono (fun b hb => ⟨by have := HM1.out.size; omega, hb.2⟩)⟩
            clear HK h1 hm2 hr2
            gi_wp2
            go_ret2
            exact HD.out
      · have HT : Hid (Ext.apartB xs = true ∧ refOut xs n = [] ∧ refErr xs n = 31) := ⟨by simp [Ext.apartB, hap], by simp [refOut, ht2], by simp [refErr, hap, hn, ht2]⟩
        clear hap
        gi_wp2_with (first
          | (gi_at_call 30; refine (calls_FW (ro := none) (ha _ (Mod.refl _ _))).mono ?_; clear ha; rintro e B ⟨rfl, hm⟩; rw [HT.out.1]; have HM : Hid (Mod Nil0 w B) := hm; clear hm)
          | (gi_at_call 32; refine (calls_FW (ro := none) (ht _ HM.out)).mono ?_; clear ht; rintro e B1 ⟨rfl, hm⟩; have HM1 : Hid (Mod Nil0 w B1) := HM.out.trans hm; clear hm))
        go_ret2
        rw [HT.out.2.1, HT.out.2.2]
        exact RTup.none HM1.out
    · have HT : Hid (Ext.apartB xs = true ∧ refOut xs n = [] ∧ refErr xs n = 2) := ⟨by simp [Ext.apartB, hap], by simp [refOut, hn], by simp [refErr, hn]⟩
      clear hap
      gi_wp2_with (gi_at_call 30; refine (calls_FW (ro := none) (ha _ (Mod.refl _ _))).mono ?_; clear ha; rintro e B ⟨rfl, hm⟩; rw [HT.out.1]; have HM : Hid (Mod Nil0 w B) := hm; clear hm)
      go_ret2
      rw [HT.out.2.1, HT.out.2.2]
      exact RTup.none HM.out
  · have HT : Hid (Ext.apartB xs = false ∧ refOut xs n = [] ∧ refErr xs n = 2) := ⟨by simp [Ext.apartB, hap], by simp [refOut, hap], by simp [refErr, hap]⟩
    clear hap
    gi_wp2_with (gi_at_call 30; refine (calls_FW (ro := none) (ha _ (Mod.refl _ _))).mono ?_; clear ha; rintro e B ⟨rfl, hm⟩; rw [HT.out.1]; have HM : Hid (Mod Nil0 w B) := hm; clear hm)
    go_ret2
    rw [HT.out.2.1, HT.out.2.2]
    exact RTup.none HM.out
end Go.Proofs.Ytobioeehfigmcaa
