/- The program's Free over extents. No condition but the bounds. -/
import Derived.Test.YtobioeehfigmcaaEx10
set_option linter.unusedSimpArgs false
set_option linter.unusedVariables false
set_option maxRecDepth 100000
namespace Go.Proofs.Ytobioeehfigmcaa
open Go Go.RowKit Go.Shelf
attribute [local go_sem] Oper.semAt_some

/-- Appending one extent to a row of the call's own, whatever was ahead. -/
theorem appR {ro : Option Nat} {nn : Nat} {ops : Array Oper} {Q : Exit → Act → World → Prop} {rest : List Oper} {o : Oper} {a : Act} {W : World} (base : Nat) (hgd : o.guard = none) (s x : Operand)
    (ho : o.op = .call { callee := .builtin .append, args := #[s, x], argTypes := #[51, 51] }) (v : Value) (ys : List (Int × Int)) (p q : Int) (b : Nat) (hb : W.heap.size = b) (hs : a.eval s = v) (hx : a.eval x = .slice (some ⟨b, 0, none⟩) 1 1)
    (HO : W.ownsRow base 64 2 v ys.length (ys.flatMap encE)) (hbs : base ≤ W.heap.size) (hl : ys.length ≤ 4096)
    (h : ∀ A1 c1 w1, w1.ownsRow base 64 2 (.slice A1 (ys.length + 1) c1) (ys.length + 1) ((ys ++ [(p, q)]).flatMap encE) → Mod (fun b => base ≤ b) W w1 → wpListIn (FW ro) nn Try.prog ops Q rest (a.put o.dst (.slice A1 (ys.length + 1) c1)) w1) :
    wpListIn (FW ro) nn Try.prog ops Q (o :: rest) a (W.alloc (.cells #[.int .i64 p, .int .i64 q] 64)) := by
  subst hb
  refine app1 base hgd s x 51 64 (.agg #[.int .i64 0, .int .i64 0]) 2 16 ho Try.underlying51 info_ext rfl (by decide) (by decide) v ys.length (ys.flatMap encE) [.int .i64 p, .int .i64 q] hs hx rfl (by simp [Value.oneCell']) HO hbs (by omega) ?_
  rintro v1 w1 hown1 hg1 hv1 ⟨A1, c1, rfl⟩
  refine h A1 c1 w1 (by rw [List.flatMap_append]; exact hown1) (hg1.mono (fun b _ hb => (own_lt HO hb).1))

theorem two_at (w : World) (p q : Int) : (w.alloc (.cells #[.int .i64 p, .int .i64 q] 64)).cell? ⟨w.heap.size, 0, none⟩ = some (.int .i64 p) ∧ (w.alloc (.cells #[.int .i64 p, .int .i64 q] 64)).cell? ⟨w.heap.size, 1, none⟩ = some (.int .i64 q) := by
  have := World.alloc_heap_new w (.cells #[.int .i64 p, .int .i64 q] 64)
  generalize w.alloc (.cells #[.int .i64 p, .int .i64 q] 64) = B at this ⊢
  constructor <;> simp [World.cell?, this]
def FreeArg (xs : List (Int × Int)) (lo hi : Int) : Prop := Ext.apart xs ∧ 0 ≤ lo ∧ lo ≤ hi ∧ hi ≤ 1099511627776
/-- What comes back. -/
def RFree (xs : List (Int × Int)) (lo hi : Int) (w : World) (e : Ending) (B : World) : Prop :=
  ∃ rs : List (Int × Int), rs.Perm xs ∧ Ext.Rises rs ∧ ((FreeArg xs lo hi ∧ RTup (Ext.freeP rs hi lo) 0 w e B) ∨ (¬ FreeArg xs lo hi ∧ RTup [] 2 w e B))
theorem RFree.none {xs : List (Int × Int)} {lo hi : Int} {w B : World} (h : Mod Nil0 w B) (hn : ¬ FreeArg xs lo hi) (rs : List (Int × Int)) (h1 : rs.Perm xs) (h2 : Ext.Rises rs) : RFree xs lo hi w (.returned (.tuple #[.slice none 0 0, .int .i64 2])) B :=
  ⟨rs, h1, h2, .inr ⟨hn, RTup.none h⟩⟩
theorem rises_ex (xs : List (Int × Int)) : ∃ rs : List (Int × Int), rs.Perm xs ∧ Ext.Rises rs := by
  refine ⟨xs.mergeSort (fun x y => decide (x.1 ≤ y.1)), List.mergeSort_perm _ _, ?_⟩
  unfold Ext.Rises
  have := List.pairwise_mergeSort (le := fun x y : Int × Int => decide (x.1 ≤ y.1)) (by intro a b c; simp; omega) (by intro a b; simp; omega) xs
  exact this.imp (by intro a b; simp)

set_option maxHeartbeats 2000000 in
theorem free_ext (A : Option Addr) (c : Nat) (D : Nat → Prop) (xs : List (Int × Int)) (lo hi : Int) (w : World) (hr : RowK 2 encE D w A xs) (hD : ∀ b, D b → b < w.heap.size) (h40 : xs.length ≤ 40) :
    Calls Try.prog 34 #[.slice A xs.length c, .int .i64 lo, .int .i64 hi] w (RFree xs lo hi w) := by
  have ha := fun W (hm : Mod Nil0 w W) => apart_ext A c D xs W (hr.keep (fun b hb => hm.block b (hD b hb) (fun hf => hf))) (fun b hb => Nat.lt_of_lt_of_le (hD b hb) hm.size) (by omega)
  have hri := fun W (hm : Mod Nil0 w W) => rising_ext A c D xs W (hr.keep (fun b hb => hm.block b (hD b hb) (fun hf => hf))) (fun b hb => Nat.lt_of_lt_of_le (hD b hb) hm.size) (by omega)
  clear hr hD
  refine calls_of_FW (ro := none) (n := 0) ?_
  refine callsIn_of_wp Try.func34 rfl trivial ?_
  simp only [Try.ntmps34, List.size_toArray, List.length_cons, List.length_nil, Nat.reduceAdd, Nat.reduceSub, Array.replicate_succ, Array.replicate_zero, List.push_toArray, List.append_toArray, List.nil_append, List.cons_append]
  obtain ⟨rs0, hr1, hr2⟩ := rises_ex xs
  have HE := Lib.hid (And.intro hr1 hr2)
  clear hr1 hr2
  have bad : ∀ B, Mod Nil0 w B → ¬ FreeArg xs lo hi → RFree xs lo hi w (.returned (.tuple #[.slice none 0 0, .int .i64 2])) B := fun B h hn => RFree.none h hn rs0 HE.out.1 HE.out.2
  have HBad := Lib.hid bad
  clear bad
  by_cases hap : Ext.apart xs
  · have HT : Hid (Ext.apartB xs = true ∧ Ext.apart xs) := ⟨by simp [Ext.apartB, hap], hap⟩
    clear hap
    by_cases h1 : lo < 0
    · have HN : Hid (¬ FreeArg xs lo hi) := fun h => by have := h.2.1; omega
      gi_wp2_with (gi_at_call 29; refine (calls_FW (ro := none) (ha _ (Mod.refl _ _))).mono ?_; clear ha; rintro e B ⟨rfl, hm⟩; rw [HT.out.1]; have HM : Hid (Mod Nil0 w B) := hm; clear hm)
      go_ret2
      exact HBad.out _ HM.out HN.out
    by_cases h2 : lo > hi
    · have HN : Hid (¬ FreeArg xs lo hi) := fun h => by have := h.2.2.1; omega
      gi_wp2_with (gi_at_call 29; refine (calls_FW (ro := none) (ha _ (Mod.refl _ _))).mono ?_; clear ha; rintro e B ⟨rfl, hm⟩; rw [HT.out.1]; have HM : Hid (Mod Nil0 w B) := hm; clear hm)
      go_ret2
      exact HBad.out _ HM.out HN.out
    by_cases h3 : hi > 1099511627776
    · have HN : Hid (¬ FreeArg xs lo hi) := fun h => by have := h.2.2.2; omega
      gi_wp2_with (gi_at_call 29; refine (calls_FW (ro := none) (ha _ (Mod.refl _ _))).mono ?_; clear ha; rintro e B ⟨rfl, hm⟩; rw [HT.out.1]; have HM : Hid (Mod Nil0 w B) := hm; clear hm)
      go_ret2
      exact HBad.out _ HM.out HN.out
    have HG : Hid (FreeArg xs lo hi) := ⟨HT.out.2, by omega, by omega, by omega⟩
    clear HBad HE
    have h4 : 0 ≤ lo := by omega
    have h5 : lo ≤ hi := by omega
    have h6 : hi ≤ 1099511627776 := by omega
    clear h1 h2 h3
    gi_wp2_with (first
      | (gi_at_call 29; refine (calls_FW (ro := none) (ha _ (Mod.refl _ _))).mono ?_; clear ha; rintro e B ⟨rfl, hm⟩; rw [HT.out.1]; have HM : Hid (Mod Nil0 w B) := hm; clear hm)
      | (gi_at_call 73; refine (calls_FW (ro := none) (hri _ HM.out)).mono ?_; go_loud (clear hri; rintro e B1 ⟨rs, hperm, hris, v, rfl, hm, hown, -⟩; have hlen := hperm.length_eq; have hl40 : rs.length ≤ 40 := (by omega); rw [← hlen] at hown; obtain ⟨A', c', rfl⟩ : ∃ A c, v = .slice A rs.length c := own_shape hown; have HP := Lib.hid (And.intro hperm (And.intro hris (And.intro hm hown))); clear hperm hris hm hown hlen))
      | (gi_at_builtin; go_loud (refine appR B.heap.size rfl _ _ rfl (.slice A' rs.length c') rs hi 0 _ rfl rfl rfl HP.out.2.2.2 HP.out.2.2.1.size (by omega) ?_); rintro A1 c1 w1 ho1 hm1; have HO1 := Lib.hid (And.intro ho1 hm1); clear ho1 hm1))
    obtain ⟨L, hL⟩ : ∃ L, L = rs ++ [(hi, (0 : Int))] := ⟨_, rfl⟩
    have hLl : L.length = rs.length + 1 := by subst hL; simp
    have HL : Hid (∀ x ∈ L, 0 ≤ x.1 ∧ 0 ≤ x.2 ∧ x.1 + x.2 ≤ 1099511627776) := by
      intro x hx
      subst hL
      rcases List.mem_append.1 hx with hx | hx
      · have := HT.out.2.1 x (HP.out.1.mem_iff.1 hx); unfold Ext.okE at this; omega
      · simp at hx; subst hx; simp; omega
    have HR : Hid (RowK 2 encE (fun b => b < w1.heap.size) w1 A1 L ∧ Mod Nil0 w w1 ∧ Ext.freeQ L hi lo = Ext.freeP rs hi lo) := by
      refine ⟨?_, ?_, by rw [hL, Ext.freeQ_eq]⟩
      · obtain ⟨A2, c2, he, hr⟩ := RowK.of_own (enc := encE) encE_len (by omega) (xs := L) (by rw [hL]; exact HO1.out.1) (by omega)
        simp only [Value.slice.injEq] at he; obtain ⟨rfl, _, _⟩ := he
        exact hr.mono (fun b hb => hb.2.1)
      · exact (HM.out.trans HP.out.2.2.1).trans' HO1.out.2 (fun b hb h => by have h : B.heap.size ≤ b := h; have := HM.out.size; omega)
    rw [← hLl]
    have hL1 : L.length ≤ rs.length + 1 := by omega
    have hL2 : rs.length + 1 ≤ L.length := by omega
    have hL41 : L.length ≤ 41 := by omega
    clear HO1 hL hLl
    gi_loopw [8, 9, 37] (fun v t i wr => ∃ (k : Nat) (at' : Int) (ys : List (Int × Int)), k ≤ L.length ∧ ys.length ≤ k ∧ i = .int .i64 k ∧ t = .int .i64 at' ∧ 0 ≤ at' ∧ at' ≤ 1099511627776 ∧ Hid (OwnE w1 ys v wr ∧ Ext.FreeS L hi lo k at' ys)) (fun _ _ i _ => L.length - (intOf i).toNat)
    case atStart => exact ⟨0, lo, [], Nat.zero_le _, by simp, rfl, rfl, h4, by omega, OwnE.nil _ _ (Mod.refl _ _), by simp [Ext.FreeS]⟩
    case round =>
      obtain ⟨k, at', ys, hk, hyk, rfl, rfl, ha0, ha1, HK⟩ := hrel
      by_cases hlt : k < L.length
      · obtain ⟨b, o, rfl, hDb, hc1, hc2⟩ := (HR.out.1.keep (fun b hb => HK.out.1.2.block b hb (fun hf => hf))).ext hlt
        obtain ⟨hq0, hq1, hq2⟩ := HL.out L[k] (List.getElem_mem hlt)
        obtain ⟨Av, cv, rfl⟩ := own_shape HK.out.1.1
        by_cases hl : at' < min L[k].1 hi
        · have HN := Lib.hid (HK.out.2.more hlt hl)
          have HX : Hid (OwnE w1 ys _ wr) := HK.out.1
          generalize L[k] = x at hc1 hc2 HN hq0 hq1 hq2 hl
          obtain ⟨p, q⟩ := x
          simp only at hc1 hc2 hq0 hq1 hq2 hl HN
          have HO := Lib.hid (HX.out.alloc (.cells #[.int .i64 p, .int .i64 q] 64))
          clear HK
          gi_wp2_with (gi_at_builtin; go_loud (refine appE w1 rfl _ _ rfl (.slice Av ys.length cv) ys at' (min p hi - at') _ (by simp) rfl rfl HO.out (by omega) ?_); go_loud (rintro A3 c3 w3 ho3 hg3; have hc3 := hg3.cell (two_at wr p q).1 (fun h => by have := own_lt HX.out.1 h; simp at this); have hc4 := hg3.cell (two_at wr p q).2 (fun h => by have := own_lt HX.out.1 h; simp at this); have HO3 := Lib.hid ho3; clear ho3 hg3))
          exact ⟨⟨k + 1, max at' (p + q), ys ++ [(at', min p hi - at')], by omega, by simp; omega, by go_num, rfl, by omega, by omega, HO3.out, HN.out⟩, by simp [intOf]; omega⟩
        · have HN := Lib.hid (HK.out.2.less hlt hl)
          have HX : Hid (OwnE w1 ys _ wr) := HK.out.1
          generalize L[k] = x at hc1 hc2 HN hq0 hq1 hq2 hl
          obtain ⟨p, q⟩ := x
          simp only at hc1 hc2 hq0 hq1 hq2 hl HN
          have HO := Lib.hid (HX.out.alloc (.cells #[.int .i64 p, .int .i64 q] 64))
          clear HK
          gi_wp2
          exact ⟨⟨k + 1, max at' (p + q), ys, by omega, by omega, by go_num, rfl, by omega, by omega, HO.out, HN.out⟩, by simp [intOf]; omega⟩
      · obtain rfl : k = L.length := by omega
        obtain ⟨A', c', rfl, hm2, hr2⟩ := HK.out.1.row (by omega)
        have HD : Hid (RFree xs lo hi w (.returned (.tuple #[.slice A' ys.length c', .int .i64 0])) wr) := by
          refine ⟨rs, HP.out.1, HP.out.2.1, .inl ⟨HG.out, ?_⟩⟩
          rw [← HR.out.2.2, HK.out.2.done]
          exact ⟨A', c', rfl, HR.out.2.1.trans hm2, hr2.mono (fun b hb => ⟨by have := HR.out.2.1.size; omega, hb.2⟩)⟩
        clear HK hm2 hr2
        gi_wp2
        go_ret2
        exact HD.out
  · have HT : Hid (Ext.apartB xs = false ∧ ¬ FreeArg xs lo hi) := ⟨by simp [Ext.apartB, hap], fun h => hap h.1⟩
    clear hap
    gi_wp2_with (gi_at_call 29; refine (calls_FW (ro := none) (ha _ (Mod.refl _ _))).mono ?_; clear ha; rintro e B ⟨rfl, hm⟩; rw [HT.out.1]; have HM : Hid (Mod Nil0 w B) := hm; clear hm)
    go_ret2
    exact HBad.out _ HM.out HT.out.2
end Go.Proofs.Ytobioeehfigmcaa
