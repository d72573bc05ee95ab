/- The program's Take and Free over extents. No condition but the bounds. -/
import Derived.Test.YtobioeehfigmcaaEx9
set_option linter.unusedSimpArgs false
set_option linter.unusedVariables false
set_option maxRecDepth 100000
namespace Go.Proofs.Ytobioeehfigmcaa
open Go Go.RowKit Go.Shelf
attribute [local go_sem] Oper.semAt_some

/-- A new row and a number come back. -/
def RTup (ys : List (Int × Int)) (err : Int) (w : World) (e : Ending) (B : World) : Prop :=
  ∃ A c, e = .returned (.tuple #[.slice A ys.length c, .int .i64 err]) ∧ Mod Nil0 w B ∧ RowK 2 encE (fun b => w.heap.size ≤ b ∧ b < B.heap.size) B A ys
theorem RTup.none {w B : World} {err : Int} (h : Mod Nil0 w B) : RTup [] err w (.returned (.tuple #[.slice none 0 0, .int .i64 err])) B := ⟨_, 0, rfl, h, RowK.nil _ _ _ _ _⟩
def takeOut (xs : List (Int × Int)) (n : Int) : List (Int × Int) := if Ext.apart xs ∧ 0 ≤ n ∧ (Ext.takeP xs n).2 ≤ 0 then (Ext.takeP xs n).1 else []
def takeErr (xs : List (Int × Int)) (n : Int) : Int := if Ext.apart xs ∧ 0 ≤ n then (if (Ext.takeP xs n).2 ≤ 0 then 0 else 31) else 2
theorem takeP_drop {xs : List (Int × Int)} {k : Nat} (h : k < xs.length) {m : Int} (hm : ¬ m = 0) :
    Ext.takeP (xs.drop k) m = ((xs[k].1, min xs[k].2 m) :: (Ext.takeP (xs.drop (k + 1)) (m - min xs[k].2 m)).1, (Ext.takeP (xs.drop (k + 1)) (m - min xs[k].2 m)).2) := by
  rw [List.drop_eq_getElem_cons h, Ext.takeP, if_neg hm]
def TakeS (xs : List (Int × Int)) (n : Int) (k : Nat) (m : Int) (ys : List (Int × Int)) : Prop := Ext.takeP xs n = (ys ++ (Ext.takeP (xs.drop k) m).1, (Ext.takeP (xs.drop k) m).2)
theorem TakeS.next {xs : List (Int × Int)} {n m : Int} {k : Nat} {ys : List (Int × Int)} (h : TakeS xs n k m ys) (hk : k < xs.length) (hm : ¬ m = 0) : TakeS xs n (k + 1) (m - min xs[k].2 m) (ys ++ [(xs[k].1, min xs[k].2 m)]) := by
  unfold TakeS at *; rw [h, takeP_drop hk hm]; simp
theorem TakeS.done {xs : List (Int × Int)} {n m : Int} {k : Nat} {ys : List (Int × Int)} (h : TakeS xs n k m ys) (hk : k = xs.length ∨ m = 0) : (Ext.takeP xs n).1 = ys ∧ (Ext.takeP xs n).2 = m := by
  unfold TakeS at h
  rcases hk with rfl | rfl
  · rw [h, List.drop_length]; simp [Ext.takeP]
  · rw [h, Ext.takeP_zero]; simp
theorem take_done {xs : List (Int × Int)} {n : Int} {w B W : World} {ys : List (Int × Int)} {v : Value} (hap : Ext.apart xs) (hn : 0 ≤ n) (hm : Mod Nil0 w B) (HO : OwnE B ys v W) (hy : ys.length ≤ 40) (h1 : (Ext.takeP xs n).1 = ys) (h2 : (Ext.takeP xs n).2 = 0) :
    ∃ A' c', v = .slice A' ys.length c' ∧ RTup (takeOut xs n) (takeErr xs n) w (.returned (.tuple #[.slice A' ys.length c', .int .i64 0])) W := by
  obtain ⟨A', c', e, hm2, hr⟩ := HO.row (by omega)
  refine ⟨A', c', e, ?_⟩
  have e1 : takeOut xs n = ys := by unfold takeOut; rw [if_pos ⟨hap, hn, by omega⟩, h1]
  have e2 : takeErr xs n = 0 := by unfold takeErr; rw [if_pos ⟨hap, hn⟩, if_pos (by omega)]
  rw [e1, e2]
  exact ⟨A', c', rfl, hm.trans hm2, hr.mono (fun b hb => ⟨by have := hm.size; omega, hb.2⟩)⟩

/-- Appending one extent. -/
theorem appE {ro : Option Nat} {nn : Nat} {ops : Array Oper} {Q : Exit → Act → World → Prop} {rest : List Oper} {o : Oper} {a : Act} {W : World} (B : World) (hgd : o.guard = none) (s x : Operand)
    (ho : o.op = .call { callee := .builtin .append, args := #[s, x], argTypes := #[51, 51] }) (v : Value) (ys : List (Int × Int)) (p q : Int) (b : Nat) (hb : W.heap.size = b) (hs : a.eval s = v) (hx : a.eval x = .slice (some ⟨b, 0, none⟩) 1 1)
    (HO : OwnE B ys v W) (hl : ys.length ≤ 4096)
    (h : ∀ A1 c1 w1, OwnE B (ys ++ [(p, q)]) (.slice A1 (ys.length + 1) c1) w1 → Mod (fun b => v.ownBlock = some b) W w1 → wpListIn (FW ro) nn Try.prog ops Q rest (a.put o.dst (.slice A1 (ys.length + 1) c1)) w1) :
    wpListIn (FW ro) nn Try.prog ops Q (o :: rest) a (W.alloc (.cells #[.int .i64 p, .int .i64 q] 64)) := by
  subst hb
  refine app1 B.heap.size hgd s x 51 64 (.agg #[.int .i64 0, .int .i64 0]) 2 16 ho Try.underlying51 info_ext rfl (by decide) (by decide) v ys.length (ys.flatMap encE) [.int .i64 p, .int .i64 q] hs hx rfl (by simp [Value.oneCell']) HO.1 HO.2.size (by omega) ?_
  rintro v1 w1 hown1 hg1 hv1 ⟨A1, c1, rfl⟩
  exact h A1 c1 w1 (HO.next hown1 hg1) hg1
set_option maxHeartbeats 2000000 in
theorem take_ext (A : Option Addr) (c : Nat) (D : Nat → Prop) (xs : List (Int × Int)) (n : Int) (w : World) (hr : RowK 2 encE D w A xs) (hD : ∀ b, D b → b < w.heap.size) (h40 : xs.length ≤ 40) (hn2 : n ≤ 9223372036854775807) :
    Calls Try.prog 27 #[.slice A xs.length c, .int .i64 n] w (RTup (takeOut xs n) (takeErr xs n) w) := by
  have ha := fun W (hm : Mod Nil0 w W) => apart_ext A c D xs W (hr.keep (fun b hb => hm.block b (hD b hb) (fun hf => hf))) (fun b hb => Nat.lt_of_lt_of_le (hD b hb) hm.size) (by omega)
  have HR : Hid (RowK 2 encE D w A xs ∧ ∀ b, D b → b < w.heap.size) := ⟨hr, hD⟩
  clear hr hD
  refine calls_of_FW (ro := none) (n := 0) ?_
  refine callsIn_of_wp Try.func27 rfl trivial ?_
  simp only [Try.ntmps27, List.size_toArray, List.length_cons, List.length_nil, Nat.reduceAdd, Nat.reduceSub, Array.replicate_succ, Array.replicate_zero, List.push_toArray, List.append_toArray, List.nil_append, List.cons_append]
  by_cases hap : Ext.apart xs
  · by_cases hn : 0 ≤ n
    · have HT : Hid (Ext.apartB xs = true ∧ Ext.apart xs) := ⟨by simp [Ext.apartB, hap], hap⟩
      clear hap
      gi_wp2_with (gi_at_call 29; refine (calls_FW (ro := none) (ha _ (Mod.refl _ _))).mono ?_; clear ha; rintro e B ⟨rfl, hm⟩; rw [HT.out.1]; have HM : Hid (Mod Nil0 w B) := hm; clear hm)
      gi_loopw [1, 6, 18] (fun t v i wr => ∃ (k : Nat) (m : Int) (ys : List (Int × Int)), k ≤ xs.length ∧ ys.length ≤ k ∧ i = .int .i64 k ∧ t = .int .i64 m ∧ 0 ≤ m ∧ m ≤ n ∧ Hid (OwnE B ys v wr ∧ TakeS xs n k m ys)) (fun _ _ i _ => xs.length - (intOf i).toNat)
      case atStart => exact ⟨0, n, [], Nat.zero_le _, by simp, rfl, rfl, hn, by omega, OwnE.nil _ _ (Mod.refl _ _), by simp [TakeS]⟩
      case round =>
        obtain ⟨k, m, ys, hk, hyk, rfl, rfl, hm0, hmn, HK⟩ := hrel
        by_cases hlt : k < xs.length
        · obtain ⟨b, o, rfl, hDb, hc1, hc2⟩ := (HR.out.1.keep (fun b hb => (HK.out.1.2.block b (by have := HR.out.2 b hb; have := HM.out.size; omega) (fun hf => hf)).trans (HM.out.block b (HR.out.2 b hb) (fun hf => hf)))).ext hlt
          by_cases hz : m = 0
          · subst hz
            obtain ⟨h1, h2⟩ := HK.out.2.done (.inr rfl)
            obtain ⟨A', c', rfl, hd⟩ := take_done HT.out.2 hn HM.out (HK.out.1.alloc (.cells #[.int .i64 xs[k].1, .int .i64 xs[k].2] 64)) (by omega) h1 h2
            have HD := Lib.hid hd
            clear hd HK h1 h2
            gi_wp2
            go_ret2
            exact HD.out
          · have hz1 : ((m : Int) == 0) = false := by simp [hz]
            obtain ⟨Av, cv, rfl⟩ := own_shape HK.out.1.1
            have hsz := HK.out.1.2.size
            have HN := Lib.hid (HK.out.2.next hlt hz)
            have HX : Hid (OwnE B ys _ wr) := HK.out.1
            have hq1 := (HT.out.2.1 xs[k] (List.getElem_mem hlt)).2.1
            generalize xs[k] = x at hc1 hc2 HN hq1
            obtain ⟨p, q⟩ := x
            simp only at hc1 hc2 hq1
            have HO := Lib.hid (HX.out.alloc (.cells #[.int .i64 p, .int .i64 (min q m)] 64))
            clear HK
            gi_wp2_with (gi_at_builtin; go_loud (refine appE B rfl _ _ rfl (.slice Av ys.length cv) ys p (min q m) _ (by simp) rfl rfl HO.out (by omega) ?_); rintro A1 c1 w1 ho1 -; have HO1 := Lib.hid ho1; clear ho1)
            exact ⟨⟨k + 1, m - min q m, ys ++ [(p, min q m)], by omega, by simp; omega, by go_num, rfl, by omega, by omega, HO1.out, HN.out⟩, by simp [intOf]; omega⟩
        · obtain rfl : k = xs.length := by omega
          obtain ⟨h1, h2⟩ := HK.out.2.done (.inl rfl)
          by_cases hz : m = 0
          · subst hz
            obtain ⟨A', c', rfl, hd⟩ := take_done HT.out.2 hn HM.out HK.out.1 (by omega) h1 h2
            have HD := Lib.hid hd
            clear hd HK h1 h2
            gi_wp2
            go_ret2
            exact HD.out
          · have HD : Hid (takeOut xs n = [] ∧ takeErr xs n = 31 ∧ Mod Nil0 w wr) := by
              refine ⟨?_, ?_, HM.out.trans HK.out.1.2⟩
              · unfold takeOut; rw [if_neg]; rintro ⟨_, _, h⟩; omega
              · unfold takeErr; rw [if_pos ⟨HT.out.2, hn⟩, if_neg (by omega)]
            clear HK h1 h2
            gi_wp2
            go_ret2
            rw [HD.out.1, HD.out.2.1]
            exact RTup.none HD.out.2.2
    · have HT : Hid (Ext.apartB xs = true ∧ takeOut xs n = [] ∧ takeErr xs n = 2) := ⟨by simp [Ext.apartB, hap], by simp [takeOut, hn], by simp [takeErr, hn]⟩
      clear hap
      gi_wp2_with (gi_at_call 29; refine (calls_FW (ro := none) (ha _ (Mod.refl _ _))).mono ?_; clear ha; rintro e B ⟨rfl, hm⟩; rw [HT.out.1]; have HM : Hid (Mod Nil0 w B) := hm; clear hm)
      go_ret2
      rw [HT.out.2.1, HT.out.2.2]
      exact RTup.none HM.out
  · have HT : Hid (Ext.apartB xs = false ∧ takeOut xs n = [] ∧ takeErr xs n = 2) := ⟨by simp [Ext.apartB, hap], by simp [takeOut, hap], by simp [takeErr, hap]⟩
    clear hap
    gi_wp2_with (gi_at_call 29; refine (calls_FW (ro := none) (ha _ (Mod.refl _ _))).mono ?_; clear ha; rintro e B ⟨rfl, hm⟩; rw [HT.out.1]; have HM : Hid (Mod Nil0 w B) := hm; clear hm)
    go_ret2
    rw [HT.out.2.1, HT.out.2.2]
    exact RTup.none HM.out
end Go.Proofs.Ytobioeehfigmcaa
