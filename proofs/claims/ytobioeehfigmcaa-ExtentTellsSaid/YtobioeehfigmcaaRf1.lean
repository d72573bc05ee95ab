/- The reference's functions on lists of numbers: Same, First, Until, Keep. No condition but the slices' bounds. -/
import Derived.Test.YtobioeehfigmcaaFl4
import Derived.Deep.QuietTactic
import Derived.BigQuiet
set_option linter.unusedSimpArgs false
set_option linter.unusedVariables false
set_option maxRecDepth 100000
namespace Go.Proofs.Ytobioeehfigmcaa
open Go Go.RowKit Go.Shelf

theorem Row1.cell {α : Type} {enc : α → Value} {D : Nat → Prop} {w : World} {A : Option Addr} {xs : List α} (h : Row1 enc D w A xs) {k : Nat} (hk : k < xs.length) :
    ∃ b o, A = some ⟨b, o, none⟩ ∧ D b ∧ w.cell? ⟨b, o + k, none⟩ = some (enc xs[k]) := by
  obtain ⟨b, o, e, hb, hc⟩ := h.2 (by omega)
  exact ⟨b, o, e, hb, hc k _ (by simp [hk])⟩
/-- What a loop has made so far: a row of the call's own. -/
def OwnL {α : Type} (enc : α → Value) (e : TypeId) (w : World) (ys : List α) (v : Value) (A : World) : Prop := A.ownsRow w.heap.size e 1 v ys.length (ys.map enc) ∧ Mod Nil0 w A
theorem OwnL.nil {α : Type} (enc : α → Value) (e : TypeId) (w A : World) (h : Mod Nil0 w A) : OwnL enc e w [] (.slice none 0 0) A := ⟨World.ownsRow_nil _ _ _ _, h⟩
theorem OwnL.next {α : Type} {enc : α → Value} {e : TypeId} {w A B : World} {ys : List α} {y : α} {v v1 : Value} (h : OwnL enc e w ys v A) (ho : B.ownsRow w.heap.size e 1 v1 (ys.length + 1) (ys.map enc ++ [enc y])) (hg : Mod (fun b => v.ownBlock = some b) A B) :
    OwnL enc e w (ys ++ [y]) v1 B :=
  ⟨by simpa using ho, h.2.trans' hg (fun b hb hv => by have := (own_lt h.1 hv).1; omega)⟩
theorem OwnL.slice {α : Type} {enc : α → Value} {e : TypeId} {w A : World} {ys : List α} {v : Value} (h : OwnL enc e w ys v A) (hl : ys.length ≤ 140737488351232) :
    ∃ A' c, v = .slice A' ys.length c ∧ Mod Nil0 w A ∧ Row1 enc (fun b => w.heap.size ≤ b ∧ b < A.heap.size) A A' ys := by
  obtain ⟨A', c, e, hr⟩ := Row1.of_own h.1 hl
  exact ⟨A', c, e, h.2, hr.mono (fun b hb => ⟨hb.1, hb.2.1⟩)⟩
theorem OwnL.drewN {α : Type} {enc : α → Value} {e : TypeId} {w A : World} {ys : List α} {v : Value} (h : OwnL enc e w ys v A) (n : Nat) : OwnL enc e w ys v (A.drewN n) := ⟨h.1, h.2.drewN n⟩

def firstDiff (xs ys : List Int) (k : Nat) : Prop := xs.take k = ys.take k

set_option maxHeartbeats 1000000 in
theorem same_int (A B : Option Addr) (c d : Nat) (D : Nat → Prop) (xs ys : List Int) (w : World) (hx : Row1 (Value.int .i64) D w A xs) (hy : Row1 (Value.int .i64) D w B ys) :
    Calls Try.prog 13 #[.slice A xs.length c, .slice B ys.length d] w fun e C => e = .returned (.bool (decide (xs = ys))) ∧ Mod Nil0 w C := by
  have bx := hx.1
  have by' := hy.1
  by_cases hl : xs.length = ys.length
  · have hl0 : (xs.length != ys.length) = false := by simp [hl]
    have HL : Hid (xs.length = ys.length) := hl
    have HX : Hid (Row1 (Value.int .i64) D w A xs) := hx
    have HY : Hid (Row1 (Value.int .i64) D w B ys) := hy
    have hz : ((xs.length : Int) != (ys.length : Int)) = false := by simp [hl]
    clear hx hy hl
    go_enter Try.func13, Try.ntmps13
    go_wp2
    go_loopw [13] (fun i wr => ∃ k : Nat, k ≤ xs.length ∧ i = .int .i64 k ∧ Hid (xs.take k = ys.take k ∧ ∃ n, wr = w.drewN n)) (fun i _ => xs.length - (intOf i).toNat)
    case atStart => exact ⟨0, Nat.zero_le _, rfl, by simp, 0, rfl⟩
    case round =>
      obtain ⟨k, hk, rfl, HK⟩ := hrel
      obtain ⟨htk, n, rfl⟩ := HK.out
      by_cases hlt : k < xs.length
      · obtain ⟨b, o, rfl, hDb, hcx⟩ := HX.out.cell hlt
        obtain ⟨b', o', rfl, hDb', hcy⟩ := HY.out.cell (show k < ys.length by have := HL.out; omega)
        have hly : k < ys.length := by have := HL.out; omega
        have HT : Hid (xs.take k = ys.take k) := htk
        clear HK htk
        by_cases he : xs[k] = ys[k]
        · have hz2 : (xs[k] != ys[k]) = false := by simp [he]
          have HE : Hid (xs[k] = ys[k]) := he
          clear he
          go_wp2
          go_quiet (fail)
          go_wp2
          refine ⟨⟨k + 1, by omega, by go_num, ?_, _, rfl⟩, by simp [intOf]; omega⟩
          rw [List.take_succ_eq_append_getElem hlt, List.take_succ_eq_append_getElem hly, HT.out, HE.out]
        · have hz2 : (xs[k] != ys[k]) = true := by simp [he]
          have HE : Hid (¬ xs[k] = ys[k]) := he
          clear he
          go_wp2
          go_quiet (fail)
          go_wp2
          go_ret
          refine ⟨?_, ((Mod.refl _ _).drewN _).drewN _⟩
          have : ¬ xs = ys := fun h => HE.out (by subst h; rfl)
          simp [this]
      · obtain rfl : k = xs.length := by omega
        have HT : Hid (xs.take xs.length = ys.take xs.length) := htk
        clear HK htk
        go_wp2
        go_ret
        refine ⟨?_, (Mod.refl _ _).drewN _⟩
        have := HT.out
        rw [List.take_length, HL.out, List.take_length] at this
        simp [this]
  · have hz : ((xs.length : Int) != (ys.length : Int)) = true := by rw [bne_iff_ne]; omega
    have HL : Hid (¬ xs.length = ys.length) := hl
    clear hx hy hl
    go_enter Try.func13, Try.ntmps13
    go_wp2
    go_ret
    refine ⟨?_, Mod.refl _ _⟩
    have : ¬ xs = ys := fun h => HL.out (by subst h; rfl)
    simp [this]

theorem take_min_succ {xs : List Int} {m k : Nat} (h : k < xs.length) : (k < m → xs.take (min m (k + 1)) = xs.take (min m k) ++ [xs[k]]) ∧ (¬ k < m → xs.take (min m (k + 1)) = xs.take (min m k)) := by
  constructor
  · intro hk
    rw [show min m (k + 1) = k + 1 by omega, show min m k = k by omega, List.take_succ_eq_append_getElem h]
  · intro hk
    rw [show min m (k + 1) = min m k by omega]

set_option maxHeartbeats 1000000 in
theorem refFirst (A : Option Addr) (c : Nat) (D : Nat → Prop) (xs : List Int) (n : Int) (w : World) (hx : Row1 (Value.int .i64) D w A xs) (hbig : xs.length * 8 ≤ 140737488355328) :
    Calls Try.prog 12 #[.slice A xs.length c, .int .i64 n] w (RSlice (Value.int .i64) (xs.take n.toNat) Nil0 w fun _ => True) := by
  have bx := hx.1
  refine calls_of_FW (ro := none) (n := 0) ?_
  refine callsIn_of_wp Try.func12 rfl trivial ?_
  simp only [Try.ntmps12, List.size_toArray, List.length_cons, List.length_nil, Nat.reduceAdd, Nat.reduceSub, Array.replicate_succ, Array.replicate_zero, List.push_toArray, List.append_toArray, List.nil_append, List.cons_append]
  have HX : Hid (Row1 (Value.int .i64) D w A xs) := hx
  clear hx
  gi_wp2
  gi_loopw [5, 10] (fun v i wr => ∃ k : Nat, k ≤ xs.length ∧ i = .int .i64 k ∧ Hid (OwnL (Value.int .i64) 3 w (xs.take (min n.toNat k)) v wr)) (fun _ i _ => xs.length - (intOf i).toNat)
  case atStart => exact ⟨0, Nat.zero_le _, rfl, by rw [show min n.toNat 0 = 0 by omega]; exact OwnL.nil _ _ _ _ (Mod.refl _ _)⟩
  case round =>
    obtain ⟨k, hk, rfl, HK⟩ := hrel
    by_cases hlt : k < xs.length
    · obtain ⟨b, o, rfl, hDb, hcx⟩ := HX.out.cell hlt
      have hc := HK.out.2.cell hcx (fun hf => hf)
      have hs := HK.out.2.size
      clear hcx
      by_cases hn : (k : Int) < n
      · have hlen : (xs.take (min n.toNat k)).length = k := by rw [List.length_take]; omega
        have HO : Hid (wr.ownsRow w.heap.size 3 1 u5 k ((xs.take (min n.toNat k)).map (Value.int .i64))) := by have := HK.out.1; rwa [hlen] at this
        have HE : Hid (xs.take (min n.toNat (k + 1)) = xs.take (min n.toNat k) ++ [xs[k]]) := (take_min_succ hlt).1 (by omega)
        have HLN : Hid ((xs.take (min n.toNat k)).length = k) := hlen
        clear hlen
        gi_wp2_with (gi_at_builtin; refine app1 w.heap.size rfl _ _ 22 3 (.int .i64 0) 1 8 rfl Try.underlying22 info_int rfl (by decide) (by decide) u5 k ((xs.take (min n.toNat k)).map (Value.int .i64)) [.int .i64 xs[k]] rfl rfl rfl (by simp [Value.oneCell']) HO.out (by omega) (by omega) ?_; rintro v1 w1 hown1 hg1 hv1 ⟨A1, c1, rfl⟩)
        refine ⟨⟨k + 1, by omega, by go_num, ?_⟩, by simp [intOf]; omega⟩
        rw [HE.out]
        exact HK.out.next (by rw [HLN.out]; exact hown1) hg1
      · have HE : Hid (xs.take (min n.toNat (k + 1)) = xs.take (min n.toNat k)) := (take_min_succ hlt).2 (by omega)
        gi_wp2
        exact ⟨⟨k + 1, by omega, by go_num, HE.out ▸ HK.out⟩, by simp [intOf]; omega⟩
    · obtain rfl : k = xs.length := by omega
      obtain ⟨A', c', rfl, hm, hr⟩ := HK.out.slice (by rw [List.length_take]; omega)
      have he : xs.take (min n.toNat xs.length) = xs.take n.toNat := by rw [List.take_eq_take_iff]; omega
      have HR : Hid (Mod Nil0 w wr ∧ Row1 (Value.int .i64) (fun b => w.heap.size ≤ b ∧ b < wr.heap.size) wr A' (xs.take n.toNat) ∧ (xs.take (min n.toNat xs.length)).length = (xs.take n.toNat).length) := ⟨hm, by rwa [he] at hr, by rw [he]⟩
      clear HK hr hm he
      gi_wp2
      go_ret
      exact ⟨A', c', by rw [HR.out.2.2]; rfl, HR.out.1, HR.out.2.1, trivial⟩

set_option maxHeartbeats 1000000 in
theorem refKeep (A : Option Addr) (c : Nat) (D : Nat → Prop) (xs : List Int) (n : Int) (w : World) (hx : Row1 (Value.int .i64) D w A xs) (hbig : xs.length * 8 ≤ 140737488355328) :
    Calls Try.prog 25 #[.slice A xs.length c, .int .i64 n, .bool true] w (RSlice (Value.int .i64) (xs.filter fun x => decide (x < n)) Nil0 w fun _ => True) := by
  have bx := hx.1
  refine calls_of_FW (ro := none) (n := 0) ?_
  refine callsIn_of_wp Try.func25 rfl trivial ?_
  simp only [Try.ntmps25, List.size_toArray, List.length_cons, List.length_nil, Nat.reduceAdd, Nat.reduceSub, Array.replicate_succ, Array.replicate_zero, List.push_toArray, List.append_toArray, List.nil_append, List.cons_append]
  have HX : Hid (Row1 (Value.int .i64) D w A xs) := hx
  clear hx
  gi_wp2
  gi_loopw [7, 12] (fun v i wr => ∃ k : Nat, k ≤ xs.length ∧ i = .int .i64 k ∧ Hid (OwnL (Value.int .i64) 3 w ((xs.take k).filter fun x => decide (x < n)) v wr)) (fun _ i _ => xs.length - (intOf i).toNat)
  case atStart => exact ⟨0, Nat.zero_le _, rfl, OwnL.nil _ _ _ _ (Mod.refl _ _)⟩
  case round =>
    obtain ⟨k, hk, rfl, HK⟩ := hrel
    by_cases hlt : k < xs.length
    · obtain ⟨b, o, rfl, hDb, hcx⟩ := HX.out.cell hlt
      have hc := HK.out.2.cell hcx (fun hf => hf)
      have hs := HK.out.2.size
      clear hcx
      by_cases hn : xs[k] < n
      · have hlen : ((xs.take k).filter fun x => decide (x < n)).length ≤ k := Nat.le_trans (List.length_filter_le _ _) (by rw [List.length_take]; omega)
        have HO : Hid (wr.ownsRow w.heap.size 3 1 u7 ((xs.take k).filter fun x => decide (x < n)).length (((xs.take k).filter fun x => decide (x < n)).map (Value.int .i64))) := HK.out.1
        have HE : Hid ((xs.take (k + 1)).filter (fun x => decide (x < n)) = (xs.take k).filter (fun x => decide (x < n)) ++ [xs[k]]) := by
          show _ = _
          rw [List.take_succ_eq_append_getElem hlt, List.filter_append]; simp [List.filter_cons, hn]
        gi_wp2_with (gi_at_builtin; refine app1 w.heap.size rfl _ _ 22 3 (.int .i64 0) 1 8 rfl Try.underlying22 info_int rfl (by decide) (by decide) u7 _ _ [.int .i64 xs[k]] rfl rfl rfl (by simp [Value.oneCell']) HO.out (by omega) (by omega) ?_; rintro v1 w1 hown1 hg1 hv1 ⟨A1, c1, rfl⟩)
        refine ⟨⟨k + 1, by omega, by go_num, ?_⟩, by simp [intOf]; omega⟩
        rw [HE.out]
        exact HK.out.next hown1 hg1
      · have HE : Hid ((xs.take (k + 1)).filter (fun x => decide (x < n)) = (xs.take k).filter (fun x => decide (x < n))) := by
          show _ = _
          rw [List.take_succ_eq_append_getElem hlt, List.filter_append]; simp [List.filter_cons, hn]
        gi_wp2
        exact ⟨⟨k + 1, by omega, by go_num, HE.out ▸ HK.out⟩, by simp [intOf]; omega⟩
    · obtain rfl : k = xs.length := by omega
      have hlen := List.length_filter_le (fun x => decide (x < n)) xs
      rw [List.take_length] at HK
      obtain ⟨A', c', rfl, hm, hr⟩ := HK.out.slice (by omega)
      have HR : Hid (Mod Nil0 w wr ∧ Row1 (Value.int .i64) (fun b => w.heap.size ≤ b ∧ b < wr.heap.size) wr A' (xs.filter fun x => decide (x < n))) := ⟨hm, hr⟩
      clear HK hr hm
      gi_wp2
      go_ret
      exact ⟨A', c', rfl, HR.out.1, HR.out.2, trivial⟩

theorem tw_all {α : Type} {q : α → Bool} : ∀ {xs : List α}, xs.all q = true → xs.takeWhile q = xs
  | [], _ => rfl
  | x :: xs, h => by
    simp only [List.all_cons, Bool.and_eq_true] at h
    rw [List.takeWhile_cons, if_pos h.1, tw_all h.2]
/-- What Until answers: those ahead, and how many are asked for. -/
def asksOf (xs : List Int) (n : Int) : Nat := if (xs.takeWhile fun x => !decide (x < n)).length < xs.length then (xs.takeWhile fun x => !decide (x < n)).length + 1 else xs.length
def RUntil (xs : List Int) (n : Int) (w : World) (e : Ending) (B : World) : Prop :=
  ∃ A c, e = .returned (.tuple #[.slice A (xs.takeWhile fun x => !decide (x < n)).length c, .int .i64 (asksOf xs n)]) ∧ Mod Nil0 w B ∧ Row1 (Value.int .i64) (fun b => w.heap.size ≤ b ∧ b < B.heap.size) B A (xs.takeWhile fun x => !decide (x < n))
theorem tw_take {xs : List Int} {n : Int} {k : Nat} (h : k < xs.length) (hall : (xs.take k).all (fun x => !decide (x < n)) = true) (hk : xs[k] < n) : xs.takeWhile (fun x => !decide (x < n)) = xs.take k := by
  have e : xs = xs.take k ++ xs[k] :: xs.drop (k + 1) := by rw [← List.drop_eq_getElem_cons h, List.take_append_drop]
  conv => lhs; rw [e]
  rw [List.takeWhile_append_of_pos (by simpa using hall), List.takeWhile_cons, if_neg (by simpa using hk), List.append_nil]

set_option maxHeartbeats 1000000 in
theorem refUntil (A : Option Addr) (c : Nat) (D : Nat → Prop) (xs : List Int) (n : Int) (w : World) (hx : Row1 (Value.int .i64) D w A xs) (hbig : xs.length * 8 ≤ 140737488355328) :
    Calls Try.prog 15 #[.slice A xs.length c, .int .i64 n] w (RUntil xs n w) := by
  have bx := hx.1
  refine calls_of_FW (ro := none) (n := 0) ?_
  refine callsIn_of_wp Try.func15 rfl trivial ?_
  simp only [Try.ntmps15, List.size_toArray, List.length_cons, List.length_nil, Nat.reduceAdd, Nat.reduceSub, Array.replicate_succ, Array.replicate_zero, List.push_toArray, List.append_toArray, List.nil_append, List.cons_append]
  have HX : Hid (Row1 (Value.int .i64) D w A xs) := hx
  clear hx
  gi_wp2
  gi_loopw [6, 11] (fun v i wr => ∃ k : Nat, k ≤ xs.length ∧ i = .int .i64 k ∧ Hid (OwnL (Value.int .i64) 3 w (xs.take k) v wr ∧ (xs.take k).all (fun x => !decide (x < n)) = true)) (fun _ i _ => xs.length - (intOf i).toNat)
  case atStart => exact ⟨0, Nat.zero_le _, rfl, OwnL.nil _ _ _ _ (Mod.refl _ _), rfl⟩
  case round =>
    obtain ⟨k, hk, rfl, HK⟩ := hrel
    by_cases hlt : k < xs.length
    · obtain ⟨b, o, rfl, hDb, hcx⟩ := HX.out.cell hlt
      have hc := HK.out.1.2.cell hcx (fun hf => hf)
      have hs := HK.out.1.2.size
      clear hcx
      by_cases hn : xs[k] < n
      · obtain ⟨A', c', rfl, hm, hr⟩ := HK.out.1.slice (by rw [List.length_take]; omega)
        have htw := tw_take hlt HK.out.2 hn
        have HR : Hid (Mod Nil0 w wr ∧ Row1 (Value.int .i64) (fun b => w.heap.size ≤ b ∧ b < wr.heap.size) wr A' (xs.takeWhile fun x => !decide (x < n)) ∧ (xs.takeWhile fun x => !decide (x < n)).length = k) := ⟨hm, by rwa [htw], by rw [htw, List.length_take]; omega⟩
        have HK2 : Hid ((xs.take k).length = k) := by show _ = _; rw [List.length_take]; omega
        clear HK hr hm htw
        gi_wp2
        go_ret2
        refine ⟨A', c', ?_, HR.out.1, HR.out.2.1⟩
        unfold asksOf
        rw [HR.out.2.2, if_pos hlt, HK2.out]
        go_num
      · have hlen : (xs.take k).length = k := by rw [List.length_take]; omega
        have HO : Hid (wr.ownsRow w.heap.size 3 1 u6 k ((xs.take k).map (Value.int .i64))) := by have := HK.out.1.1; rwa [hlen] at this
        have HE : Hid (xs.take (k + 1) = xs.take k ++ [xs[k]] ∧ (xs.take (k + 1)).all (fun x => !decide (x < n)) = true) := by
          refine ⟨List.take_succ_eq_append_getElem hlt, ?_⟩
          rw [List.take_succ_eq_append_getElem hlt, List.all_append, HK.out.2]; simpa using hn
        have HLN : Hid ((xs.take k).length = k) := hlen
        clear hlen
        gi_wp2_with (gi_at_builtin; refine app1 w.heap.size rfl _ _ 22 3 (.int .i64 0) 1 8 rfl Try.underlying22 info_int rfl (by decide) (by decide) u6 k ((xs.take k).map (Value.int .i64)) [.int .i64 xs[k]] rfl rfl rfl (by simp [Value.oneCell']) HO.out (by omega) (by omega) ?_; rintro v1 w1 hown1 hg1 hv1 ⟨A1, c1, rfl⟩)
        refine ⟨⟨k + 1, by omega, by go_num, ?_, HE.out.2⟩, by simp [intOf]; omega⟩
        rw [HE.out.1]
        exact HK.out.1.next (by rw [HLN.out]; exact hown1) hg1
    · obtain rfl : k = xs.length := by omega
      have hall := HK.out.2
      rw [List.take_length] at hall
      have htw : xs.takeWhile (fun x => !decide (x < n)) = xs := tw_all hall
      have HK1 := HK.out.1
      rw [List.take_length] at HK1
      obtain ⟨A', c', rfl, hm, hr⟩ := HK1.slice (by omega)
      have HR : Hid (Mod Nil0 w wr ∧ Row1 (Value.int .i64) (fun b => w.heap.size ≤ b ∧ b < wr.heap.size) wr A' (xs.takeWhile fun x => !decide (x < n)) ∧ (xs.takeWhile fun x => !decide (x < n)).length = xs.length) := ⟨hm, by rwa [htw], by rw [htw]⟩
      clear HK HK1 hr hm htw hall
      gi_wp2
      go_ret2
      refine ⟨A', c', ?_, HR.out.1, HR.out.2.1⟩
      unfold asksOf
      rw [HR.out.2.2, if_neg (by omega)]
      rfl
end Go.Proofs.Ytobioeehfigmcaa
