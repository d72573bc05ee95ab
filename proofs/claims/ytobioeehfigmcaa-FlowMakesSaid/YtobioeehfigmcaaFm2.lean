/- The walk of the law FlowMakes. No condition. -/
import Derived.Test.YtobioeehfigmcaaFm1
import Derived.Test.YtobioeehfigmcaaAppL
import Derived.Test.YtobioeehfigmcaaDraw2
set_option linter.unusedSimpArgs false
set_option linter.unusedVariables false
set_option maxRecDepth 100000
namespace Go.Proofs.Ytobioeehfigmcaa
open Go Go.RowKit Go.Shelf
attribute [local go_sem] Oper.semAt_some

/-- The law's own two variables, in their blocks. -/
def MSt (w W : World) (bn bc : Nat) (n cnt : Int) : Prop :=
  Mod Nil0 w W ∧ W.heap[bn]? = some (.cells #[.int .i64 n] 3 (0, 0)) ∧ W.heap[bc]? = some (.cells #[.int .i64 cnt] 3 (0, 0)) ∧ w.heap.size ≤ bn ∧ bn < bc
theorem MSt.next {w W W' : World} {bn bc : Nat} {n cnt : Int} (h : MSt w W bn bc n cnt) (hm : Mod Nil0 W W') : MSt w W' bn bc n cnt :=
  ⟨h.1.trans hm, hm.heap h.2.1 (fun h => h), hm.heap h.2.2.1 (fun h => h), h.2.2.2⟩
theorem MSt.count {w W W' : World} {bn bc : Nat} {n cnt cnt' : Int} (h : MSt w W bn bc n cnt) (hm : Mod (· = bc) W W') (hc : W'.heap[bc]? = some (.cells #[.int .i64 cnt'] 3 (0, 0))) : MSt w W' bn bc n cnt' :=
  ⟨h.1.trans' hm (fun b hb e => by have := h.2.2.2; omega), hm.heap h.2.1 (fun e => by have := h.2.2.2; omega), hc, h.2.2.2⟩
theorem MSt.row {w W : World} {bn bc : Nat} {n cnt : Int} (h : MSt w W bn bc n cnt) {α : Type} {enc : α → Value} {A : Option Addr} {xs : List α} (hr : Row1 enc (fun b => b < w.heap.size) w A xs) : Row1 enc (fun b => b < w.heap.size) W A xs :=
  hr.keep (fun b hb => h.1.block b hb (fun h => h))

theorem fit_count {bc : Nat} {n : Int} {xs us : List Int} {W : World} (hus : us = xs.take n.toNat) (h : FIt n xs (CIt bc xs.length) none W) : W.heap[bc]? = some (.cells #[.int .i64 (us.length : Int)] 3 (0, 0)) := by
  rw [hus, List.length_take]
  change (if n.toNat ≤ xs.length then CIt bc xs.length (some n.toNat) W else CIt bc xs.length none W) at h
  split at h
  · rename_i hle; rw [Nat.min_eq_left hle]; exact h
  · rename_i hle; rw [Nat.min_eq_right (by omega)]; exact h
theorem uit_count {bc : Nat} {n : Int} {xs : List Int} {W : World} (h : UIt (fun x => decide (x < n)) xs (CIt bc xs.length) none W) : W.heap[bc]? = some (.cells #[.int .i64 (asksOf xs n : Int)] 3 (0, 0)) := by
  unfold asksOf
  change (if (xs.takeWhile fun x => !decide (x < n)).length < xs.length then CIt bc xs.length (some ((xs.takeWhile fun x => !decide (x < n)).length + 1)) W else CIt bc xs.length none W) at h
  split at h
  · rename_i hle; rw [if_pos hle]; exact h
  · rename_i hle; rw [if_neg hle]; exact h

theorem pred_lt_in (bn : Nat) (n : Int) (xs : List Int) (w : World) (hb : w.heap[bn]? = some (.cells #[.int .i64 n] 3 (0, 0))) : PredV Try.prog (.func (.func 8) #[] #[.pointer (some ⟨bn, 0, none⟩)]) (· = bn) (Value.int .i64) (fun x => decide (x < n)) (· ∈ xs) w :=
  ⟨(pred_lt bn n w hb).1, fun W x h1 h2 _ => (pred_lt bn n w hb).2 W x h1 h2 trivial⟩
theorem same_self (A B : Option Addr) (c d : Nat) (D1 D2 : Nat → Prop) (xs : List Int) (w : World) (hx : Row1 (Value.int .i64) D1 w A xs) (hy : Row1 (Value.int .i64) D2 w B xs) :
    Calls Try.prog 13 #[.slice A xs.length c, .slice B xs.length d] w fun e C => e = .returned (.bool true) ∧ Mod Nil0 w C := by
  refine (same_int A B c d (fun _ => True) xs xs w (hx.mono (fun _ _ => trivial)) (hy.mono (fun _ _ => trivial))).mono ?_
  rintro e C ⟨rfl, h⟩
  exact ⟨by simp, h⟩
theorem Row1.at {α : Type} {enc : α → Value} {D : Nat → Prop} {w w' : World} {A : Option Addr} {xs : List α} (h : Row1 enc D w A xs) {S : Nat → Prop} (hm : Mod S w w') (hS : ∀ b, D b → b < w.heap.size ∧ ¬ S b) : Row1 enc D w' A xs :=
  h.keep (fun b hb => hm.block b (hS b hb).1 (hS b hb).2)

theorem runtil_eq {xs ts : List Int} {q : Nat} {m : Int} {w B : World} {e : Ending} (hts : ts = xs.takeWhile (fun x => !decide (x < m))) (hq : q = asksOf xs m) (h : RUntil xs m w e B) :
    ∃ A c, e = .returned (.tuple #[.slice A ts.length c, .int .i64 q]) ∧ Mod Nil0 w B ∧ Row1 (Value.int .i64) (fun b => w.heap.size ≤ b ∧ b < B.heap.size) B A ts := by
  subst hts hq; exact h
theorem find_case {xs ts : List Int} {q : Nat} {m : Int} {w B : World} {e : Ending} {bc : Nat} {A : Option Addr} {D : Nat → Prop} (hts : ts = xs.takeWhile (fun x => !decide (x < m))) (hq : q = asksOf xs m) (h : RFind (Value.int .i64) 0 (fun x => decide (x < m)) xs (· = bc) w (CIt bc xs.length) e B) (hrow : Row1 (Value.int .i64) D w A xs) (hD : ∀ b, D b → b < w.heap.size ∧ b ≠ bc) :
    Mod (· = bc) w B ∧ B.heap[bc]? = some (.cells #[.int .i64 (q : Int)] 3 (0, 0)) ∧ ((e = .returned (.tuple #[.int .i64 0, .bool false]) ∧ xs = ts) ∨ ∃ h : ts.length < xs.length, decide ((ts.length : Int) < (xs.length : Int)) = true ∧ (∃ b o, A = some ⟨b, o, none⟩ ∧ B.cell? ⟨b, o + ts.length, none⟩ = some (.int .i64 xs[ts.length])) ∧ e = .returned (.tuple #[.int .i64 xs[ts.length], .bool true])) := by
  obtain ⟨hm, ⟨rfl, hall, hit⟩ | ⟨i, hi, hp, hb, rfl, hit⟩⟩ := h
  · have e1 : ts = xs := by rw [hts]; exact tw_all (by simpa using fun x hx => by simpa using hall x hx)
    refine ⟨hm, ?_, .inl ⟨rfl, e1.symm⟩⟩
    have : q = xs.length := by rw [hq, asksOf, ← hts, e1]; simp
    rw [this]; exact hit
  · have e1 : ts = xs.take i := by
      rw [hts]
      refine tw_take hi ?_ (by simpa using hp)
      rw [List.all_eq_true]
      intro x hx
      obtain ⟨j, hj, rfl⟩ := List.mem_iff_getElem.1 hx
      rw [List.length_take] at hj
      have := hb j (by omega)
      simp only [List.getElem_take]
      simpa using this
    have e2 : ts.length = i := by rw [e1, List.length_take]; omega
    subst e2
    obtain ⟨b, o, hA, hDb, hcx⟩ := hrow.cell hi
    refine ⟨hm, ?_, .inr ⟨hi, by simp; omega, ⟨b, o, hA, hm.cell hcx (hD b hDb).2⟩, rfl⟩⟩
    have : q = ts.length + 1 := by rw [hq, asksOf, ← hts, if_pos hi]
    rw [this]; exact hit
theorem Row2.at {D : Nat → Prop} {w w' : World} {A : Option Addr} {xss : List (List Int)} (h : Row2 D w A xss) {S : Nat → Prop} (hm : Mod S w w') (hS : ∀ b, D b → b < w.heap.size ∧ ¬ S b) : Row2 D w' A xss := by
  obtain ⟨hs, h1, h2, h3⟩ := h
  exact ⟨hs, h1, h2.at hm hS, h3.keep (fun b hb => hm.block b (hS b hb).1 (hS b hb).2)⟩
theorem Row2.get {D : Nat → Prop} {w : World} {A : Option Addr} {xss : List (List Int)} (h : Row2 D w A xss) {k : Nat} (hk : k < xss.length) :
    ∃ b o A' c', A = some ⟨b, o, none⟩ ∧ w.cell? ⟨b, o + k, none⟩ = some (.slice A' xss[k].length c') ∧ Row1 (Value.int .i64) D w A' xss[k] := by
  obtain ⟨hs, h1, h2, h3⟩ := h
  obtain ⟨b, o, e, hb, hc⟩ := h2.cell (k := k) (by omega)
  obtain ⟨A', c', e2, hr⟩ := h3.2 k (by omega) hk
  exact ⟨b, o, A', c', e, by rw [hc, e2], hr⟩
theorem runs_len {n : Int} {xs : List Int} : (runsOf n xs).length ≤ xs.length := by
  unfold runsOf
  split
  · simp
  · exact rout_len (by omega) xs

theorem Row2.mono {D D' : Nat → Prop} {w : World} {A : Option Addr} {xss : List (List Int)} (h : Row2 D w A xss) (hD : ∀ b, D b → D' b) : Row2 D' w A xss := by
  obtain ⟨hs, h1, h2, h3⟩ := h
  exact ⟨hs, h1, h2.mono hD, h3.mono hD⟩
theorem row_pair {w B C : World} {A A' : Option Addr} {xss : List (List Int)} (h1 : Row2 (fun b => w.heap.size ≤ b ∧ b < B.heap.size) B A xss) (hm : Mod Nil0 B C) (h2 : Row2 (fun b => B.heap.size ≤ b ∧ b < C.heap.size) C A' xss) :
    Row2 (fun b => b < C.heap.size) C A xss ∧ Row2 (fun b => b < C.heap.size) C A' xss :=
  ⟨(h1.at hm (fun b hb => ⟨hb.2, fun h => h⟩)).mono (fun b hb => Nat.lt_of_lt_of_le hb.2 hm.size), h2.mono (fun b hb => hb.2)⟩
theorem callV_same {x y : Value} {w : World} {R : Ending → World → Prop} (h : Calls Try.prog 13 #[x, y] w R) : CallV Try.prog (.func (.func 13) #[] #[]) #[x, y] w R :=
  .fn _ _ _ _ _ (enters_of Try.func13 (by kernel_rfl) rfl) h
theorem fun_xor_in (xs : List Int) (w : World) : FunG Try.prog (.func (.func 22) #[] #[]) Nil0 (Value.int .i64) (fun x => .int .i64 (bits .xor .i64 x 1)) (· ∈ xs) w :=
  ⟨(fun_xor w).1, fun W x h1 h2 _ => (fun_xor w).2 W x h1 h2 trivial⟩
theorem map_zs {xs zs : List Int} (h : zs = xs.map fun x => bits .xor .i64 x 1) : (xs.map fun x => #[Value.int .i64 (bits .xor .i64 x 1)]) = zs.map fun x => #[Value.int .i64 x] := by
  rw [h, List.map_map]; rfl
theorem join3 {B1 B2 : World} {f1 f2 : Nat} {c1 c2 : Array Value} {D1 D2 : Nat → Prop} {xs ys js : List Int} (hjs : js = xs ++ ys) (h1 : IsSeq Try.prog (.func (.func f1) #[] c1) D1 (xs.map fun x => #[.int .i64 x]) B1) (hm : Mod Nil0 B1 B2)
    (h2 : IsSeq Try.prog (.func (.func f2) #[] c2) D2 (ys.map fun x => #[.int .i64 x]) B2) :
    Calls Try.prog 23 #[.slice (some ⟨B2.heap.size, 0, none⟩) 3 3] (B2.alloc (.cells #[.func (.func f1) #[] c1, .nilFunc, .func (.func f2) #[] c2] 28))
      (SeqOut Try.prog (fun b => b < B2.heap.size + 1) Nil0 (fun _ _ => True) (js.map fun x => #[.int .i64 x]) (B2.alloc (.cells #[.func (.func f1) #[] c1, .nilFunc, .func (.func f2) #[] c2] 28))) := by
  have hma : Mod Nil0 B2 (B2.alloc (.cells #[.func (.func f1) #[] c1, .nilFunc, .func (.func f2) #[] c2] 28)) := (Mod.refl _ _).alloc _
  have hj := joinS_int (some ⟨B2.heap.size, 0, none⟩) 3 (fun b => b = B2.heap.size) (fun b => b < B2.heap.size + 1) [.func (.func f1) #[] c1, .nilFunc, .func (.func f2) #[] c2] [xs, [], ys]
    (B2.alloc (.cells #[.func (.func f1) #[] c1, .nilFunc, .func (.func f2) #[] c2] 28)) rfl (row_alloc (fun v : Value => v) [.func (.func f1) #[] c1, .nilFunc, .func (.func f2) #[] c2] 28 B2 (by simp)) ?_ (by simp) (fun b hb => by simpa using hb) ?_
  · rw [hjs]
    simpa using hj
  · intro v hv
    simp only [List.mem_cons, List.not_mem_nil, or_false] at hv
    rcases hv with rfl | rfl | rfl <;> rfl
  · intro i h h'
    match i, h, h' with
    | 0, _, _ => exact .inl ⟨f1, c1, rfl, ((h1.mod hm (fun _ _ h => h)).mod hma (fun _ _ h => h)).monoD (fun b hb => by have := h1.1 b (.inl hb); have := hm.size; show b < _; omega) (fun b hb => by simpa using hb)⟩
    | 1, _, _ => exact .inr ⟨rfl, rfl⟩
    | 2, _, _ => exact .inl ⟨f2, c2, rfl, (h2.mod hma (fun _ _ h => h)).monoD (fun b hb => by have := h2.1 b (.inl hb); show b < _; omega) (fun b hb => by simpa using hb)⟩
theorem callV_of {x : Value} {w : World} {R : Ending → World → Prop} (h : Calls Try.prog 19 #[x] w R) : CallV Try.prog (.func (.func 19) #[] #[]) #[x] w R :=
  .fn _ _ _ _ _ (enters_of Try.func19 (by kernel_rfl) rfl) h
theorem callV_keep {x y : Value} {w : World} {R : Ending → World → Prop} (h : Calls Try.prog 24 #[x, y] w R) : CallV Try.prog (.func (.func 24) #[] #[]) #[x, y] w R :=
  .fn _ _ _ _ _ (enters_of Try.func24 (by kernel_rfl) rfl) h
theorem callV_list {x : Value} {w : World} {R : Ending → World → Prop} (h : Calls Try.prog 9 #[x] w R) : CallV Try.prog (.func (.func 9) #[] #[]) #[x] w R :=
  .fn _ _ _ _ _ (enters_of Try.func9 (by kernel_rfl) rfl) h
theorem callV_rkeep {x y z : Value} {w : World} {R : Ending → World → Prop} (h : Calls Try.prog 25 #[x, y, z] w R) : CallV Try.prog (.func (.func 25) #[] #[]) #[x, y, z] w R :=
  .fn _ _ _ _ _ (enters_of Try.func25 (by kernel_rfl) rfl) h
theorem two_list {α : Type} (l : List α) (h : (⟨l⟩ : Array α).size = 2) : ∃ a b, l = [a, b] := by
  match l, h with
  | [a, b], _ => exact ⟨a, b, rfl⟩

set_option maxHeartbeats 4000000 in
theorem walk05 (A B : Option Addr) (c d : Nat) (xs ys : List Int) (m n : Int) (w : World) (hx : Row1 (Value.int .i64) (fun b => b < w.heap.size) w A xs) (hy : Row1 (Value.int .i64) (fun b => b < w.heap.size) w B ys)
    (hn1 : -9223372036854775808 ≤ n) (hn2 : n ≤ 9223372036854775807) :
    Calls Try.prog 3 #[.slice A xs.length c, .slice B ys.length d, .agg #[.int .i64 m, .int .i64 n]] w fun e w' => e = .returned (.bool true) ∧ Below w.heap.size w w' := by
  have bx := hx.1
  have by' := hy.1
  have HX : Hid (Row1 (Value.int .i64) (fun b => b < w.heap.size) w A xs) := hx
  have HY : Hid (Row1 (Value.int .i64) (fun b => b < w.heap.size) w B ys) := hy
  clear hx hy
  refine calls_of_FW (ro := none) (n := 0) ?_
  refine callsIn_of_wp Try.func3 rfl trivial ?_
  simp only [Try.ntmps3, List.size_toArray, List.length_cons, List.length_nil, Nat.reduceAdd, Nat.reduceSub, Array.replicate_succ, Array.replicate_zero, List.push_toArray, List.append_toArray, List.nil_append, List.cons_append]
  by_cases hlen : 200 < xs.length + ys.length
  · have hz : ((200 : Int) < (xs.length : Int) + (ys.length : Int)) := by omega
    gi_wp2_with (gi_at_call 7; refine (calls_FW (ro := none) (basis05 _)).mono ?_; rintro e B1 ⟨rfl, hm1⟩)
    go_ret
    exact ⟨rfl, (((Mod.refl _ w).alloc _).trans hm1).below⟩
  have hz : ¬ ((200 : Int) < (xs.length : Int) + (ys.length : Int)) := by omega
  obtain ⟨us, hus⟩ : ∃ us, us = xs.take n.toNat := ⟨_, rfl⟩
  have hul : us.length ≤ xs.length := by rw [hus, List.length_take]; omega
  have HUS : Hid (us = xs.take n.toNat) := hus
  obtain ⟨ts, hts⟩ : ∃ ts, ts = xs.takeWhile (fun x => !decide (x < m)) := ⟨_, rfl⟩
  have htl : ts.length ≤ xs.length := by rw [hts]; exact tw_le (fun x => decide (x < m)) xs
  have HTS : Hid (ts = xs.takeWhile (fun x => !decide (x < m))) := hts
  obtain ⟨q, hq⟩ : ∃ q, q = asksOf xs m := ⟨_, rfl⟩
  have HQ : Hid (q = asksOf xs m) := hq
  obtain ⟨rs, hrs⟩ : ∃ rs, rs = runsOf n xs := ⟨_, rfl⟩
  have hrl : rs.length ≤ xs.length := by rw [hrs]; exact runs_len
  have HRS : Hid (rs = runsOf n xs) := hrs
  obtain ⟨zs, hzs⟩ : ∃ zs, zs = xs.map (fun x => bits .xor .i64 x 1) := ⟨_, rfl⟩
  have HZS : Hid (zs = xs.map (fun x => bits .xor .i64 x 1)) := hzs
  have hzl : zs.length ≤ xs.length := by rw [hzs, List.length_map]; exact Nat.le_refl _
  have HZL : Hid (zs.length = xs.length) := by show _ = _; rw [hzs, List.length_map]
  have hzb : ((zs.length : Int) == (xs.length : Int)) = true := by rw [HZL.out]; simp
  obtain ⟨ks, hks⟩ : ∃ ks, ks = xs.filter (fun x => decide (x < m)) := ⟨_, rfl⟩
  have HKS : Hid (ks = xs.filter (fun x => decide (x < m))) := hks
  have hkl : ks.length ≤ xs.length := by rw [hks]; exact List.length_filter_le _ _
  clear hks
  obtain ⟨js, hjs⟩ : ∃ js, js = xs ++ ys := ⟨_, rfl⟩
  have HJS : Hid (js = xs ++ ys) := hjs
  have hjl : js.length ≤ xs.length + ys.length := by rw [hjs, List.length_append]; exact Nat.le_refl _
  clear hus hts hq hrs hzs hjs
  have hmm : (Try.prog).follows .mixedOrders = true := by kernel_rfl
  gi_wp2_with (gi_at_call 7; refine (calls_FW (ro := none) (basis05 _)).mono ?_; rintro e B1 ⟨rfl, hm1⟩)
  have hsz1 := hm1.size
  rw [World.size_alloc] at hsz1
  have hbA : B1.heap[w.heap.size]? = some (.cells #[.int .i64 m, .int .i64 n] 23 (0, 0)) := hm1.heap (World.alloc_heap_new w _) (fun h => h)
  have hM1 : Mod Nil0 w B1 := ((Mod.refl _ w).alloc _).trans hm1
  have HI0 : B1.drew.cell? ⟨w.heap.size, 0, none⟩ = some (.int .i64 m) ∧ B1.drew.cell? ⟨w.heap.size, 1, none⟩ = some (.int .i64 n) := by
    constructor
    · show B1.cell? _ = _; simp [World.cell?, hbA]
    · show B1.cell? _ = _; simp [World.cell?, hbA]
  have HM1 : Hid (Mod Nil0 w B1) := hM1
  clear hm1 hM1 hbA
  refine wpIn_regionI (fun w' => w'.cell? ⟨w.heap.size, 0, none⟩ = some (.int .i64 m) ∧ w'.cell? ⟨w.heap.size, 1, none⟩ = some (.int .i64 n)) hmm ?_
  refine takeI (i := 0) (v := .pointer (some ⟨w.heap.size, 0, none⟩)) rfl (by kernel_rfl) (by kernel_rfl) (by kernel_rfl) (fun _ _ _ h => h) (.inl ⟨rfl, fun w' hI => ?_⟩) HI0 ?_
  · have h1 := hI.1
    go_simp
  refine takeI (i := 1) (v := .int .i64 m) rfl (by kernel_rfl) (by kernel_rfl) (by kernel_rfl) (fun _ _ _ h => h) (.inl ⟨rfl, fun w' hI => ?_⟩) HI0 ?_
  · have h1 := hI.1
    go_simp
  refine takeI (i := 2) (v := .pointer (some ⟨w.heap.size, 1, none⟩)) rfl (by kernel_rfl) (by kernel_rfl) (by kernel_rfl) (fun _ _ _ h => h) (.inl ⟨rfl, fun w' hI => ?_⟩) HI0 ?_
  · have h1 := hI.1
    go_simp
  refine takeI (i := 3) (v := .int .i64 n) rfl (by kernel_rfl) (by kernel_rfl) (by kernel_rfl) (fun _ _ _ h => h) (.inl ⟨rfl, fun w' hI => ?_⟩) HI0 ?_
  · have h1 := hI.2
    go_simp
  have hs1 : B1.drew.heap.size = B1.heap.size := rfl
  have hB2 : ∀ o, Mod Nil0 B1 (B1.drew.alloc o) := fun o => ((Mod.refl _ _).drew).alloc o
  refine effI (i := 4) (v := .pointer (some ⟨B1.heap.size, 0, none⟩)) (w' := B1.drew.alloc (.cells #[.int .i64 0] 3)) (by kernel_rfl) rfl (by kernel_rfl) rfl ?_ ⟨(hB2 _).cell HI0.1 (fun h => h), (hB2 _).cell HI0.2 (fun h => h)⟩ ?_
  · go_simp
  have hb4 : (B1.drew.alloc (.cells #[.int .i64 0] 3)).heap[B1.heap.size]? = some (.cells #[.int .i64 0] 3 (0, 0)) := World.alloc_heap_new B1.drew _
  have hc4 := cell_of_one' hb4
  have hf4 := free_of_one' hb4
  have hb5 : ((B1.drew.alloc (.cells #[.int .i64 0] 3)).setCell ⟨B1.heap.size, 0, none⟩ (.int .i64 m)).heap[B1.heap.size]? = some (.cells #[.int .i64 m] 3 (0, 0)) := Boxed.set (B := B1.heap.size) _ hb4
  have hM5 : Mod Nil0 B1 ((B1.drew.alloc (.cells #[.int .i64 0] 3)).setCell ⟨B1.heap.size, 0, none⟩ (.int .i64 m)) := (hB2 _).setCell _ _ (fun h => by simp at h)
  refine effS (i := 5) (w' := (B1.drew.alloc (.cells #[.int .i64 0] 3)).setCell ⟨B1.heap.size, 0, none⟩ (.int .i64 m)) (by kernel_rfl) rfl (by kernel_rfl) rfl ?_ ⟨hM5.cell HI0.1 (fun h => h), hM5.cell HI0.2 (fun h => h)⟩ ?_
  · go_simp
  generalize hW5 : (B1.drew.alloc (.cells #[.int .i64 0] 3)).setCell ⟨B1.heap.size, 0, none⟩ (.int .i64 m) = W5 at hb5 hM5 ⊢
  refine nextI (i := 6) (v := .int .i64 n) (by kernel_rfl) rfl (by kernel_rfl) (.inl ⟨rfl, fun w' hI => by go_simp⟩) ⟨hM5.cell HI0.1 (fun h => h), hM5.cell HI0.2 (fun h => h)⟩ ?_
  refine doneI (by kernel_rfl) ?_ _
  simp only [Exit.then, Act.put, List.getElem_toArray, List.getElem_cons_succ, List.getElem_cons_zero, List.setIfInBounds_toArray, List.set_cons_succ, List.set_cons_zero]
  have HM5 : Hid (Mod Nil0 w W5) := HM1.out.trans hM5
  have hs5 : w.heap.size ≤ B1.heap.size := HM1.out.size
  have hl5 := (Array.getElem?_eq_some_iff.1 hb5).1
  have HB5 : Hid (W5.heap[B1.heap.size]? = some (.cells #[.int .i64 m] 3 (0, 0))) := hb5
  clear hb4 hc4 hf4 hb5 hM5 HI0 hW5 hB2 hs1
  generalize hbn : B1.heap.size = bn at *
  -- the count's block; the first list
  have HST : Hid (MSt w (W5.alloc (.cells #[.int .i64 0] 3)) bn W5.heap.size m ((0 : Nat) : Int)) := by
    have h1 : Mod Nil0 W5 (W5.alloc (.cells #[.int .i64 0] 3)) := (Mod.refl _ _).alloc _
    exact ⟨HM5.out.trans h1, h1.heap HB5.out (fun h => h), World.alloc_heap_new W5 _, by omega, hl5⟩
  have hsz5 : (W5.alloc (.cells #[.int .i64 0] 3)).heap.size = W5.heap.size + 1 := by simp
  generalize hbc : W5.heap.size = bc at *
  gi_wp2_with (first
    | (gi_at_call 11; generalize hW6 : W5.alloc (.cells #[.int .i64 0] 3) = W6 at HST hsz5 ⊢; clear hW6; refine (calls_FW (ro := none) (askedS _ _ bc _ xs _ HST.out.2.2.1 (HST.out.row HX.out) (fun b hb => Nat.lt_of_lt_of_le hb HST.out.1.size) (by omega))).mono ?_; rintro e B6 ⟨⟨f6, cap6, rfl, hm6, hs6⟩, hi6⟩)
    | (gi_at_call 10; refine (calls_FW (ro := none) (firstS_int _ n _ _ _ _ xs _ (by rintro b (h | h) e <;> omega) hs6 hi6 hn1 hn2)).mono ?_; rintro e B7 ⟨f7, cap7, rfl, hm7, hs7⟩; rw [← HUS.out] at hs7)
    | (gi_at_call 9; refine (calls_FW (ro := none) (list_int _ _ _ _ _ us _ hs7 (by omega))).mono ?_; rintro e B8 ⟨A8, c8, rfl, hm8, hr8, hf8⟩; have HST8 : Hid (MSt w B8 bn bc m (us.length : Int)) := ((HST.out.next hm6).next hm7).count hm8 (fit_count HUS.out hf8); clear hs6 hi6 hs7 hm6 hm7 hm8 hf8)
    | (gi_at_call 12; refine (calls_FW (ro := none) (refFirst A c _ xs n B8 (HST8.out.row HX.out) (by omega))).mono ?_; rw [← HUS.out]; rintro e B9 ⟨A9, c9, rfl, hm9, hr9, -⟩; have HST9 : Hid (MSt w B9 bn bc m (us.length : Int)) := HST8.out.next hm9)
    | (gi_at_call 13; refine (calls_FW (ro := none) (same_self A8 A9 c8 c9 _ _ us B9 (hr8.at hm9 (fun b hb => ⟨hb.2, fun h => h⟩)) hr9)).mono ?_; rintro e B10 ⟨rfl, hm10⟩; have HST10 : Hid (MSt w B10 bn bc m (us.length : Int)) := HST9.out.next hm10; clear hr8 hr9 hm9 hm10 HST8 HST9; have hc10 := cell_of_one' HST10.out.2.2.1; have hf10 := free_of_one' HST10.out.2.2.1)
    | (gi_at_call 11; have HST11 : Hid (MSt w (B10.setCell ⟨bc, 0, none⟩ (.int .i64 0)) bn bc m ((0 : Nat) : Int)) := HST10.out.count ((Mod.refl _ _).setCell _ _ (fun _ => rfl)) (Boxed.set (B := bc) _ HST10.out.2.2.1); generalize hW11 : B10.setCell ⟨bc, 0, none⟩ (.int .i64 0) = W11 at HST11 ⊢; have hl11 := (Array.getElem?_eq_some_iff.1 HST11.out.2.2.1).1; clear hW11 HST10; refine (calls_FW (ro := none) (askedS _ _ bc _ xs W11 HST11.out.2.2.1 (HST11.out.row HX.out) (fun b hb => Nat.lt_of_lt_of_le hb HST11.out.1.size) (by omega))).mono ?_; rintro e B12 ⟨⟨f12, cap12, rfl, hm12, hs12⟩, hi12⟩)
    | (gi_at_call 14; refine (calls_FW (ro := none) (untilS_int _ _ _ _ _ _ _ _ xs _ _ hs12 (pred_lt_in bn m xs _ ((HST11.out.next hm12).2.1)) (by rintro b rfl e; omega) (by rintro b (h | h) e <;> omega))).mono ?_; rintro e B13 ⟨f13, cap13, rfl, hm13, hs13⟩; rw [← HTS.out] at hs13)
    | (gi_at_call 9; refine (calls_FW (ro := none) (list_int _ _ _ _ _ ts _ hs13 (by omega))).mono ?_; rintro e B14 ⟨A14, c14, rfl, hm14, hr14, hf14⟩; have HST14 : Hid (MSt w B14 bn bc m (q : Int)) := ((HST11.out.next hm12).next hm13).count hm14 (by rw [HQ.out]; exact uit_count hf14); clear hi12 hs12 hs13 hm12 hm13 hm14 hf14; have hc14 := cell_of_one' HST14.out.2.1)
    | (gi_at_call 15; refine (calls_FW (ro := none) (refUntil _ c _ xs m B14 (HST14.out.row HX.out) (by omega))).mono ?_; rintro e B15 h15; obtain ⟨A15, c15, rfl, hm15, hr15⟩ := runtil_eq HTS.out HQ.out h15; clear h15; have HST15 : Hid (MSt w B15 bn bc m (q : Int)) := HST14.out.next hm15)
    | (gi_at_call 13; refine (calls_FW (ro := none) (same_self A14 A15 c14 c15 _ _ ts B15 (hr14.at hm15 (fun b hb => ⟨hb.2, fun h => h⟩)) hr15)).mono ?_; rintro e B16 ⟨rfl, hm16⟩; have HST16 : Hid (MSt w B16 bn bc m (q : Int)) := HST15.out.next hm16; clear hr14 hr15 hm15 hm16 HST14 HST15; have hc16 := cell_of_one' HST16.out.2.2.1; have hf16 := free_of_one' HST16.out.2.2.1)
    | (gi_at_call 11; have HST17 : Hid (MSt w (B16.setCell ⟨bc, 0, none⟩ (.int .i64 0)) bn bc m ((0 : Nat) : Int)) := HST16.out.count ((Mod.refl _ _).setCell _ _ (fun _ => rfl)) (Boxed.set (B := bc) _ HST16.out.2.2.1); generalize hW17 : B16.setCell ⟨bc, 0, none⟩ (.int .i64 0) = W17 at HST17 ⊢; have hl17 := (Array.getElem?_eq_some_iff.1 HST17.out.2.2.1).1; clear hW17 HST16; refine (calls_FW (ro := none) (askedS _ _ bc _ xs W17 HST17.out.2.2.1 (HST17.out.row HX.out) (fun b hb => Nat.lt_of_lt_of_le hb HST17.out.1.size) (by omega))).mono ?_; rintro e B18 ⟨⟨f18, cap18, rfl, hm18, hs18⟩, hi18⟩)
    | (gi_at_call 16; refine (calls_FW (ro := none) (find_int _ _ _ _ _ _ _ _ xs _ _ hs18 (pred_lt_in bn m xs _ ((HST17.out.next hm18).2.1)) (by rintro b rfl e; omega) (by rintro b (h | h) e <;> omega))).mono ?_; rintro e B19 h19; obtain ⟨hm19, hcc19, h19⟩ := find_case HTS.out HQ.out h19 ((HST17.out.next hm18).row HX.out) (fun b hb => ⟨Nat.lt_of_lt_of_le hb (HST17.out.next hm18).1.size, by have := HST17.out.2.2.2; omega⟩); have HST19 : Hid (MSt w B19 bn bc m (q : Int)) := (HST17.out.next hm18).count hm19 hcc19; clear hi18 hs18 hm18 hm19 hcc19; have hc19 := cell_of_one' HST19.out.2.2.1; rcases h19 with ⟨rfl, rfl⟩ | ⟨hle, hd1, ⟨b, o, rfl, hcx⟩, rfl⟩)
    | (gi_at_call 19; refine (calls_FW (ro := none) (ofS_int _ c _ xs B19 (HST19.out.row HX.out) (by omega))).mono ?_; rintro e B21 ⟨f21, cap21, rfl, hm21, hs21⟩)
    | (gi_at_call 18; refine (calls_FW (ro := none) (runsS_int _ n _ _ _ _ xs _ hs21 (by omega) hn2)).mono ?_; rintro e B22 ⟨f22, cap22, rfl, hm22, hs22⟩; rw [← HRS.out] at hs22)
    | (gi_at_call 17; refine (calls_FW (ro := none) (list_sl _ _ _ _ _ rs _ hs22 (by omega))).mono ?_; rintro e B23 ⟨A23, c23, rfl, hm23, hr23, -⟩; have HST23 : Hid (MSt w B23 bn bc m (q : Int)) := ((HST19.out.next hm21).next hm22).next hm23; clear hs21 hs22 hm21 hm22 hm23)
    | (gi_at_call 20; refine (calls_FW (ro := none) (refRuns _ c _ xs n B23 (HST23.out.row HX.out) (by omega) hn2)).mono ?_; rw [← HRS.out]; rintro e B24 ⟨A24, c24, rfl, hm24, hr24, -⟩; have HST24 : Hid (MSt w B24 bn bc m (q : Int)) := HST23.out.next hm24; have HRR : Hid (Row2 (fun b => b < B24.heap.size) B24 A23 rs ∧ Row2 (fun b => b < B24.heap.size) B24 A24 rs) := row_pair hr23 hm24 hr24; clear hr23 hr24 hm24 HST23))
  all_goals
    gi_loopw [129] (fun i wr => ∃ k : Nat, k ≤ rs.length ∧ i = .int .i64 k ∧ Hid (Mod Nil0 B24 wr)) (fun i _ => rs.length - (intOf i).toNat)
    case' atStart => exact ⟨0, Nat.zero_le _, rfl, Mod.refl _ _⟩
    case' round =>
      obtain ⟨k, hk, rfl, HM⟩ := hrel
      by_cases hlt : k < rs.length
      · obtain ⟨b1, o1, Ah1, ch1, e1, hcc1, hr1⟩ := HRR.out.1.get hlt
        obtain ⟨b2, o2, Ah2, ch2, e2, hcc2, hr2⟩ := HRR.out.2.get hlt
        subst e1 e2
        have HI0 : wr.drew.cell? ⟨b1, o1 + k, none⟩ = some (.slice Ah1 rs[k].length ch1) ∧ wr.drew.cell? ⟨b2, o2 + k, none⟩ = some (.slice Ah2 rs[k].length ch2) := ⟨HM.out.cell hcc1 (fun h => h), HM.out.cell hcc2 (fun h => h)⟩
        have HS : Hid (Calls Try.prog 13 #[.slice Ah1 rs[k].length ch1, .slice Ah2 rs[k].length ch2] wr.drew fun e C => e = .returned (.bool true) ∧ Mod Nil0 wr.drew C) :=
          same_self Ah1 Ah2 ch1 ch2 _ _ rs[k] wr.drew (hr1.at (HM.out.trans ((Mod.refl _ wr).drew)) (fun b hb => ⟨hb, fun h => h⟩)) (hr2.at (HM.out.trans ((Mod.refl _ wr).drew)) (fun b hb => ⟨hb, fun h => h⟩))
        clear hcc1 hcc2 hr1 hr2
        gi_wp2
        refine wpIn_regionI (fun w' => w'.cell? ⟨b1, o1 + k, none⟩ = some (.slice Ah1 rs[k].length ch1) ∧ w'.cell? ⟨b2, o2 + k, none⟩ = some (.slice Ah2 rs[k].length ch2)) hmm ?_
        refine takeI (i := 0) (v := .slice (some ⟨b1, o1, none⟩) rs.length c23) rfl (by kernel_rfl) (by kernel_rfl) (by kernel_rfl) (fun _ _ _ h => h) (.inl ⟨rfl, fun w' hI => by go_simp⟩) HI0 ?_
        refine takeI (i := 1) (v := .int .i64 (k : Int)) rfl (by kernel_rfl) (by kernel_rfl) (by kernel_rfl) (fun _ _ _ h => h) (.inl ⟨rfl, fun w' hI => by go_simp⟩) HI0 ?_
        refine takeI (i := 2) (v := .pointer (some ⟨b1, o1 + k, none⟩)) rfl (by kernel_rfl) (by kernel_rfl) (by kernel_rfl) (fun _ _ _ h => h) (.inl ⟨rfl, fun w' hI => by go_simp⟩) HI0 ?_
        refine takeI (i := 3) (v := .slice Ah1 rs[k].length ch1) rfl (by kernel_rfl) (by kernel_rfl) (by kernel_rfl) (fun _ _ _ h => h) (.inl ⟨rfl, fun w' hI => by have h1 := hI.1; go_simp⟩) HI0 ?_
        refine takeI (i := 4) (v := .slice (some ⟨b2, o2, none⟩) rs.length c24) rfl (by kernel_rfl) (by kernel_rfl) (by kernel_rfl) (fun _ _ _ h => h) (.inl ⟨rfl, fun w' hI => by go_simp⟩) HI0 ?_
        refine takeI (i := 5) (v := .int .i64 (k : Int)) rfl (by kernel_rfl) (by kernel_rfl) (by kernel_rfl) (fun _ _ _ h => h) (.inl ⟨rfl, fun w' hI => by go_simp⟩) HI0 ?_
        refine takeI (i := 6) (v := .pointer (some ⟨b2, o2 + k, none⟩)) rfl (by kernel_rfl) (by kernel_rfl) (by kernel_rfl) (fun _ _ _ h => h) (.inl ⟨rfl, fun w' hI => by go_simp⟩) HI0 ?_
        refine takeI (i := 7) (v := .slice Ah2 rs[k].length ch2) rfl (by kernel_rfl) (by kernel_rfl) (by kernel_rfl) (fun _ _ _ h => h) (.inl ⟨rfl, fun w' hI => by have h1 := hI.2; go_simp⟩) HI0 ?_
        simp only [Act.put, List.getElem_toArray, List.getElem_cons_succ, List.getElem_cons_zero, List.setIfInBounds_toArray, List.set_cons_succ, List.set_cons_zero]
        refine callI (i := 8) (by kernel_rfl) rfl rfl (v := .func (.func 13) #[] #[]) (argl := [.slice Ah1 rs[k].length ch1, .slice Ah2 rs[k].length ch2]) rfl rfl ((callV_same HS.out).mono ?_)
        rintro e C ⟨rfl, hC⟩
        refine ⟨⟨hC.cell HI0.1 (fun h => h), hC.cell HI0.2 (fun h => h)⟩, ?_⟩
        refine nextI (i := 9) (v := .bool false) (by kernel_rfl) rfl (by kernel_rfl) (.inl ⟨rfl, fun w' hI => by go_simp⟩) ⟨hC.cell HI0.1 (fun h => h), hC.cell HI0.2 (fun h => h)⟩ ?_
        refine doneI (by kernel_rfl) ?_ _
        simp only [Exit.then, Act.put, List.getElem_toArray, List.getElem_cons_succ, List.getElem_cons_zero, List.setIfInBounds_toArray, List.set_cons_succ, List.set_cons_zero]
        gi_wp2
        exact ⟨⟨k + 1, by omega, by go_num, (HM.out.trans ((Mod.refl _ wr).drew)).trans hC⟩, by simp [intOf]; omega⟩
      · obtain rfl : k = rs.length := by omega
        have HST30 : Hid (MSt w wr bn bc m (q : Int)) := HST24.out.next HM.out
        clear HST24 HM
        gi_wp2_with (first
          | (gi_at_call 19; refine (calls_FW (ro := none) (ofS_int _ c _ xs wr (HST30.out.row HX.out) (by omega))).mono ?_; rintro e B31 ⟨f31, cap31, rfl, hm31, hs31⟩)
          | (gi_at_call 21; refine (calls_FW (ro := none) (mapS_int _ _ _ _ _ _ Nil0 _ xs _ _ hs31 (fun_xor_in xs _) (fun _ h => h.elim) (fun _ _ h => h))).mono ?_; rintro e B32 ⟨f32, cap32, rfl, hm32, hs32⟩; rw [map_zs HZS.out] at hs32)
          | (gi_at_call 9; refine (calls_FW (ro := none) (list_int _ _ _ _ _ zs _ hs32 (by omega))).mono ?_; rintro e B33 ⟨A33, c33, rfl, hm33, hr33, -⟩; have HST33 : Hid (MSt w B33 bn bc m (q : Int)) := ((HST30.out.next hm31).next hm32).next hm33; have HR33 : Hid (Row1 (Value.int .i64) (fun b => b < B33.heap.size) B33 A33 zs) := hr33.mono (fun b hb => hb.2); clear hs31 hs32 hm31 hm32 hm33 hr33))
        gi_loopw [149] (fun i wr2 => ∃ k : Nat, k ≤ zs.length ∧ i = .int .i64 k ∧ Hid (Mod Nil0 B33 wr2)) (fun i _ => zs.length - (intOf i).toNat)
        case' atStart => exact ⟨0, Nat.zero_le _, rfl, Mod.refl _ _⟩
        case' round =>
          obtain ⟨k, hk, rfl, HM⟩ := hrel
          by_cases hlt : k < zs.length
          · have hxk : k < xs.length := by omega
            obtain ⟨b1, o1, e1, -, hcc1⟩ := HR33.out.cell hlt
            obtain ⟨b2, o2, e2, hb2, hcc2⟩ := (HST33.out.row HX.out).cell hxk
            have hzk : zs[k] = bits .xor .i64 xs[k] 1 := by have := HZS.out; subst this; simp
            rw [hzk] at hcc1
            subst e1
            first
              | subst e2
              | (simp only [Option.some.injEq, Addr.mk.injEq, and_true] at e2; obtain ⟨e3, e4⟩ := e2; have e3 := e3.symm; have e4 := e4.symm; subst e3 e4)
            clear hzk hb2
            have HI0 : wr.drew.cell? ⟨b1, o1 + k, none⟩ = some (.int .i64 (bits .xor .i64 xs[k] 1)) ∧ wr.drew.cell? ⟨b2, o2 + k, none⟩ = some (.int .i64 xs[k]) := ⟨HM.out.cell hcc1 (fun h => h), HM.out.cell hcc2 (fun h => h)⟩
            clear hcc1 hcc2
            gi_wp2
            refine wpIn_regionI (fun w' => w'.cell? ⟨b1, o1 + k, none⟩ = some (.int .i64 (bits .xor .i64 xs[k] 1)) ∧ w'.cell? ⟨b2, o2 + k, none⟩ = some (.int .i64 xs[k])) hmm ?_
            refine takeI (i := 0) (v := .slice (some ⟨b1, o1, none⟩) zs.length c33) rfl (by kernel_rfl) (by kernel_rfl) (by kernel_rfl) (fun _ _ _ h => h) (.inl ⟨rfl, fun w' hI => by go_simp⟩) HI0 ?_
            refine takeI (i := 1) (v := .int .i64 (k : Int)) rfl (by kernel_rfl) (by kernel_rfl) (by kernel_rfl) (fun _ _ _ h => h) (.inl ⟨rfl, fun w' hI => by go_simp⟩) HI0 ?_
            refine takeI (i := 2) (v := .pointer (some ⟨b1, o1 + k, none⟩)) rfl (by kernel_rfl) (by kernel_rfl) (by kernel_rfl) (fun _ _ _ h => h) (.inl ⟨rfl, fun w' hI => by go_simp⟩) HI0 ?_
            refine takeI (i := 3) (v := .int .i64 (bits .xor .i64 xs[k] 1)) rfl (by kernel_rfl) (by kernel_rfl) (by kernel_rfl) (fun _ _ _ h => h) (.inl ⟨rfl, fun w' hI => by have h1 := hI.1; go_simp⟩) HI0 ?_
            refine takeI (i := 4) (v := .slice (some ⟨b2, o2, none⟩) xs.length c) rfl (by kernel_rfl) (by kernel_rfl) (by kernel_rfl) (fun _ _ _ h => h) (.inl ⟨rfl, fun w' hI => by go_simp⟩) HI0 ?_
            refine takeI (i := 5) (v := .int .i64 (k : Int)) rfl (by kernel_rfl) (by kernel_rfl) (by kernel_rfl) (fun _ _ _ h => h) (.inl ⟨rfl, fun w' hI => by go_simp⟩) HI0 ?_
            refine takeI (i := 6) (v := .pointer (some ⟨b2, o2 + k, none⟩)) rfl (by kernel_rfl) (by kernel_rfl) (by kernel_rfl) (fun _ _ _ h => h) (.inl ⟨rfl, fun w' hI => by go_simp⟩) HI0 ?_
            refine takeI (i := 7) (v := .int .i64 xs[k]) rfl (by kernel_rfl) (by kernel_rfl) (by kernel_rfl) (fun _ _ _ h => h) (.inl ⟨rfl, fun w' hI => by have h1 := hI.2; go_simp⟩) HI0 ?_
            simp only [Act.put, List.getElem_toArray, List.getElem_cons_succ, List.getElem_cons_zero, List.setIfInBounds_toArray, List.set_cons_succ, List.set_cons_zero]
            refine takeI (i := 8) (v := .int .i64 (bits .xor .i64 xs[k] 1)) rfl (by kernel_rfl) (by kernel_rfl) (by kernel_rfl) (fun _ _ _ h => h) (.inl ⟨rfl, fun w' hI => by go_simp⟩) HI0 ?_
            refine takeI (i := 9) (v := .bool false) rfl (by kernel_rfl) (by kernel_rfl) (by kernel_rfl) (fun _ _ _ h => h) (.inl ⟨rfl, fun w' hI => by go_simp⟩) HI0 ?_
            refine doneI (by kernel_rfl) ?_ _
            simp only [Exit.then, Act.put, List.getElem_toArray, List.getElem_cons_succ, List.getElem_cons_zero, List.setIfInBounds_toArray, List.set_cons_succ, List.set_cons_zero]
            gi_wp2
            exact ⟨⟨k + 1, by omega, by go_num, HM.out.trans ((Mod.refl _ wr).drew)⟩, by simp [intOf]; omega⟩
          · obtain rfl : k = zs.length := by omega
            have HST37 : Hid (MSt w wr bn bc m (q : Int)) := HST33.out.next HM.out
            have hMw := HM.out
            clear HST33
            gi_wp2_with (first
              | (gi_at_call 19; refine (calls_FW (ro := none) (ofS_int _ c _ xs wr (HST37.out.row HX.out) (by omega))).mono ?_; rintro e B38 ⟨f38, cap38, rfl, hm38, hs38⟩)
              | (gi_at_call 19; refine (calls_FW (ro := none) (ofS_int _ d _ ys B38 ((HST37.out.next hm38).row HY.out) (by omega))).mono ?_; rintro e B39 ⟨f39, cap39, rfl, hm39, hs39⟩)
              | (gi_at_call 23; refine (calls_FW (ro := none) (join3 HJS.out hs38 hm39 hs39)).mono ?_; rintro e B41 ⟨f41, cap41, rfl, hm41, hs41⟩)
              | (gi_at_call 9; refine (calls_FW (ro := none) (list_int _ _ _ _ _ js _ hs41 (by omega))).mono ?_; rintro e B42 ⟨A42, c42, rfl, hm42, hr42, -⟩; have hM42 : Mod Nil0 wr B42 := (((hm38.trans hm39).trans (((Mod.refl _ _).alloc _).trans hm41)).trans hm42); have HST42 : Hid (MSt w B42 bn bc m (q : Int)) := HST37.out.next hM42; have HR42 : Hid (Row1 (Value.int .i64) (fun b => b < B42.heap.size) B42 A42 js) := hr42.mono (fun b hb => hb.2); clear hs38 hs39 hs41 hm38 hm39 hm41 hm42 hr42 hM42 hMw HST37))
            have HI0 : B42.drew.cell? ⟨bn, 0, none⟩ = some (.int .i64 m) := cell_of_one' HST42.out.2.1
            have hlw : w.heap.size ≤ B42.heap.size := HST42.out.1.size
            have hbl : bn < B42.heap.size := (Array.getElem?_eq_some_iff.1 HST42.out.2.1).1
            refine wpIn_regionI (fun w' => w'.cell? ⟨bn, 0, none⟩ = some (.int .i64 m)) hmm ?_
            refine takeI (i := 0) (v := .slice A33 zs.length c33) rfl (by kernel_rfl) (by kernel_rfl) (by kernel_rfl) (fun _ _ _ h => h) (.inl ⟨rfl, fun w' hI => by go_simp⟩) HI0 ?_
            refine takeI (i := 1) (v := .int .i64 (zs.length : Int)) rfl (by kernel_rfl) (by kernel_rfl) (by kernel_rfl) (fun _ _ _ h => h) (.inl ⟨rfl, fun w' hI => by go_simp⟩) HI0 ?_
            refine takeI (i := 2) (v := _) rfl (by kernel_rfl) (by kernel_rfl) (by kernel_rfl) (fun _ _ _ h => h) (.inl ⟨rfl, fun w' hI => by go_simp; rfl⟩) HI0 ?_
            refine takeI (i := 3) (v := .int .i64 (xs.length : Int)) rfl (by kernel_rfl) (by kernel_rfl) (by kernel_rfl) (fun _ _ _ h => h) (.inl ⟨rfl, fun w' hI => by go_simp⟩) HI0 ?_
            simp only [Act.put, List.getElem_toArray, List.getElem_cons_succ, List.getElem_cons_zero, List.setIfInBounds_toArray, List.set_cons_succ, List.set_cons_zero]
            refine takeI (i := 4) (v := .bool true) rfl (by kernel_rfl) (by kernel_rfl) (by kernel_rfl) (fun _ _ _ h => h) (.inl ⟨rfl, fun w' hI => by go_simp⟩) HI0 ?_
            refine takeI (i := 5) (v := .bool true) rfl (by kernel_rfl) (by kernel_rfl) (by kernel_rfl) (fun _ _ _ h => h) (.inl ⟨rfl, fun w' hI => by go_simp⟩) HI0 ?_
            simp only [Act.put, List.getElem_toArray, List.getElem_cons_succ, List.getElem_cons_zero, List.setIfInBounds_toArray, List.set_cons_succ, List.set_cons_zero]
            refine takeI (i := 6) (v := .slice A42 js.length c42) rfl (by kernel_rfl) (by kernel_rfl) (by kernel_rfl) (fun _ _ _ h => h) (.inl ⟨rfl, fun w' hI => by go_simp⟩) HI0 ?_
            refine takeI (i := 8) (v := _) rfl (by kernel_rfl) (by kernel_rfl) (by kernel_rfl) (fun _ _ _ h => h) (.inl ⟨rfl, fun w' hI => by go_simp; rfl⟩) HI0 ?_
            refine takeI (i := 10) (v := .slice B ys.length d) rfl (by kernel_rfl) (by kernel_rfl) (by kernel_rfl) (fun _ _ _ h => h) (.inl ⟨rfl, fun w' hI => by go_simp⟩) HI0 ?_
            simp only [Act.put, List.getElem_toArray, List.getElem_cons_succ, List.getElem_cons_zero, List.setIfInBounds_toArray, List.set_cons_succ, List.set_cons_zero]
            have hma : Mod Nil0 B42 (B42.drew.alloc (.cells #[] 3)) := ((Mod.refl _ _).drew).alloc _
            refine effI (i := 7) (v := .slice (some ⟨B42.heap.size, 0, none⟩) 0 0) (w' := B42.drew.alloc (.cells #[] 3)) (by kernel_rfl) rfl (by kernel_rfl) rfl ?_ (hma.cell HI0 (fun h => h)) ?_
            · go_simp
            simp only [Act.put, List.getElem_toArray, List.getElem_cons_succ, List.getElem_cons_zero, List.setIfInBounds_toArray, List.set_cons_succ, List.set_cons_zero]
            refine oneW (i := 9) (by kernel_rfl) rfl rfl (fun K hK => ?_)
            have hrx := (HST42.out.next hma).row HX.out
            refine appL_op (enc := Value.int .i64) B42.heap.size (.tmp 177) (.tmp 178) 22 3 (.int .i64 0) 8 rfl Try.underlying22 info_int rfl (by decide) (.slice (some ⟨B42.heap.size, 0, none⟩) 0 0) 0 [] rfl (World.ownsRow_made B42.drew #[] 0 (Nat.le_refl _) (Nat.zero_le _) (by simp)) _ c xs rfl hrx (fun _ _ => rfl) hma.size (by omega) ?_
            rintro v1 w1 hown1 hg1 hv1 ⟨Av1, cv1, e1⟩
            have hm1 : Mod Nil0 B42 w1 := hma.trans' hg1 (fun b hb h => absurd (show B42.heap.size = b by simpa [Value.ownBlock] using h) (by omega))
            have HST1 : Hid (MSt w w1 bn bc m (q : Int)) := HST42.out.next hm1
            have HO1 : Hid (w1.ownsRow B42.heap.size 3 1 v1 (0 + xs.length) ([] ++ xs.map (Value.int .i64))) := hown1
            refine hK _ _ (cell_of_one' HST1.out.2.1) ?_
            clear hK hrx hown1 hg1 hv1
            simp only [Act.put, List.getElem_toArray, List.getElem_cons_succ, List.getElem_cons_zero, List.setIfInBounds_toArray, List.set_cons_succ, List.set_cons_zero]
            refine oneW (i := 11) (by kernel_rfl) rfl rfl (fun K hK => ?_)
            have hry := HST1.out.row HY.out
            refine appL_op (enc := Value.int .i64) B42.heap.size (.tmp 179) (.tmp 180) 22 3 (.int .i64 0) 8 rfl Try.underlying22 info_int rfl (by decide) v1 (0 + xs.length) _ rfl HO1.out B d ys rfl hry (fun _ _ => rfl) hm1.size (by omega) ?_
            rintro v2 w2 hown2 hg2 hv2 -
            have hm2 : Mod Nil0 B42 w2 := hm1.trans' hg2 (fun b hb h => by have := (own_lt HO1.out h).1; omega)
            have HST2 : Hid (MSt w w2 bn bc m (q : Int)) := HST42.out.next hm2
            obtain ⟨A2, c2, e2, hr2⟩ := Row1.of_own (enc := Value.int .i64) (xs := js) (n := 0 + xs.length + ys.length) (by rw [HJS.out, List.map_append]; exact hown2) (by omega)
            have HS2 := same_self A42 A2 c42 c2 _ _ js w2 (HR42.out.at hm2 (fun b hb => ⟨hb, fun h => h⟩)) hr2
            subst e2
            refine hK _ _ (cell_of_one' HST2.out.2.1) ?_
            clear hK hry hown2 hg2 hv2 hr2
            simp only [Act.put, List.getElem_toArray, List.getElem_cons_succ, List.getElem_cons_zero, List.setIfInBounds_toArray, List.set_cons_succ, List.set_cons_zero]
            refine callI (i := 12) (by kernel_rfl) rfl rfl (v := .func (.func 13) #[] #[]) (argl := [.slice A42 js.length c42, .slice A2 js.length c2]) rfl rfl ((callV_same HS2).mono ?_)
            rintro e w3 ⟨rfl, hm3⟩
            have HST3 : Hid (MSt w w3 bn bc m (q : Int)) := HST2.out.next hm3
            have HI3 : w3.cell? ⟨bn, 0, none⟩ = some (.int .i64 m) := cell_of_one' HST3.out.2.1
            refine ⟨HI3, ?_⟩
            clear HS2 hm3 hm2 hm1 HST2 HST1 HO1
            simp only [Act.put, List.getElem_toArray, List.getElem_cons_succ, List.getElem_cons_zero, List.setIfInBounds_toArray, List.set_cons_succ, List.set_cons_zero]
            refine nextI (i := 13) (v := .bool true) (by kernel_rfl) rfl (by kernel_rfl) (.inl ⟨rfl, fun w' hI => by go_simp⟩) HI3 ?_
            simp only [Act.put, List.getElem_toArray, List.getElem_cons_succ, List.getElem_cons_zero, List.setIfInBounds_toArray, List.set_cons_succ, List.set_cons_zero]
            refine nextI (i := 14) (v := .bool true) (by kernel_rfl) rfl (by kernel_rfl) (.inl ⟨rfl, fun w' hI => by go_simp⟩) HI3 ?_
            simp only [Act.put, List.getElem_toArray, List.getElem_cons_succ, List.getElem_cons_zero, List.setIfInBounds_toArray, List.set_cons_succ, List.set_cons_zero]
            refine takeI (i := 15) (v := _) rfl (by kernel_rfl) (by kernel_rfl) (by kernel_rfl) (fun _ _ _ h => h) (.inl ⟨rfl, fun w' hI => by go_simp; rfl⟩) HI3 ?_
            refine takeI (i := 17) (v := .func (.func 8) #[] #[.pointer (some ⟨bn, 0, none⟩)]) rfl (by kernel_rfl) (by kernel_rfl) (by kernel_rfl) (fun _ _ _ h => h) (.inl ⟨rfl, fun w' hI => by go_simp⟩) HI3 ?_
            refine takeI (i := 20) (v := _) rfl (by kernel_rfl) (by kernel_rfl) (by kernel_rfl) (fun _ _ _ h => h) (.inl ⟨rfl, fun w' hI => by go_simp; rfl⟩) HI3 ?_
            refine takeI (i := 21) (v := .int .i64 m) rfl (by kernel_rfl) (by kernel_rfl) (by kernel_rfl) (fun _ _ _ h => h) (.inl ⟨rfl, fun w' hI => by have h1 := hI; go_simp⟩) HI3 ?_
            simp only [Act.put, List.getElem_toArray, List.getElem_cons_succ, List.getElem_cons_zero, List.setIfInBounds_toArray, List.set_cons_succ, List.set_cons_zero]
            refine callI (i := 16) (by kernel_rfl) rfl rfl (v := .func (.func 19) #[] #[]) (argl := [.slice _ xs.length c]) rfl rfl ((callV_of (ofS_int _ c _ xs w3 (HST3.out.row HX.out) (by omega))).mono ?_)
            rintro e w4 ⟨f4, cap4, rfl, hm4, hs4⟩
            have HST4 : Hid (MSt w w4 bn bc m (q : Int)) := HST3.out.next hm4
            refine ⟨cell_of_one' HST4.out.2.1, ?_⟩
            simp only [Act.put, List.getElem_toArray, List.getElem_cons_succ, List.getElem_cons_zero, List.setIfInBounds_toArray, List.set_cons_succ, List.set_cons_zero]
            refine callI (i := 18) (by kernel_rfl) rfl rfl (v := .func (.func 24) #[] #[]) (argl := [.func (.func f4) #[] cap4, .func (.func 8) #[] #[.pointer (some ⟨bn, 0, none⟩)]]) rfl rfl ((callV_keep (keepS_int _ _ _ _ _ _ _ _ xs _ _ hs4 (pred_lt_in bn m xs _ HST4.out.2.1) (fun _ _ h => h) (fun _ _ h => h))).mono ?_)
            rintro e w5 ⟨f5, cap5, rfl, hm5, hs5⟩
            rw [← HKS.out] at hs5
            have HST5 : Hid (MSt w w5 bn bc m (q : Int)) := HST4.out.next hm5
            refine ⟨cell_of_one' HST5.out.2.1, ?_⟩
            simp only [Act.put, List.getElem_toArray, List.getElem_cons_succ, List.getElem_cons_zero, List.setIfInBounds_toArray, List.set_cons_succ, List.set_cons_zero]
            refine callI (i := 19) (by kernel_rfl) rfl rfl (v := .func (.func 9) #[] #[]) (argl := [.func (.func f5) #[] cap5]) rfl rfl ((callV_list (list_int _ _ _ _ _ ks _ hs5 (by omega))).mono ?_)
            rintro e w6 ⟨A6, c6, rfl, hm6, hr6, -⟩
            have HST6 : Hid (MSt w w6 bn bc m (q : Int)) := HST5.out.next hm6
            refine ⟨cell_of_one' HST6.out.2.1, ?_⟩
            clear hs4 hs5 hm4 hm5 HST5 HST4 HST3
            simp only [Act.put, List.getElem_toArray, List.getElem_cons_succ, List.getElem_cons_zero, List.setIfInBounds_toArray, List.set_cons_succ, List.set_cons_zero]
            refine callI (i := 22) (by kernel_rfl) rfl rfl (v := .func (.func 25) #[] #[]) (argl := [.slice _ xs.length c, .int .i64 m, .bool true]) rfl rfl ((callV_rkeep (refKeep _ c _ xs m w6 (HST6.out.row HX.out) (by omega))).mono ?_)
            rw [← HKS.out]
            rintro e w7 ⟨A7, c7, rfl, hm7, hr7, -⟩
            have HST7 : Hid (MSt w w7 bn bc m (q : Int)) := HST6.out.next hm7
            refine ⟨cell_of_one' HST7.out.2.1, ?_⟩
            simp only [Act.put, List.getElem_toArray, List.getElem_cons_succ, List.getElem_cons_zero, List.setIfInBounds_toArray, List.set_cons_succ, List.set_cons_zero]
            refine callI (i := 23) (by kernel_rfl) rfl rfl (v := .func (.func 13) #[] #[]) (argl := [.slice A6 ks.length c6, .slice A7 ks.length c7]) rfl rfl ((callV_same (same_self A6 A7 c6 c7 _ _ ks w7 (hr6.at hm7 (fun b hb => ⟨hb.2, fun h => h⟩)) hr7)).mono ?_)
            rintro e w8 ⟨rfl, hm8⟩
            have HST8 : Hid (MSt w w8 bn bc m (q : Int)) := HST7.out.next hm8
            have HI8 : w8.cell? ⟨bn, 0, none⟩ = some (.int .i64 m) := cell_of_one' HST8.out.2.1
            refine ⟨HI8, ?_⟩
            clear hr6 hr7 hm6 hm7 hm8 HST6 HST7
            simp only [Act.put, List.getElem_toArray, List.getElem_cons_succ, List.getElem_cons_zero, List.setIfInBounds_toArray, List.set_cons_succ, List.set_cons_zero]
            refine nextI (i := 24) (v := .bool true) (by kernel_rfl) rfl (by kernel_rfl) (.inl ⟨rfl, fun w' hI => by go_simp⟩) HI8 ?_
            simp only [Act.put, List.getElem_toArray, List.getElem_cons_succ, List.getElem_cons_zero, List.setIfInBounds_toArray, List.set_cons_succ, List.set_cons_zero]
            refine nextI (i := 25) (v := .bool true) (by kernel_rfl) rfl (by kernel_rfl) (.inl ⟨rfl, fun w' hI => by go_simp⟩) HI8 ?_
            refine doneI (by kernel_rfl) ?_ _
            simp only [Exit.then, Act.put, List.getElem_toArray, List.getElem_cons_succ, List.getElem_cons_zero, List.setIfInBounds_toArray, List.set_cons_succ, List.set_cons_zero]
            gi_wp2
            go_ret
            exact ⟨rfl, HST8.out.1.below⟩
end Go.Proofs.Ytobioeehfigmcaa
