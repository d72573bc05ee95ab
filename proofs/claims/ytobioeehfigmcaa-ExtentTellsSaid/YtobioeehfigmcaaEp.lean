/- Extents, in plain Lean: which are apart, what is free, what is taken. No condition. -/
set_option linter.unusedVariables false
namespace Go.Proofs.Ytobioeehfigmcaa
namespace Ext

abbrev E := Int × Int
def top : Int := 1099511627776
def okE (x : E) : Prop := 0 ≤ x.1 ∧ 1 ≤ x.2 ∧ x.2 ≤ 1099511627776 ∧ x.1 ≤ 1099511627776 - x.2
instance (x : E) : Decidable (okE x) := by unfold okE; infer_instance
def dj (x y : E) : Prop := ¬ (x.1 < y.1 + y.2 ∧ y.1 < x.1 + x.2)
instance (x y : E) : Decidable (dj x y) := by unfold dj; infer_instance
def apart (xs : List E) : Prop := (∀ x ∈ xs, okE x) ∧ xs.Pairwise dj
instance (xs : List E) : Decidable (apart xs) := by unfold apart; infer_instance
def apartB (xs : List E) : Bool := decide (apart xs)

/-- The program's look along a rising row. -/
def chain : Int → List E → Bool
  | _, [] => true
  | low, x :: r => decide (low ≤ x.1 ∧ 1 ≤ x.2 ∧ x.2 ≤ 1099511627776 ∧ x.1 ≤ 1099511627776 - x.2) && chain (x.1 + x.2) r
def Rises (rs : List E) : Prop := rs.Pairwise fun x y => x.1 ≤ y.1
theorem dj_symm {x y : E} (h : dj x y) : dj y x := by unfold dj at *; omega
theorem chain_spec : ∀ (rs : List E) (low : Int), 0 ≤ low → Rises rs → (chain low rs = true ↔ (apart rs ∧ ∀ x ∈ rs, low ≤ x.1))
  | [], low, h0, hr => by simp [chain, apart]
  | x :: r, low, h0, hr => by
    unfold Rises at hr
    rw [List.pairwise_cons] at hr
    obtain ⟨hx, hr⟩ := hr
    simp only [chain, Bool.and_eq_true, decide_eq_true_eq]
    constructor
    · rintro ⟨h1, h2⟩
      have ih := (chain_spec r (x.1 + x.2) (by omega) hr).1 h2
      obtain ⟨⟨ok, pw⟩, lo⟩ := ih
      refine ⟨⟨?_, ?_⟩, ?_⟩
      · intro y hy
        rcases List.mem_cons.1 hy with rfl | hy
        · unfold okE; omega
        · exact ok y hy
      · rw [List.pairwise_cons]
        refine ⟨fun y hy => ?_, pw⟩
        have := lo y hy
        unfold dj; omega
      · intro y hy
        rcases List.mem_cons.1 hy with rfl | hy
        · exact h1.1
        · have := lo y hy; omega
    · rintro ⟨⟨ok, pw⟩, lo⟩
      rw [List.pairwise_cons] at pw
      have hok := ok x (List.mem_cons_self ..)
      have hlo := lo x (List.mem_cons_self ..)
      unfold okE at hok
      refine ⟨by omega, (chain_spec r (x.1 + x.2) (by omega) hr).2 ⟨⟨fun y hy => ok y (List.mem_cons_of_mem _ hy), pw.2⟩, fun y hy => ?_⟩⟩
      have h1 := pw.1 y hy
      have h2 := hx y hy
      have h3 := ok y (List.mem_cons_of_mem _ hy)
      unfold okE at h3; unfold dj at h1; omega
theorem apart_perm {xs ys : List E} (h : xs.Perm ys) : apart xs ↔ apart ys := by
  unfold apart
  rw [List.Perm.pairwise_iff (fun hxy => dj_symm hxy) h]
  constructor
  · rintro ⟨h1, h2⟩; exact ⟨fun x hx => h1 x (h.mem_iff.2 hx), h2⟩
  · rintro ⟨h1, h2⟩; exact ⟨fun x hx => h1 x (h.mem_iff.1 hx), h2⟩
theorem chain_apart {xs rs : List E} (h : rs.Perm xs) (hr : Rises rs) : chain 0 rs = apartB xs := by
  rw [Bool.eq_iff_iff, chain_spec rs 0 (by omega) hr, apartB, decide_eq_true_eq, ← apart_perm h]
  exact ⟨fun h => h.1, fun h => ⟨h, fun x hx => (h.1 x hx).1⟩⟩

/-- The reference's look at one more. -/
theorem apart_snoc {xs : List E} {x : E} : apart (xs ++ [x]) ↔ apart xs ∧ okE x ∧ ∀ y ∈ xs, dj y x := by
  unfold apart
  rw [List.pairwise_append]
  constructor
  · rintro ⟨h1, h2, _, h3⟩
    exact ⟨⟨fun y hy => h1 y (by simp [hy]), h2⟩, h1 x (by simp), fun y hy => h3 y hy x (by simp)⟩
  · rintro ⟨⟨h1, h2⟩, h3, h4⟩
    refine ⟨fun y hy => ?_, h2, by simp, fun y hy z hz => ?_⟩
    · rcases List.mem_append.1 hy with hy | hy
      · exact h1 y hy
      · simp at hy; subst hy; exact h3
    · simp at hz; subst hz; exact h4 y hy
theorem apart_take {xs : List E} (h : apart xs) (k : Nat) : apart (xs.take k) :=
  ⟨fun x hx => h.1 x (List.mem_of_mem_take hx), h.2.sublist (List.take_sublist ..)⟩

/-- How much they are. -/
def sumE (xs : List E) : Int := (xs.map (·.2)).foldl (· + ·) 0
theorem foldl_shift : ∀ (l : List Int) (a : Int), l.foldl (· + ·) a = a + l.foldl (· + ·) 0
  | [], a => by simp
  | x :: l, a => by simp only [List.foldl_cons]; rw [foldl_shift l (a + x), foldl_shift l (0 + x)]; omega
theorem sumE_cons (x : E) (l : List E) : sumE (x :: l) = x.2 + sumE l := by unfold sumE; simp only [List.map_cons, List.foldl_cons]; rw [foldl_shift]; omega
theorem sumE_snoc (l : List E) (x : E) : sumE (l ++ [x]) = sumE l + x.2 := by unfold sumE; simp
theorem sumE_bd : ∀ (l : List E), (∀ x ∈ l, okE x) → (l.length : Int) ≤ sumE l ∧ sumE l ≤ l.length * 1099511627776
  | [], _ => by simp [sumE]
  | x :: l, h => by
    have h1 := sumE_bd l (fun y hy => h y (List.mem_cons_of_mem _ hy))
    have h2 := h x (List.mem_cons_self ..)
    unfold okE at h2
    rw [sumE_cons, List.length_cons]; omega
def total (xs : List E) : Int := if apart xs then sumE xs else 0

/-- What the program takes: the row, and what is left of the count. -/
def takeP : List E → Int → List E × Int
  | [], n => ([], n)
  | x :: l, n => if n = 0 then ([], 0) else let m := min x.2 n; let r := takeP l (n - m); ((x.1, m) :: r.1, r.2)
/-- What the reference takes. -/
def takeR : List E → Int → List E
  | [], _ => []
  | x :: l, n => if x.2 ≤ n then x :: takeR l (n - x.2) else if 0 < n then (x.1, n) :: takeR l 0 else takeR l 0
theorem takeR_zero : ∀ l : List E, (∀ x ∈ l, 1 ≤ x.2) → takeR l 0 = []
  | [], _ => rfl
  | x :: l, h => by
    have h1 := h x (List.mem_cons_self ..)
    have h2 := takeR_zero l (fun y hy => h y (List.mem_cons_of_mem _ hy))
    rw [takeR, if_neg (by omega), if_neg (by omega), h2]
theorem takeP_zero (l : List E) : takeP l 0 = ([], 0) := by cases l <;> simp [takeP]
theorem take_eq : ∀ (l : List E) (n : Int), (∀ x ∈ l, 1 ≤ x.2) → 0 ≤ n → (takeP l n).1 = takeR l n ∧ (takeP l n).2 = max (n - sumE l) 0
  | [], n, _, h0 => by simp [takeP, takeR, sumE]; omega
  | x :: l, n, h, h0 => by
    have h1 := h x (List.mem_cons_self ..)
    have hl := fun y hy => h y (List.mem_cons_of_mem _ hy)
    have hs : 0 ≤ sumE l := by
      clear h0
      induction l with
      | nil => simp [sumE]
      | cons y l ih => rw [sumE_cons]; have := hl y (List.mem_cons_self ..); have := ih (fun z hz => h z (by simp at hz ⊢; rcases hz with rfl | hz <;> simp [*])) (fun z hz => hl z (List.mem_cons_of_mem _ hz)); omega
    rw [sumE_cons]
    by_cases hn : n = 0
    · subst hn
      rw [takeP_zero, takeR_zero _ h]; simp; omega
    · rw [takeP, if_neg hn, takeR]
      by_cases hx : x.2 ≤ n
      · have ih := take_eq l (n - x.2) hl (by omega)
        rw [if_pos hx]
        have hm : min x.2 n = x.2 := by omega
        simp only [hm]
        exact ⟨by rw [ih.1], by rw [ih.2]; omega⟩
      · rw [if_neg hx, if_pos (by omega)]
        have hm : min x.2 n = n := by omega
        simp only [hm]
        rw [show n - n = 0 by omega, takeP_zero, takeR_zero l hl]
        exact ⟨rfl, by simp; omega⟩

/-- What is free: along a rising row, up to hi, from at on. -/
def freeP : List E → Int → Int → List E
  | [], hi, at' => if at' < hi then [(at', hi - at')] else []
  | x :: r, hi, at' => (if at' < min x.1 hi then [(at', min x.1 hi - at')] else []) ++ freeP r hi (max at' (x.1 + x.2))
def has (xs : List E) (n : Int) : Bool := xs.any fun x => decide (x.1 ≤ n) && decide (n < x.1 + x.2)
/-- One more free address. -/
def ext (l : List E) (n : Int) : List E := match l.getLast? with
  | some y => if y.1 + y.2 = n then l.dropLast ++ [(y.1, y.2 + 1)] else l ++ [(n, 1)]
  | none => l ++ [(n, 1)]
theorem ext_snoc (l : List E) (y : E) (n : Int) : ext (l ++ [y]) n = if y.1 + y.2 = n then l ++ [(y.1, y.2 + 1)] else l ++ [y] ++ [(n, 1)] := by unfold ext; simp
theorem ext_new (l : List E) (n : Int) (h : ∀ y, l.getLast? = some y → y.1 + y.2 < n) : ext l n = l ++ [(n, 1)] := by
  unfold ext
  cases hl : l.getLast? with
  | none => rfl
  | some y => have := h y hl; simp only; rw [if_neg (by omega)]
theorem freeP_nil : ∀ (r : List E) (hi at' : Int), hi ≤ at' → freeP r hi at' = []
  | [], hi, a, h => by rw [freeP, if_neg (by omega)]
  | x :: r, hi, a, h => by rw [freeP, if_neg (by omega), freeP_nil r hi _ (by omega)]; rfl
/-- Rising, apart and not empty. -/
def Line (rs : List E) : Prop := (∀ x ∈ rs, 1 ≤ x.2) ∧ rs.Pairwise fun x y => x.1 + x.2 ≤ y.1
theorem free_step : ∀ (rs : List E) (n a : Int) (pre : List E), Line rs → a ≤ n → (∀ y, pre.getLast? = some y → y.1 + y.2 < a) →
    pre ++ freeP rs (n + 1) a = if has rs n then pre ++ freeP rs n a else ext (pre ++ freeP rs n a) n
  | [], n, a, pre, hl, ha, hp => by
    simp only [freeP, has, List.any_nil, Bool.false_eq_true, if_false]
    rw [if_pos (by omega)]
    by_cases h : a < n
    · rw [if_pos h, ext_snoc, if_pos (by simp; omega)]; simp; omega
    · obtain rfl : a = n := by omega
      rw [if_neg (by omega), List.append_nil, ext_new _ _ hp]; simp; omega
  | x :: r, n, a, pre, ⟨hpos, hpw⟩, ha, hp => by
    rw [List.pairwise_cons] at hpw
    have hx := hpos x (List.mem_cons_self ..)
    have hr : Line r := ⟨fun y hy => hpos y (List.mem_cons_of_mem _ hy), hpw.2⟩
    by_cases h1 : n < x.1
    · have hh : has (x :: r) n = false := by
        unfold has
        rw [List.any_eq_false]
        intro y hy
        rcases List.mem_cons.1 hy with rfl | hy
        · simp; omega
        · have := hpw.1 y hy; simp; omega
      rw [hh, freeP, freeP, freeP_nil r (n + 1) _ (by omega), freeP_nil r n _ (by omega), List.append_nil, List.append_nil]
      simp only [Bool.false_eq_true, if_false]
      rw [show min x.1 (n + 1) = n + 1 by omega, show min x.1 n = n by omega, if_pos (by omega)]
      by_cases h : a < n
      · rw [if_pos h, ext_snoc, if_pos (by simp; omega)]; simp; omega
      · obtain rfl : a = n := by omega
        rw [if_neg (by omega), List.append_nil, ext_new _ _ hp]; simp; omega
    · rw [freeP, freeP, show min x.1 (n + 1) = x.1 by omega, show min x.1 n = x.1 by omega]
      by_cases h2 : n < x.1 + x.2
      · have hh : has (x :: r) n = true := by unfold has; rw [List.any_cons]; simp; left; omega
        rw [hh, freeP_nil r (n + 1) _ (by omega), freeP_nil r n _ (by omega)]; rfl
      · have hh : has (x :: r) n = has r n := by unfold has; rw [List.any_cons]; simp; omega
        rw [hh, ← List.append_assoc, ← List.append_assoc]
        refine free_step r n _ _ hr (by omega) ?_
        intro y hy
        by_cases h3 : a < x.1
        · rw [if_pos h3] at hy; simp at hy; subst hy; simp; omega
        · rw [if_neg h3, List.append_nil] at hy; have := hp y hy; omega
/-- The reference's walk over the addresses. -/
def freeR (xs : List E) (lo : Int) : Nat → List E
  | 0 => []
  | k + 1 => if has xs (lo + k) then freeR xs lo k else ext (freeR xs lo k) (lo + k)
theorem has_perm {xs rs : List E} (h : rs.Perm xs) (n : Int) : has rs n = has xs n := by
  unfold has; rw [Bool.eq_iff_iff, List.any_eq_true, List.any_eq_true]
  exact ⟨fun ⟨x, hx, h1⟩ => ⟨x, h.mem_iff.1 hx, h1⟩, fun ⟨x, hx, h1⟩ => ⟨x, h.mem_iff.2 hx, h1⟩⟩
theorem line_of {xs rs : List E} (h : rs.Perm xs) (hr : Rises rs) (ha : apart xs) : Line rs := by
  obtain ⟨h1, h2⟩ := (apart_perm h).2 ha
  refine ⟨fun x hx => (h1 x hx).2.1, ?_⟩
  unfold Rises at hr
  have := (hr.and h2).and (List.pairwise_iff_forall_sublist.2 fun {x y} hs => (⟨(h1 x (hs.subset (by simp))), (h1 y (hs.subset (by simp)))⟩ : okE x ∧ okE y))
  refine this.imp ?_
  rintro x y ⟨⟨h3, h4⟩, h5, h6⟩
  unfold dj at h4; unfold okE at h5 h6; omega
theorem free_eq {xs rs : List E} (h : rs.Perm xs) (hr : Rises rs) (ha : apart xs) (lo : Int) : ∀ k : Nat, freeR xs lo k = freeP rs (lo + k) lo
  | 0 => by rw [freeR, freeP_nil _ _ _ (by simp)]
  | k + 1 => by
    have := free_step rs (lo + k) lo [] (line_of h hr ha) (by omega) (by simp)
    rw [freeR, free_eq h hr ha lo k, ← has_perm h]
    simp only [List.nil_append] at this
    rw [← this]
    congr 1; omega

/-- The sectors, in order. -/
def secs (xs : List E) : List Int := xs.flatMap fun x => (List.range x.2.toNat).map fun (i : Nat) => x.1 + (i : Int)
def off (xs : List E) (i : Nat) : Nat := (secs (xs.take i)).length
theorem off_zero (xs : List E) : off xs 0 = 0 := rfl
theorem secs_append (a b : List E) : secs (a ++ b) = secs a ++ secs b := by unfold secs; rw [List.flatMap_append]
theorem secs_one (x : E) : secs [x] = (List.range x.2.toNat).map fun (i : Nat) => x.1 + (i : Int) := by simp [secs]
theorem off_succ {xs : List E} {i : Nat} (h : i < xs.length) : off xs (i + 1) = off xs i + xs[i].2.toNat := by
  unfold off; rw [List.take_succ_eq_append_getElem h, secs_append, List.length_append, secs_one]; simp
theorem off_len (xs : List E) : off xs xs.length = (secs xs).length := by unfold off; rw [List.take_length]
theorem off_mono {xs : List E} {i j : Nat} (h : i ≤ j) : off xs i ≤ off xs j := by
  unfold off
  have : xs.take i = (xs.take j).take i := by rw [List.take_take, Nat.min_eq_left h]
  rw [this]
  conv => rhs; rw [← List.take_append_drop i (xs.take j), secs_append, List.length_append]
  omega
theorem secs_get {xs : List E} {i k : Nat} (h : i < xs.length) (hk : k < xs[i].2.toNat) : ∃ h' : off xs i + k < (secs xs).length, (secs xs)[off xs i + k] = xs[i].1 + (k : Int) := by
  have e : secs xs = secs (xs.take i) ++ ((List.range xs[i].2.toNat).map (fun (i' : Nat) => xs[i].1 + (i' : Int)) ++ secs (xs.drop (i + 1))) := by
    rw [← secs_one, ← secs_append, ← secs_append]
    congr 1
    rw [List.singleton_append, ← List.drop_eq_getElem_cons h, List.take_append_drop]
  have hl : off xs i + k < (secs xs).length := by rw [e]; unfold off; simp; omega
  refine ⟨hl, ?_⟩
  simp only [e]
  rw [List.getElem_append_right (by unfold off; omega), List.getElem_append_left (by unfold off; simp; omega)]
  simp [off]
def secsA (xs : List E) : List Int := if apart xs then secs xs else []

/-- The program's walk, its last row being (hi, 0). -/
def freeQ : List E → Int → Int → List E
  | [], _, _ => []
  | x :: r, hi, a => (if a < min x.1 hi then [(a, min x.1 hi - a)] else []) ++ freeQ r hi (max a (x.1 + x.2))
theorem freeQ_eq : ∀ (rs : List E) (hi a : Int), freeQ (rs ++ [(hi, 0)]) hi a = freeP rs hi a
  | [], hi, a => by simp [freeQ, freeP]
  | x :: r, hi, a => by rw [List.cons_append, freeQ, freeP, freeQ_eq r]
def FreeS (L : List E) (hi lo : Int) (k : Nat) (a : Int) (ys : List E) : Prop := freeQ L hi lo = ys ++ freeQ (L.drop k) hi a
theorem FreeS.more {L : List E} {hi lo a : Int} {k : Nat} {ys : List E} (h : FreeS L hi lo k a ys) (hk : k < L.length) (hl : a < min L[k].1 hi) : FreeS L hi lo (k + 1) (max a (L[k].1 + L[k].2)) (ys ++ [(a, min L[k].1 hi - a)]) := by
  unfold FreeS at *; rw [h, List.drop_eq_getElem_cons hk, freeQ, if_pos hl]; simp
theorem FreeS.less {L : List E} {hi lo a : Int} {k : Nat} {ys : List E} (h : FreeS L hi lo k a ys) (hk : k < L.length) (hl : ¬ a < min L[k].1 hi) : FreeS L hi lo (k + 1) (max a (L[k].1 + L[k].2)) ys := by
  unfold FreeS at *; rw [h, List.drop_eq_getElem_cons hk, freeQ, if_neg hl]; simp
theorem FreeS.done {L : List E} {hi lo a : Int} {ys : List E} (h : FreeS L hi lo L.length a ys) : freeQ L hi lo = ys := by
  unfold FreeS at h; rw [h, List.drop_length]; simp [freeQ]
end Ext
end Go.Proofs.Ytobioeehfigmcaa
