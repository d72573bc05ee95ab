/- A region that draws its order, in a function's frame or in a round's: operations that yield one value in every world in which I holds may be taken first, where the others keep I. No condition. -/
import Derived.Test.YtobioeehfigmcaaRng
import Derived.OrdersIn
set_option linter.unusedSimpArgs false
set_option linter.unusedVariables false
namespace Go.Proofs.Ytobioeehfigmcaa
open Go Go.RowKit
variable {P : Program} {ro : Option Nat} {n : Nat} {ops : Array Oper} {Q : Exit → Act → World → Prop} {I : World → Prop}

def calmOps (ops : Array Oper) : Bool := ops.all fun o => match o.op with | .select .. => false | .defer _ => false | _ => true
theorem calm_sel (h : calmOps ops = true) {j : Nat} {o : Oper} (ho : ops[j]? = some o) : (∀ cs b, o.op ≠ .select cs b) ∧ (∀ c, o.op ≠ .defer c) := by
  have := Array.all_eq_true_iff_forall_mem.1 h o (Array.mem_of_getElem? ho)
  constructor <;> intros <;> intro e <;> simp [e] at this

/-- It yields v in whatever world I lets in (or isn't wanted). -/
def YI (P : Program) (ops : Array Oper) (I : World → Prop) (o : Oper) (v : Value) (a : Act) : Prop :=
  (Region.wanted o (yielded ops a.tmps) = true ∧ ∀ w, I w → (execOp a.eval o).run P w = .ok (.value v) w) ∨ (Region.wanted o (yielded ops a.tmps) = false ∧ v = undef)
theorem YI.step {i : Nat} {o : Oper} {v : Value} {a : Act} (hi : ops[i]? = some o) (hc : ∀ c, o.op ≠ .defer c) (hy : YI P ops I o v a) {K : Act → World → Prop} {w : World} (hI : I w) (h : K (a.put o.dst v) w) :
    wpOpIn (FW ro) n P ops Q i K a w := by
  unfold wpOpIn
  simp only [hi]
  rcases hy with ⟨hw, hv⟩ | ⟨hw, rfl⟩
  · simp only [hw, if_true, Oper.wpIn, Oper.semAt_eq _ _ _ hc, hv w hI, Oper.uponIn]; exact ⟨fun _ _ => trivial, h⟩
  · simp only [hw, Bool.false_eq_true, if_false]; exact ⟨fun _ _ => trivial, h⟩
theorem YI.same {o : Oper} {v : Value} {a a' : Act} (hy : YI P ops I o v a) (he : execOp a'.eval o = execOp a.eval o) (hw : Region.wanted o (yielded ops a'.tmps) = Region.wanted o (yielded ops a.tmps)) : YI P ops I o v a' := by
  unfold YI at *; rw [he, hw]; exact hy

theorem wpOp_putI {j : Nat} {oi oj : Oper} {v : Value} (hj : ops[j]? = some oj) (hap : oi.apart ops oj = true)
    (hsi : ∀ cs b, oi.op ≠ .select cs b) (hsj : ∀ cs b, oj.op ≠ .select cs b) (hdj : ∀ c, oj.op ≠ .defer c)
    (hQ : ∀ c a w, Q (.panic c) (a.put oi.dst v) w → Q (.panic c) a w) {K : Act → World → Prop} {a : Act} {w : World}
    (hy : YI P ops I oi v a) (h : wpOpIn (FW ro) n P ops Q j K (a.put oi.dst v) w) :
    wpOpIn (FW ro) n P ops Q j (fun a' w' => YI P ops I oi v a' ∧ K (a'.put oi.dst v) w') a w := by
  obtain ⟨h1, h2, h3⟩ := Oper.apart_spec hap
  have keep : ∀ u, YI P ops I oi v (a.put oj.dst u) := fun u => hy.same (execOp_put oi hsi a oj.dst u h3) (wanted_put oi a oj.dst u h3)
  have fin : ∀ u w', K ((a.put oi.dst v).put oj.dst u) w' → YI P ops I oi v (a.put oj.dst u) ∧ K ((a.put oj.dst u).put oi.dst v) w' :=
    fun u w' hk => ⟨keep u, by rw [← Act.put_comm a v u h2]; exact hk⟩
  unfold wpOpIn at *
  simp only [hj] at *
  rw [wanted_put oj a oi.dst v h1] at h
  by_cases hw : Region.wanted oj (yielded ops a.tmps) = true
  · simp only [hw, if_true] at h ⊢
    refine ⟨fun _ _ => trivial, ?_⟩
    have h := h.2
    rw [Oper.semAt_eq _ _ _ hdj] at h ⊢
    rw [execOp_put oj hsj a oi.dst v h1] at h
    generalize hr : (execOp a.eval oj).run P w = r at h ⊢
    cases r with
    | ok x w' =>
      cases x <;> simp only [Oper.uponIn] at h ⊢
      case value u => exact fin u _ h
      case skip => exact fin _ _ h
      case defer d =>
        have k2 : YI P ops I oi v ({ a with defers := d :: a.defers } : Act) := hy.same rfl rfl
        refine ⟨k2.same (execOp_put oi hsi _ oj.dst _ h3) (wanted_put oi _ oj.dst _ h3), ?_⟩
        rw [← Act.put_comm _ v undef h2, ← Act.put_defers]
        exact h
      case enter f args =>
        refine ⟨h.1, CallsIn.mono h.2 fun e w'' he => ?_⟩
        cases e with
        | returned u => exact fin u _ he
        | panicked c => exact hQ _ _ _ he
        | outgrown => exact he
      case row row args => exact ⟨h.1, RowsIn.mono h.2 fun u w'' he => fin u _ he⟩
      case round l f tmps assign body =>
        refine ⟨h.1, RoundIn.mono h.2 fun e w'' he => ?_⟩
        cases e with
        | returned u => exact fin u _ he
        | panicked c => exact hQ _ _ _ he
        | outgrown => exact he
    | halt x w' =>
      cases x <;> simp only [Oper.uponIn] at h ⊢
      case panic u => exact hQ _ _ _ h
  · have hw' : Region.wanted oj (yielded ops a.tmps) = false := by simpa using hw
    simp only [hw', Bool.false_eq_true, if_false] at h ⊢
    exact ⟨fun _ _ => trivial, fin _ _ h.2⟩

/-- The walk over all orders, with I beside it. -/
def wpAnyI (P : Program) (ro : Option Nat) (n : Nat) (ops : Array Oper) (Q : Exit → Act → World → Prop) (I : World → Prop) : Nat → Array Bool → Act → World → Prop
  | 0, listed, a, w => Region.ready .any ops listed = [] ∧ Q .normal a w
  | fuel + 1, listed, a, w =>
    (Region.ready .any ops listed = [] → Q .normal a w) ∧
    ∀ i ∈ Region.ready .any ops listed, wpOpIn (FW ro) n P ops Q i (fun a' w' => I w' ∧ wpAnyI P ro n ops Q I fuel (listed.setIfInBounds i true) a' w') a w
theorem wpAnyI.any : ∀ (fuel : Nat) (listed : Array Bool) (a : Act) (w : World), wpAnyI P ro n ops Q I fuel listed a w → wpAnyIn (FW ro) n P .any ops Q fuel listed a w
  | 0, _, _, _, h => h
  | fuel + 1, listed, a, w, h => ⟨h.1, fun i hi => wpOpIn_mono (fun a' w' hk => wpAnyI.any fuel _ a' w' hk.2) (h.2 i hi)⟩
theorem wpIn_regionI {id : Nat} {a : Act} {w : World} (I : World → Prop) (hm : P.follows .mixedOrders = true) (h : wpAnyI P ro n ops Q I ops.size (Array.replicate ops.size false) a { w with drawn := w.drawn + 1 }) :
    (Code.region id ops true).wpIn (FW ro) n P Q a w := wpIn_region_any hm (wpAnyI.any _ _ _ _ h)

theorem wpAnyI_first {i : Nat} {oi : Oper} {v : Value} (hi : ops[i]? = some oi) (hcalm : calmOps ops = true) (hQ : ∀ c a w, Q (.panic c) (a.put oi.dst v) w → Q (.panic c) a w) :
    ∀ (fuel : Nat) (listed : Array Bool) (a : Act) (w : World),
      (∀ j oj, ops[j]? = some oj → j ≠ i → listed.getD j true = false → (∀ e ∈ oj.after, Region.binds .any e = true → e.on ≠ i) → oi.apart ops oj = true) →
      i ∈ Region.ready .any ops listed → YI P ops I oi v a → I w →
      wpAnyI P ro n ops Q I fuel (listed.setIfInBounds i true) (a.put oi.dst v) w → wpAnyI P ro n ops Q I (fuel + 1) listed a w := by
  intro fuel
  induction fuel with
  | zero =>
    intro listed a w _ hr hy hI H
    refine ⟨fun h => (by rw [h] at hr; cases hr), fun j hj => ?_⟩
    by_cases hji : j = i
    · subst hji; exact hy.step hi (calm_sel hcalm hi).2 hI ⟨hI, H⟩
    · have := ready_mono hj hji
      rw [H.1] at this
      cases this
  | succ fuel ih =>
    intro listed a w hfree hr hy hI H
    refine ⟨fun h => (by rw [h] at hr; cases hr), fun j hj => ?_⟩
    by_cases hji : j = i
    · subst hji; exact hy.step hi (calm_sel hcalm hi).2 hI ⟨hI, H⟩
    · have h1 := H.2 j (ready_mono hj hji)
      obtain ⟨hjun, oj, hoj, hall⟩ := mem_ready.1 hj
      have hnot : ∀ e ∈ oj.after, Region.binds .any e = true → e.on ≠ i := fun e he hb heq => by
        have h1 := hall e he hb
        have h0 := (mem_ready.1 hr).1
        rw [heq] at h1
        rcases Nat.lt_or_ge i listed.size with h' | h'
        · simp [h'] at h0 h1; rw [h0] at h1; cases h1
        · simp [Array.getElem?_eq_none h'] at h1
      have h2 := wpOp_putI hoj (hfree j oj hoj hji hjun hnot) (calm_sel hcalm hi).1 (calm_sel hcalm hoj).1 (calm_sel hcalm hoj).2 hQ hy h1
      refine wpOpIn_mono (fun a' w' h3 => ⟨h3.2.1, ih (listed.setIfInBounds j true) a' w' ?_ (ready_mono hr (Ne.symm hji)) h3.1 h3.2.1 ?_⟩) h2
      · refine fun k ok hk hki hun hno => hfree k ok hk hki ?_ hno
        by_cases hjk : j = k
        · subst hjk; exact hjun
        · rw [getD_set_ne true hjk] at hun; exact hun
      · rw [Array.setIfInBounds_comm _ _ hji]
        exact h3.2.2
/-- **TAKE IT FIRST.** -/
theorem takeI {i : Nat} {oi : Oper} {v : Value} {fuel : Nat} {listed : Array Bool} {a : Act} {w : World} (hi : ops[i]? = some oi) (hcalm : calmOps ops = true) (hf : Region.free .any ops listed i = true)
    (hr : (Region.ready .any ops listed).contains i = true) (hQ : ∀ c a w, Q (.panic c) (a.put oi.dst v) w → Q (.panic c) a w) (hy : YI P ops I oi v a) (hI : I w)
    (h : wpAnyI P ro n ops Q I fuel (listed.setIfInBounds i true) (a.put oi.dst v) w) : wpAnyI P ro n ops Q I (fuel + 1) listed a w :=
  wpAnyI_first hi hcalm hQ fuel listed a w (Region.free_spec hi hf) (by simpa using hr) hy hI h
/-- One alone may come up. -/
theorem oneI {i : Nat} {oi : Oper} {fuel : Nat} {listed : Array Bool} {a : Act} {w : World} (hr : Region.ready .any ops listed = [i]) (hi : ops[i]? = some oi)
    (h : ∀ K : Act → World → Prop, (∀ a w, I w → wpAnyI P ro n ops Q I fuel (listed.setIfInBounds i true) a w → K a w) →
      if Region.wanted oi (yielded ops a.tmps) = true then oi.wpIn (FW ro) n P a w K Q else K (a.put oi.dst undef) w) : wpAnyI P ro n ops Q I (fuel + 1) listed a w := by
  refine ⟨fun h => (by rw [hr] at h; cases h), fun j hj => ?_⟩
  rw [hr, List.mem_singleton] at hj
  subst hj
  unfold wpOpIn
  simp only [hi]
  have := h (fun a' w' => I w' ∧ wpAnyI P ro n ops Q I fuel (listed.setIfInBounds j true) a' w') (fun _ _ h1 h2 => ⟨h1, h2⟩)
  split
  · rename_i hw; rw [if_pos hw] at this; exact this
  · rename_i hw; rw [if_neg hw] at this; exact ⟨fun _ _ => trivial, this⟩
theorem doneI {listed : Array Bool} {a : Act} {w : World} (hr : Region.ready .any ops listed = []) (h : Q .normal a w) : ∀ fuel, wpAnyI P ro n ops Q I fuel listed a w
  | 0 => ⟨hr, h⟩
  | _ + 1 => ⟨fun _ => h, by rw [hr]; simp⟩

/-- A call of a function value, as one operation. -/
theorem operIn_callV {K : Act → World → Prop} {a : Act} {w : World} {dst : Option Tmp} {f : Operand} {ars : Array Operand} {ats : Array TypeId} {ty : TypeId} {pos : String} {after : Array Edge} {gd : Option (Nat × Bool)}
    {v : Value} {argl : List Value} (hv : a.eval f = v) (ha : ars.toList.map a.eval = argl)
    (h : CallV P v argl.toArray w fun e w' => match e with | .returned v => K (a.put dst v) w' | .panicked chain => Q (.panic chain) a w' | .outgrown => LetsOut Q) :
    Oper.wpIn (FW ro) n P { dst := dst, op := .call { callee := .value f, args := ars, argTypes := ats }, type := ty, pos := pos, after := after, guard := gd } a w K Q := by
  have h2 := wpListIn_callV (P := P) (ro := ro) (n := n) (ops := #[]) (Q := fun e a w => match e with | .normal => K a w | e => Q e a w) (rest := []) (a := a) (w := w) (dst := dst) (f := f) (ars := ars) (ats := ats) (ty := ty) (pos := pos) (after := after) (gd := none) hv ha rfl
    (h.mono (fun e w' he => by
      cases e with
      | returned v => exact he
      | panicked c => exact he
      | outgrown => obtain ⟨a0, w0, h0⟩ := he; exact ⟨a0, w0, h0⟩))
  simp only [wpListIn, Region.wanted, if_true] at h2
  have h3 := h2.2
  refine ⟨fun _ _ => trivial, ?_⟩
  rw [Oper.semAt_eq _ _ _ (by intro c hc; cases hc)] at h3 ⊢
  have e1 : ∀ g, execOp a.eval { dst := dst, op := .call { callee := .value f, args := ars, argTypes := ats }, type := ty, pos := pos, after := after, guard := g } = execOp a.eval { dst := dst, op := .call { callee := .value f, args := ars, argTypes := ats }, type := ty, pos := pos, after := after, guard := none } := fun g => rfl
  rw [e1 gd]
  generalize (execOp a.eval { dst := dst, op := .call { callee := .value f, args := ars, argTypes := ats }, type := ty, pos := pos, after := after, guard := none }).run P w = r at h3 ⊢
  cases r with
  | ok x w' =>
    cases x <;> simp only [Oper.uponIn] at h3 ⊢ <;> first
      | exact h3
      | exact ⟨h3.1, CallsIn.mono h3.2 (fun e w'' he => by cases e <;> first | exact he | (obtain ⟨a0, w0, h0⟩ := he; exact ⟨a0, w0, h0⟩))⟩
      | exact ⟨h3.1, RoundIn.mono h3.2 (fun e w'' he => by cases e <;> first | exact he | (obtain ⟨a0, w0, h0⟩ := he; exact ⟨a0, w0, h0⟩))⟩
  | halt x w' => cases x <;> simp only [Oper.uponIn] at h3 ⊢ <;> exact h3
/-- One alone may come up: a call of a function value. -/
theorem callI {i fuel : Nat} {listed : Array Bool} {a : Act} {w : World} {dst : Option Tmp} {f : Operand} {ars : Array Operand} {ats : Array TypeId} {ty : TypeId} {pos : String} {after : Array Edge} {gd : Option (Nat × Bool)}
    (hr : Region.ready .any ops listed = [i]) (hi : ops[i]? = some { dst := dst, op := .call { callee := .value f, args := ars, argTypes := ats }, type := ty, pos := pos, after := after, guard := gd })
    (hw : Region.wanted { dst := dst, op := .call { callee := .value f, args := ars, argTypes := ats }, type := ty, pos := pos, after := after, guard := gd } (yielded ops a.tmps) = true)
    {v : Value} {argl : List Value} (hv : a.eval f = v) (ha : ars.toList.map a.eval = argl)
    (h : CallV P v argl.toArray w fun e w' => match e with | .returned u => I w' ∧ wpAnyI P ro n ops Q I fuel (listed.setIfInBounds i true) (a.put dst u) w' | .panicked chain => Q (.panic chain) a w' | .outgrown => LetsOut Q) :
    wpAnyI P ro n ops Q I (fuel + 1) listed a w := by
  refine oneI hr hi (fun K hK => ?_)
  rw [if_pos hw]
  refine operIn_callV hv ha (h.mono (fun e w' he => ?_))
  cases e with
  | returned u => exact hK _ _ he.1 he.2
  | panicked c => exact he
  | outgrown => exact he
/-- One alone may come up: it yields in every world. -/
theorem nextI {i fuel : Nat} {oi : Oper} {v : Value} {listed : Array Bool} {a : Act} {w : World} (hr : Region.ready .any ops listed = [i]) (hi : ops[i]? = some oi) (hcalm : calmOps ops = true) (hy : YI P ops I oi v a) (hI : I w)
    (h : wpAnyI P ro n ops Q I fuel (listed.setIfInBounds i true) (a.put oi.dst v) w) : wpAnyI P ro n ops Q I (fuel + 1) listed a w := by
  refine ⟨fun h => (by rw [hr] at h; cases h), fun j hj => ?_⟩
  rw [hr, List.mem_singleton] at hj
  subst hj
  exact hy.step hi (calm_sel hcalm hi).2 hI ⟨hI, h⟩
/-- One alone may come up: it has an effect. -/
theorem effI {i fuel : Nat} {oi : Oper} {v : Value} {listed : Array Bool} {a : Act} {w w' : World} (hr : Region.ready .any ops listed = [i]) (hi : ops[i]? = some oi) (hcalm : calmOps ops = true) (hw : Region.wanted oi (yielded ops a.tmps) = true)
    (hrun : (execOp a.eval oi).run P w = .ok (.value v) w') (hI : I w') (h : wpAnyI P ro n ops Q I fuel (listed.setIfInBounds i true) (a.put oi.dst v) w') : wpAnyI P ro n ops Q I (fuel + 1) listed a w := by
  refine oneI hr hi (fun K hK => ?_)
  rw [if_pos hw]
  unfold Oper.wpIn
  rw [Oper.semAt_eq _ _ _ (calm_sel hcalm hi).2, hrun]
  exact ⟨fun _ _ => trivial, hK _ _ hI h⟩
end Go.Proofs.Ytobioeehfigmcaa
