/- Rows of extents that are read; sequences over them. No condition but the slice's bound. -/
import Derived.Test.YtobioeehfigmcaaEx1
import Derived.Test.YtobioeehfigmcaaMk
set_option linter.unusedSimpArgs false
set_option linter.unusedVariables false
set_option maxRecDepth 100000
namespace Go.Proofs.Ytobioeehfigmcaa
open Go Go.RowKit Go.Shelf
attribute [local go_sem] Oper.semAt_some

/-- A row of elements of k cells that is read, in a block of D. -/
def RowK {α : Type} (k : Nat) (enc : α → List Value) (D : Nat → Prop) (w : World) (A : Option Addr) (xs : List α) : Prop :=
  xs.length ≤ 140737488351232 ∧ (0 < xs.length → ∃ b o, A = some ⟨b, o, none⟩ ∧ D b ∧ ∀ j x, xs[j]? = some x → ∀ i v, (enc x)[i]? = some v → w.cell? ⟨b, o + j * k + i, none⟩ = some v)
theorem RowK.keep {α : Type} {k : Nat} {enc : α → List Value} {D : Nat → Prop} {w w' : World} {A : Option Addr} {xs : List α} (h : RowK k enc D w A xs) (hd : ∀ b, D b → w'.heap[b]? = w.heap[b]?) : RowK k enc D w' A xs := by
  refine ⟨h.1, fun h0 => ?_⟩
  obtain ⟨b, o, rfl, hb, hc⟩ := h.2 h0
  exact ⟨b, o, rfl, hb, fun j x hj i v hi => (World.cell?_of_block (a := ⟨b, o + j * k + i, none⟩) (hd b hb)).trans (hc j x hj i v hi)⟩
theorem RowK.mono {α : Type} {k : Nat} {enc : α → List Value} {D D' : Nat → Prop} {w : World} {A : Option Addr} {xs : List α} (h : RowK k enc D w A xs) (hd : ∀ b, D b → D' b) : RowK k enc D' w A xs := by
  refine ⟨h.1, fun h0 => ?_⟩
  obtain ⟨b, o, rfl, hb, hc⟩ := h.2 h0
  exact ⟨b, o, rfl, hd b hb, hc⟩
theorem RowK.nil {α : Type} (k : Nat) (enc : α → List Value) (D : Nat → Prop) (w : World) (A : Option Addr) : RowK k enc D w A [] := ⟨by simp, fun h => by simp at h⟩
theorem RowK.at {α : Type} {k : Nat} {enc : α → List Value} {D : Nat → Prop} {w w' : World} {A : Option Addr} {xs : List α} (h : RowK k enc D w A xs) {S : Nat → Prop} (hm : Mod S w w') (hS : ∀ b, D b → b < w.heap.size ∧ ¬ S b) : RowK k enc D w' A xs :=
  h.keep (fun b hb => hm.block b (hS b hb).1 (hS b hb).2)
/-- The two cells of an extent. -/
theorem RowK.ext {D : Nat → Prop} {w : World} {A : Option Addr} {xs : List (Int × Int)} (h : RowK 2 encE D w A xs) {j : Nat} (hj : j < xs.length) :
    ∃ b o, A = some ⟨b, o, none⟩ ∧ D b ∧ w.cell? ⟨b, o + j * 2, none⟩ = some (.int .i64 xs[j].1) ∧ w.cell? ⟨b, o + j * 2 + 1, none⟩ = some (.int .i64 xs[j].2) := by
  obtain ⟨b, o, e, hb, hc⟩ := h.2 (by omega)
  exact ⟨b, o, e, hb, hc j xs[j] (by simp [hj]) 0 _ rfl, hc j xs[j] (by simp [hj]) 1 _ rfl⟩
theorem vals_ext (A : Option Addr) (n c : Nat) (w : World) : Calls Try.prog 115 #[.slice A n c] w fun e B =>
    e = .returned (.func (.func 146) #[] #[.pointer (some ⟨w.heap.size, 0, none⟩)]) ∧ B = w.alloc (.cells #[.slice A n c] 51) := by
  go_enter Try.func115, Try.ntmps115
  go_wp2
  go_ret
  exact ⟨rfl, rfl⟩
def aggE (x : Int × Int) : Value := .agg #[.int .i64 x.1, .int .i64 x.2]
set_option maxHeartbeats 1000000 in
theorem values1_ext (box c : Nat) (A : Option Addr) (D : Nat → Prop) (xs : List (Int × Int)) (w : World)
    (hb : w.cell? ⟨box, 0, none⟩ = some (.slice A xs.length c)) (hr : RowK 2 encE D w A xs) (hD : ∀ b, D b → b < w.heap.size) :
    IsSeq Try.prog (.func (.func 146) #[] #[.pointer (some ⟨box, 0, none⟩)]) (fun b => b = box ∨ D b) (xs.map fun x => #[aggE x]) w := by
  refine ⟨?_, fun _ _ _ _ _ => trivial, ?_⟩
  · rintro b ((rfl | h) | h)
    · exact World.block_lt_of_cell? w _ hb
    · exact hD b h
    · exact h.elim
  intro yf ya yc J Jx m W hW hD' hJ hJx hR hY h0
  refine .fn _ _ _ _ _ (enters_of Try.func146 (by kernel_rfl) rfl) (calls_of_FW (ro := none) (n := 0) ?_)
  refine callsIn_of_wp Try.func146 rfl trivial ?_
  simp only [Try.ntmps146, List.size_toArray, List.length_cons, List.length_nil, Nat.reduceAdd, Nat.reduceSub, Array.replicate_succ, Array.replicate_zero, List.push_toArray, List.append_toArray, List.nil_append, List.cons_append]
  have hbW : W.cell? ⟨box, 0, none⟩ = some (.slice A xs.length c) := (World.cell?_of_block (hD' box (.inl (.inl rfl)))).trans hb
  have hm0 : ∀ b, m b → ¬ (b = box ∨ D b) := fun b hb hd => (hR 0 m W h0 b hb).2.1 hd
  have H0 : Hid (J 0 m W) := h0
  have HJ0 : Hid (Stab W.heap.size Nil0 J) := hJ
  have hlen := hr.1
  gi_wp2
  gi_loopw [7] (fun i wr => ∃ (k : Nat) (m' : Nat → Prop), k ≤ xs.length ∧ i = .int .i64 k ∧ Hid (J k m' wr ∧ Mod (fun b => m b ∨ Nil0 b) W wr ∧ ∀ b, m' b → m b ∨ W.heap.size ≤ b)) (fun i _ => xs.length - (intOf i).toNat)
  case atStart => exact ⟨0, m, Nat.zero_le _, rfl, H0, Mod.refl _ _, fun b hb => .inl hb⟩
  case round =>
    obtain ⟨k, m', hk, rfl, HJ⟩ := hrel
    by_cases hlt : k < xs.length
    · obtain ⟨hj, hmod, hm'⟩ := HJ.out
      obtain ⟨b, o, rfl, hDb, hc1, hc2⟩ := (hr.keep (fun b hb => (hmod.block b (Nat.lt_of_lt_of_le (hD b hb) hW) (fun h => h.elim (fun h => hm0 _ h (.inr hb)) id)).trans (hD' b (.inl (.inr hb))))).ext hlt
      have hsz := hmod.size
      have HC : Hid (∀ o, CallV Try.prog (.func yf ya yc) #[aggE xs[k]] (wr.alloc o) (YPost J Jx k m' (wr.alloc o))) := fun o => by
        have := hY k (by simpa using hlt) m' (wr.alloc o) (HJ0.out _ _ _ _ Nil0 hj ((Mod.refl _ wr).alloc o) (fun _ hf => hf.elim) (fun _ hf => hf.elim)) (by simp; omega)
        simpa only [List.getElem_map] using this
      have hsa : ∀ o, (wr.alloc o).heap.size = wr.heap.size + 1 := fun o => by simp
      clear hJ hJx hR hD' hr hD hb hj h0 hY
      gi_wp2_with (refine wpListIn_callV (v := .func yf ya yc) (argl := [.agg #[.int .i64 xs[k].1, .int .i64 xs[k].2]]) rfl rfl rfl ((HC.out _).mono ?_); rintro e B ⟨m2, hmod2, hm2, (⟨rfl, hj2⟩ | ⟨rfl, hj2⟩)⟩ <;> simp only [afterCall])
      · refine ⟨⟨k + 1, m2, by omega, by go_num, hj2, mod_step (hmod.alloc _) hm' hmod2, sub_step hm' hm2 (by rw [hsa]; omega)⟩, by simp [intOf]; omega⟩
      · refine bodyPost_ret (results_none rfl _ _ _) rfl ?_
        exact ⟨⟨_, rfl⟩, m2, sub_step hm' hm2 (by rw [hsa]; omega), mod_step (hmod.alloc _) hm' hmod2, .inr ⟨k, by simpa using hlt, hj2, trivial⟩⟩
    · obtain rfl : k = xs.length := by omega
      obtain ⟨hj, hmod, hm'⟩ := HJ.out
      clear hY hJ hJx hR hD' hr hD hb h0
      gi_wp2
      go_end0
      exact ⟨⟨_, rfl⟩, m', hm', hmod, .inl ⟨by simpa using hj, trivial⟩⟩
end Go.Proofs.Ytobioeehfigmcaa
