/- The law's own counting sequence: each element that is asked for is counted. No condition but the bounds. -/
import Derived.Test.YtobioeehfigmcaaMk
set_option linter.unusedSimpArgs false
set_option linter.unusedVariables false
set_option maxRecDepth 100000
namespace Go.Proofs.Ytobioeehfigmcaa
open Go Go.RowKit Go.Shelf
attribute [local go_sem] Oper.semAt_some eqNil_seq_int eqNil_is_int

/-- The count behind so many. -/
def CIt (bc N : Nat) : Option Nat → World → Prop
  | none, A => A.heap[bc]? = some (.cells #[.int .i64 N] 3 (0, 0))
  | some k, A => A.heap[bc]? = some (.cells #[.int .i64 k] 3 (0, 0))

set_option maxHeartbeats 1000000 in
theorem asked1 (b1 b2 bc c : Nat) (A : Option Addr) (D : Nat → Prop) (xs : List Int) (w : World)
    (hb1 : w.cell? ⟨b1, 0, none⟩ = some (.slice A xs.length c)) (hb2 : w.cell? ⟨b2, 0, none⟩ = some (.pointer (some ⟨bc, 0, none⟩))) (hbc : w.heap[bc]? = some (.cells #[.int .i64 (0 : Nat)] 3 (0, 0)))
    (hr : Row1 (Value.int .i64) D w A xs) (hD : ∀ b, D b → b < w.heap.size) (hD2 : ¬ D bc) (h1 : b1 ≠ bc) (h2 : b2 ≠ bc) :
    SeqSpec Try.prog (.func (.func 60) #[] #[.pointer (some ⟨b1, 0, none⟩), .pointer (some ⟨b2, 0, none⟩)]) (fun b => b = b1 ∨ b = b2 ∨ D b) (· = bc) (CIt bc xs.length) (xs.map fun x => #[.int .i64 x]) w := by
  refine ⟨?_, ?_, ?_⟩
  · rintro b ((rfl | rfl | h) | rfl)
    · exact World.block_lt_of_cell? w _ hb1
    · exact World.block_lt_of_cell? w _ hb2
    · exact hD b h
    · exact (Array.getElem?_eq_some_iff.1 hbc).1
  · rintro (_ | k) A B h hS <;> exact (hS bc rfl).trans h
  intro yf ya yc J Jx m W hW hD' hJ hJx hR hY h0
  refine .fn _ _ _ _ _ (enters_of Try.func60 (by kernel_rfl) rfl) (calls_of_FW (ro := none) (n := 0) ?_)
  refine callsIn_of_wp Try.func60 rfl trivial ?_
  simp only [Try.ntmps60, List.size_toArray, List.length_cons, List.length_nil, Nat.reduceAdd, Nat.reduceSub, Array.replicate_succ, Array.replicate_zero, List.push_toArray, List.append_toArray, List.nil_append, List.cons_append]
  have hb1W : W.cell? ⟨b1, 0, none⟩ = some (.slice A xs.length c) := (World.cell?_of_block (hD' b1 (.inl (.inl rfl)))).trans hb1
  have hb2W : W.cell? ⟨b2, 0, none⟩ = some (.pointer (some ⟨bc, 0, none⟩)) := (World.cell?_of_block (hD' b2 (.inl (.inr (.inl rfl))))).trans hb2
  have hbcW : W.heap[bc]? = some (.cells #[.int .i64 (0 : Nat)] 3 (0, 0)) := (hD' bc (.inr rfl)).trans hbc
  have hbclt := (Array.getElem?_eq_some_iff.1 hbcW).1
  have hm0 : ∀ b, m b → ¬ (b = b1 ∨ b = b2 ∨ D b) ∧ ¬ b = bc := fun b hb => ⟨fun hd => (hR 0 m W h0 b hb).2.1 hd, (hR 0 m W h0 b hb).2.2⟩
  have H0 : Hid (J 0 m W) := h0
  have hlen := hr.1
  gi_wp2
  gi_loopw [8] (fun i wr => ∃ (k : Nat) (m' : Nat → Prop), k ≤ xs.length ∧ i = .int .i64 k ∧ Hid (J k m' wr ∧ Mod (fun b => m b ∨ b = bc) W wr ∧ (∀ b, m' b → m b ∨ W.heap.size ≤ b) ∧ wr.heap[bc]? = some (.cells #[.int .i64 k] 3 (0, 0)))) (fun i _ => xs.length - (intOf i).toNat)
  case atStart => exact ⟨0, m, Nat.zero_le _, rfl, H0, Mod.refl _ _, fun b hb => .inl hb, hbcW⟩
  case round =>
    obtain ⟨k, m', hk, rfl, HJ⟩ := hrel
    by_cases hlt : k < xs.length
    · obtain ⟨hj, hmod, hm', hcn⟩ := HJ.out
      obtain ⟨b, o, rfl, hDb, hcell⟩ := hr.2 (by omega)
      have hc : wr.cell? ⟨b, o + k, none⟩ = some (.int .i64 xs[k]) := by
        have h1 := hcell k xs[k] (by simp [hlt])
        have h2 : W.cell? ⟨b, o + k, none⟩ = some (.int .i64 xs[k]) := (World.cell?_of_block (a := ⟨b, o + k, none⟩) (hD' b (.inl (.inr (.inr hDb))))).trans h1
        exact hmod.cell h2 (fun h => h.elim (fun h => (hm0 _ h).1 (.inr (.inr hDb))) (fun e => hD2 (e ▸ hDb)))
      have hc2 : wr.cell? ⟨b2, 0, none⟩ = some (.pointer (some ⟨bc, 0, none⟩)) := hmod.cell hb2W (fun h => h.elim (fun h => (hm0 _ h).1 (.inr (.inl rfl))) h2)
      have hcc := cell_of_one' hcn
      have hcf := free_of_one' hcn
      have hsz := hmod.size
      have hnm : ¬ m' bc := fun h => (hR _ _ _ hj bc h).2.2 rfl
      have hMc : Mod (· = bc) wr (wr.setCell ⟨bc, 0, none⟩ (.int .i64 ((k + 1 : Nat) : Int))) := (Mod.refl _ _).setCell ⟨bc, 0, none⟩ _ (fun _ => rfl)
      have hj1 : J k m' (wr.setCell ⟨bc, 0, none⟩ (.int .i64 ((k + 1 : Nat) : Int))) := hJ _ _ _ _ _ hj hMc (fun b hb h => hnm (hb ▸ h)) (fun b hb _ => hb)
      have hcn1 : (wr.setCell ⟨bc, 0, none⟩ (.int .i64 ((k + 1 : Nat) : Int))).heap[bc]? = some (.cells #[.int .i64 ((k + 1 : Nat) : Int)] 3 (0, 0)) := Boxed.set (B := bc) _ hcn
      have hcall := hY k (by simpa using hlt) m' _ hj1 (Nat.le_trans hsz hMc.size)
      simp only [List.getElem_map] at hcall
      have HC : Hid (CallV Try.prog (.func yf ya yc) #[.int .i64 xs[k]] (wr.setCell ⟨bc, 0, none⟩ (.int .i64 ((k + 1 : Nat) : Int))) (YPost J Jx k m' (wr.setCell ⟨bc, 0, none⟩ (.int .i64 ((k + 1 : Nat) : Int))))) := hcall
      have HM : Hid (Mod (fun b => m b ∨ b = bc) W (wr.setCell ⟨bc, 0, none⟩ (.int .i64 ((k + 1 : Nat) : Int))) ∧ (∀ b, m' b → m b ∨ W.heap.size ≤ b) ∧ ¬ m' bc ∧ W.heap.size ≤ (wr.setCell ⟨bc, 0, none⟩ (.int .i64 ((k + 1 : Nat) : Int))).heap.size ∧ (wr.setCell ⟨bc, 0, none⟩ (.int .i64 ((k + 1 : Nat) : Int))).heap[bc]? = some (.cells #[.int .i64 ((k + 1 : Nat) : Int)] 3 (0, 0))) :=
        ⟨hmod.trans' hMc (fun b _ h => .inr h), hm', hnm, Nat.le_trans hsz hMc.size, hcn1⟩
      have hadd : Hid ((k : Int) + 1 = ((k + 1 : Nat) : Int)) := by show _ = _; omega
      clear hY hJ hJx hR hD' hcell hr hD hj h0 hj1 hcall hcn hcn1 HJ H0 hbc hbcW hb1 hb2 hb1W hb2W hm' hmod
      gi_wp2_with (refine wpListIn_callV (v := .func yf ya yc) (argl := [.int .i64 xs[k]]) rfl rfl rfl ?_; (first | (rw [hadd.out]; refine HC.out.mono ?_) | refine HC.out.mono ?_); rintro e B ⟨m2, hmod2, hm2, (⟨rfl, hj2⟩ | ⟨rfl, hj2⟩)⟩ <;> simp only [afterCall])
      · obtain ⟨hM, hm', hnm, hsz, hcn1⟩ := HM.out
        refine ⟨⟨k + 1, m2, by omega, by go_num, hj2, mod_step hM hm' hmod2, sub_step hm' hm2 hsz, hmod2.heap hcn1 hnm⟩, by simp [intOf]; omega⟩
      · obtain ⟨hM, hm', hnm, hsz, hcn1⟩ := HM.out
        refine bodyPost_ret (results_none rfl _ _ _) rfl ?_
        exact ⟨⟨_, rfl⟩, m2, sub_step hm' hm2 hsz, mod_step hM hm' hmod2, .inr ⟨k, by simpa using hlt, hj2, hmod2.heap hcn1 hnm⟩⟩
    · obtain rfl : k = xs.length := by omega
      obtain ⟨hj, hmod, hm', hcn⟩ := HJ.out
      clear hY hJ hJx hR hD' hr hD h0
      gi_wp2
      go_end0
      exact ⟨⟨_, rfl⟩, m', hm', hmod, .inl ⟨by simpa using hj, hcn⟩⟩

theorem mkAsked (A : Option Addr) (n c bc : Nat) (w : World) : Calls Try.prog 11 #[.slice A n c, .pointer (some ⟨bc, 0, none⟩)] w fun e B =>
    e = .returned (.func (.func 60) #[] #[.pointer (some ⟨w.heap.size, 0, none⟩), .pointer (some ⟨w.heap.size + 1, 0, none⟩)]) ∧ B = (w.alloc (.cells #[.slice A n c] 22)).alloc (.cells #[.pointer (some ⟨bc, 0, none⟩)] 31) := by
  go_enter Try.func11, Try.ntmps11
  go_wp2
  go_ret
  exact ⟨rfl, rfl⟩
theorem askedS (A : Option Addr) (c bc : Nat) (D : Nat → Prop) (xs : List Int) (w : World) (hbc : w.heap[bc]? = some (.cells #[.int .i64 (0 : Nat)] 3 (0, 0)))
    (hr : Row1 (Value.int .i64) D w A xs) (hD : ∀ b, D b → b < w.heap.size) (hD2 : ¬ D bc) :
    Calls Try.prog 11 #[.slice A xs.length c, .pointer (some ⟨bc, 0, none⟩)] w fun e B => SeqOut Try.prog D (· = bc) (CIt bc xs.length) (xs.map fun x => #[.int .i64 x]) w e B ∧ CIt bc xs.length (some 0) B := by
  refine (mkAsked A _ c bc w).mono ?_
  rintro e B ⟨rfl, rfl⟩
  obtain ⟨hc1, hc2⟩ := two_cells w (.slice A xs.length c) (.pointer (some ⟨bc, 0, none⟩)) 22 31
  have hm := two_mod w (.cells #[.slice A xs.length c] 22) (.cells #[.pointer (some ⟨bc, 0, none⟩)] 31)
  have hz := two_size w (.cells #[.slice A xs.length c] 22) (.cells #[.pointer (some ⟨bc, 0, none⟩)] 31)
  have hbl := (Array.getElem?_eq_some_iff.1 hbc).1
  refine ⟨⟨_, _, rfl, hm, (asked1 _ _ bc c A D xs _ hc1 hc2 (hm.heap hbc (fun hf => hf)) (hr.keep (fun b hb => hm.block b (hD b hb) (fun hf => hf))) (fun b hb => by have := hD b hb; omega) hD2 (by omega) (by omega)).monoD ?_ ?_⟩, hm.heap hbc (fun hf => hf)⟩
  · rintro b (rfl | rfl | h)
    · exact .inr (by omega)
    · exact .inr (by omega)
    · exact .inl h
  · rintro b (h | h)
    · have := hD b h; omega
    · exact h.2
end Go.Proofs.Ytobioeehfigmcaa
