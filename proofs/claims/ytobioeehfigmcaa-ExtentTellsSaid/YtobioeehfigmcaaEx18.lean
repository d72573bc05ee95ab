/- The law's closure as the consumer of the sectors. No condition but the bounds. -/
import Derived.Test.YtobioeehfigmcaaEx17
set_option linter.unusedSimpArgs false
set_option linter.unusedVariables false
set_option maxRecDepth 100000
namespace Go.Proofs.Ytobioeehfigmcaa
open Go Go.RowKit Go.Shelf

/-- Where the law's counters stand behind j sectors. -/
def St (xs : List (Int × Int)) (i k j : Nat) : Prop := i ≤ xs.length ∧ j = Ext.off xs i + k ∧ (∀ h : i < xs.length, k ≤ xs[i].2.toNat) ∧ (i = xs.length → k = 0) ∧ (j = 0 → i = 0 ∧ k = 0)
theorem St.start (xs : List (Int × Int)) : St xs 0 0 0 := ⟨Nat.zero_le _, rfl, fun _ => Nat.zero_le _, fun _ => rfl, fun _ => ⟨rfl, rfl⟩⟩
theorem St.case {xs : List (Int × Int)} {i k j : Nat} (ha : Ext.apart xs) (h : St xs i k j) (hj : j < (Ext.secs xs).length) :
    (∃ h : i < xs.length, (k : Int) < xs[i].2 ∧ (Ext.secs xs)[j] = xs[i].1 + (k : Int) ∧ St xs i (k + 1) (j + 1)) ∨
    (∃ h0 : i < xs.length, ∃ h : i + 1 < xs.length, (k : Int) = xs[i].2 ∧ (Ext.secs xs)[j] = xs[i + 1].1 ∧ St xs (i + 1) 1 (j + 1)) := by
  obtain ⟨h1, rfl, h3, h4, -⟩ := h
  rcases Nat.lt_or_ge i xs.length with hi | hi
  · have hk := h3 hi
    have hok := ha.1 xs[i] (List.getElem_mem hi)
    unfold Ext.okE at hok
    rcases Nat.lt_or_ge k xs[i].2.toNat with hlt | hge
    · obtain ⟨h5, h6⟩ := Ext.secs_get hi hlt
      exact .inl ⟨hi, by omega, h6, h1, by omega, fun _ => by omega, fun h => by omega, fun h => by omega⟩
    · have hoff := Ext.off_succ hi
      have hi1 : i + 1 < xs.length := by
        rcases Nat.lt_or_ge (i + 1) xs.length with h | h
        · exact h
        · have : i + 1 = xs.length := by omega
          have h7 := Ext.off_len xs
          rw [← this] at h7
          omega
      have hok1 := ha.1 xs[i + 1] (List.getElem_mem hi1)
      unfold Ext.okE at hok1
      obtain ⟨h5, h6⟩ := Ext.secs_get (k := 0) hi1 (by omega)
      have e : Ext.off xs i + k = Ext.off xs (i + 1) + 0 := by omega
      refine .inr ⟨hi, hi1, by omega, ?_, by omega, by omega, fun _ => by omega, fun h => by omega, fun h => by omega⟩
      have e2 : ∀ (a b : Nat) (ha : a < (Ext.secs xs).length) (hb : b < (Ext.secs xs).length), a = b → (Ext.secs xs)[a] = (Ext.secs xs)[b] := by intro a b ha hb e; subst e; rfl
      rw [e2 _ _ hj h5 e, h6]; simp
  · have : i = xs.length := by omega
    subst this
    have := h4 rfl
    have h7 := Ext.off_len xs
    omega

def ClJ (bi bk bg : Nat) (xs : List (Int × Int)) (W : World) (j : Nat) (m : Nat → Prop) (A : World) : Prop :=
  m = ClM bi bk bg ∧ Mod (ClM bi bk bg) W A ∧ ∃ i k : Nat, ClBox bi bk bg i k A ∧ St xs i k j
theorem ClJ.stab (bi bk bg : Nat) (xs : List (Int × Int)) (W : World) : Stab W.heap.size Nil0 (ClJ bi bk bg xs W) := by
  rintro j m A B S ⟨rfl, hm, i, k, ⟨b1, b2, b3⟩, hs⟩ hAB hS hS2
  exact ⟨rfl, hm.trans' hAB (fun b hb h => (hS2 b h hb).elim), i, k, ⟨hAB.heap b1 (fun h => hS _ h (.inl rfl)), hAB.heap b2 (fun h => hS _ h (.inr (.inl rfl))), hAB.heap b3 (fun h => hS _ h (.inr (.inr rfl)))⟩, hs⟩
theorem ClJ.rng {bi bk bg : Nat} {xs : List (Int × Int)} {W : World} {D : Nat → Prop} (hD : ∀ b, ClM bi bk bg b → ¬ D b) : Rng D Nil0 (ClJ bi bk bg xs W) := by
  rintro j m A ⟨rfl, hm, i, k, ⟨b1, b2, b3⟩, hs⟩ b hb
  refine ⟨?_, hD b hb, fun h => h⟩
  rcases hb with rfl | rfl | rfl
  · exact (Array.getElem?_eq_some_iff.1 b1).1
  · exact (Array.getElem?_eq_some_iff.1 b2).1
  · exact (Array.getElem?_eq_some_iff.1 b3).1

theorem ask15_run (f : Nat) (cap : Array Value) (D' : Nat → Prop) (bi bl bk bg : Nat) (A : Option Addr) (c : Nat) (D : Nat → Prop) (xs : List (Int × Int)) (W : World)
    (hseq : SeqSpec Try.prog (.func (.func f) #[] cap) D' Nil0 (fun _ _ => True) ((Ext.secsA xs).map fun n => #[.int .i64 n]) W)
    (hB : ClBox bi bk bg 0 0 W) (hl : W.cell? ⟨bl, 0, none⟩ = some (.slice A xs.length c)) (hr : RowK 2 encE D W A xs) (hD : ∀ b, D b → b < W.heap.size)
    (h12 : bi ≠ bk) (h13 : bi ≠ bg) (h23 : bk ≠ bg) (hlm : ¬ ClM bi bk bg bl) (hDm : ∀ b, D b → ¬ ClM bi bk bg b) (hD' : ∀ b, ClM bi bk bg b → ¬ D' b) (h40 : xs.length ≤ 40) :
    CallV Try.prog (.func (.func f) #[] cap) #[.func (.func 37) #[] #[.pointer (some ⟨bi, 0, none⟩), .pointer (some ⟨bl, 0, none⟩), .pointer (some ⟨bk, 0, none⟩), .pointer (some ⟨bg, 0, none⟩)]] W
      fun e B => (∃ r, e = .returned r) ∧ Mod (ClM bi bk bg) W B ∧ ∃ i k : Nat, ClBox bi bk bg i k B ∧ (¬ Ext.apart xs → i = 0 ∧ k = 0) := by
  refine (hseq.2.2 _ _ _ (ClJ bi bk bg xs W) (ClJ bi bk bg xs W) (ClM bi bk bg) W (Nat.le_refl _) (fun _ _ => rfl) (ClJ.stab _ _ _ _ _) (ClJ.stab _ _ _ _ _) (ClJ.rng hD') ?_ ⟨rfl, Mod.refl _ _, 0, 0, hB, St.start xs⟩).mono ?_
  · rintro j hj m B ⟨rfl, hm, i, k, hbx, hst⟩ hWB
    refine .fn _ _ _ _ _ (enters_of Try.func37 (by kernel_rfl) rfl) ?_
    have hap : Ext.apart xs := by
      rcases Decidable.em (Ext.apart xs) with h | h
      · exact h
      · simp [Ext.secsA, h] at hj
    have hs : Ext.secsA xs = Ext.secs xs := by simp [Ext.secsA, hap]
    have hj' : j < (Ext.secs xs).length := by rw [List.length_map, hs] at hj; exact hj
    have hel : ((Ext.secsA xs).map fun n => (#[.int .i64 n] : Array Value))[j] = #[.int .i64 (Ext.secs xs)[j]] := by
      simp only [List.getElem_map, hs]
    rw [hel]
    have hl' := hm.cell hl hlm
    have hr' := hr.keep (fun b hb => hm.block b (hD b hb) (hDm b hb))
    rcases hst.case hap hj' with ⟨hi, hk, hv, hst'⟩ | ⟨hi0, hi, hk, hv, hst'⟩
    · have hok := hap.1 xs[i] (List.getElem_mem hi)
      unfold Ext.okE at hok
      refine (ask15_a bi bl bk bg i k _ A c D xs B hbx hl' hr' h12 h13 h23 h40 hi hk (by omega) (by omega) (by omega) hv).mono ?_
      rintro e C ⟨⟨b, rfl⟩, hmC, hC⟩
      refine ⟨ClM bi bk bg, hmC, fun b hb => .inl hb, ?_⟩
      have hJ : ClJ bi bk bg xs W (j + 1) (ClM bi bk bg) C := ⟨rfl, hm.trans hmC, i, k + 1, by simpa using hC, hst'⟩
      cases b
      · exact .inr ⟨rfl, hJ⟩
      · exact .inl ⟨rfl, hJ⟩
    · have hok := hap.1 xs[i + 1] (List.getElem_mem hi)
      unfold Ext.okE at hok
      refine (ask15_b bi bl bk bg i k _ A c D xs B hbx hl' hr' h12 h13 h23 hlm hDm h40 hi0 hk hi (by omega) (by omega) (by omega) (by omega) hv).mono ?_
      rintro e C ⟨⟨b, rfl⟩, hmC, hC⟩
      refine ⟨ClM bi bk bg, hmC, fun b hb => .inl hb, ?_⟩
      have hJ : ClJ bi bk bg xs W (j + 1) (ClM bi bk bg) C := ⟨rfl, hm.trans hmC, i + 1, 1, by simpa using hC, hst'⟩
      cases b
      · exact .inr ⟨rfl, hJ⟩
      · exact .inl ⟨rfl, hJ⟩
  · rintro e B ⟨hv, m', hm', hmod, hend⟩
    refine ⟨hv, hmod.mono (fun b _ h => h.elim id (fun h => h.elim)), ?_⟩
    rcases hend with ⟨⟨-, -, i, k, hb, hst⟩, -⟩ | ⟨q, hq, ⟨-, -, i, k, hb, hst⟩, -⟩
    · refine ⟨i, k, hb, fun hn => ?_⟩
      have hz : ((Ext.secsA xs).map fun n => (#[.int .i64 n] : Array Value)).length = 0 := by simp [Ext.secsA, hn]
      rw [hz] at hst
      exact hst.2.2.2.2 rfl
    · refine ⟨i, k, hb, fun hn => ?_⟩
      simp [Ext.secsA, hn] at hq
end Go.Proofs.Ytobioeehfigmcaa
