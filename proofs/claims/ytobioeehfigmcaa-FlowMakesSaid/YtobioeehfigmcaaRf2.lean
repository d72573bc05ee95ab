/- The reference's runs. No condition but the slice's bound. -/
import Derived.Test.YtobioeehfigmcaaJn2
import Derived.Deep.QuietTactic
import Derived.BigQuiet
set_option linter.unusedSimpArgs false
set_option linter.unusedVariables false
set_option maxRecDepth 100000
namespace Go.Proofs.Ytobioeehfigmcaa
open Go Go.RowKit Go.Shelf

theorem own_last {w : World} {base : Nat} {e : TypeId} {v : Value} {n : Nat} {xs : List Value} {x : Value} (h : w.ownsRow base e 1 v (n + 1) (xs ++ [x])) :
    ∃ g cap, v = .slice (some ⟨g, 0, none⟩) (n + 1) cap ∧ n < cap ∧ w.cell? ⟨g, n, none⟩ = some x ∧ (∀ w1 : World, w1.heap[g]? = w.heap[g]? → w1.frozen? ⟨g, n, none⟩ = false ∧ w1.cell? ⟨g, n, none⟩ = some x ∧
      ∀ y, (w1.setCell ⟨g, n, none⟩ y).ownsRow base e 1 v (n + 1) (xs ++ [y])) := by
  obtain ⟨hl, h | ⟨g, cap, cur, rfl, hb, hg, h1, h2, h3, h4⟩⟩ := h
  · omega
  simp only [Nat.mul_one, List.length_append, List.length_singleton] at hl h3 h4
  have hn : xs.length = n := by omega
  have hnc : n < cur.size := by omega
  have hx : cur[n]? = some x := by
    have := congrArg (fun l => l[n]?) h4
    simp only [List.getElem?_take, show n < n + 1 by omega, if_true, Array.getElem?_toList] at this
    rw [this, List.getElem?_append_right (by omega), hn]; simp
  refine ⟨g, cap, rfl, by omega, by simp [World.cell?, hg, hx], fun w1 hw1 => ⟨by simp [World.frozen?, hw1, hg], by simp [World.cell?, hw1, hg, hx], fun y => ⟨by simp; omega, .inr ⟨g, cap, cur.setIfInBounds n y, rfl, hb, ?_, h1, h2, by simp; omega, ?_⟩⟩⟩⟩
  · have hw : w1.heap[g]? = some (.cells cur e (0, 0)) := hw1.trans hg
    obtain ⟨hlt, hk⟩ := Array.getElem?_eq_some_iff.1 hw
    show (w1.heap.modify g _)[g]? = _
    rw [Array.getElem?_eq_getElem (by rw [Array.size_modify]; exact hlt), Array.getElem_modify_self, hk]
    rfl
  · simp only [Nat.mul_one, Array.toList_setIfInBounds]
    have e1 : cur.toList.take n = xs := by
      have := congrArg (List.take n) h4
      rw [List.take_take, Nat.min_eq_left (by omega), show (xs ++ [x]).take n = xs by rw [← hn]; simp] at this
      exact this
    rw [List.take_succ_eq_append_getElem (by simpa using hnc), List.take_set_of_le (by omega), e1]
    simp

/-- The lists so far: all but the last are whole; the last is the call's own. -/
def RM (w : World) (s : List (List Int) × List Int) (hsI : List Value) (gs : Nat → Prop) (v v' : Value) (A : World) : Prop :=
  InnerOk gs A hsI s.1 ∧ (∀ b, gs b → w.heap.size ≤ b ∧ b < A.heap.size ∧ v.ownBlock ≠ some b ∧ v'.ownBlock ≠ some b) ∧ A.ownsRow w.heap.size 22 1 v (hsI.length + 1) (hsI ++ [v']) ∧
    A.ownsRow w.heap.size 3 1 v' s.2.length (s.2.map (Value.int .i64)) ∧ (∀ b, v'.ownBlock = some b → v.ownBlock ≠ some b) ∧ Mod Nil0 w A
def RR0 (w : World) (s : List (List Int) × List Int) (hsI : List Value) (gs : Nat → Prop) (v : Value) (A : World) : Prop :=
  InnerOk gs A hsI s.1 ∧ (∀ b, gs b → w.heap.size ≤ b ∧ b < A.heap.size ∧ v.ownBlock ≠ some b) ∧ A.ownsRow w.heap.size 22 1 v hsI.length hsI ∧ Mod Nil0 w A
def RR (w : World) (s : List (List Int) × List Int) (v : Value) (A : World) : Prop :=
  (s.2 = [] ∧ ∃ hsI gs, RR0 w s hsI gs v A) ∨ (s.2 ≠ [] ∧ ∃ hsI gs v', RM w s hsI gs v v' A)

/-- A nil list is put behind them. -/
theorem RR0.mid {w A A2 : World} {s : List (List Int) × List Int} {hsI : List Value} {gs : Nat → Prop} {v v1 : Value} (h : RR0 w s hsI gs v A) (hs : s.2 = []) (ho : A2.ownsRow w.heap.size 22 1 v1 (hsI.length + 1) (hsI ++ [.slice none 0 0]))
    (hg : Mod (fun b => v.ownBlock = some b) A A2) (hv : ∀ b, v1.ownBlock = some b → v.ownBlock = some b ∨ A.heap.size ≤ b) : RM w s hsI gs v1 (.slice none 0 0) A2 := by
  obtain ⟨h1, h2, h3, h4⟩ := h
  refine ⟨h1.keep (fun b hb => hg.block b (h2 b hb).2.1 (h2 b hb).2.2), fun b hb => ⟨(h2 b hb).1, Nat.lt_of_lt_of_le (h2 b hb).2.1 hg.size, fun h => ?_, by simp [Value.ownBlock]⟩, ho, by rw [hs]; exact World.ownsRow_nil _ _ _ _, by simp [Value.ownBlock], h4.trans' hg (fun b hb h => by have := (own_lt h3 h).1; omega)⟩
  rcases hv b h with h | h
  · exact (h2 b hb).2.2 h
  · have := (h2 b hb).2.1; omega
/-- The last is longer by one; it is put back. -/
theorem RM.next {w A A2 : World} {n : Nat} {s : List (List Int) × List Int} {x : Int} {hsI : List Value} {gs : Nat → Prop} {v v' v1 : Value} {g cap : Nat} (h : RM w s hsI gs v v' A) (e : v = .slice (some ⟨g, 0, none⟩) (hsI.length + 1) cap)
    (hset : ∀ w1 : World, w1.heap[g]? = A.heap[g]? → ∀ y, (w1.setCell ⟨g, hsI.length, none⟩ y).ownsRow w.heap.size 22 1 v (hsI.length + 1) (hsI ++ [y]))
    (ho : A2.ownsRow w.heap.size 3 1 v1 (s.2.length + 1) (s.2.map (Value.int .i64) ++ [.int .i64 x])) (hg : Mod (fun b => v'.ownBlock = some b) A A2) (hv : ∀ b, v1.ownBlock = some b → v'.ownBlock = some b ∨ A.heap.size ≤ b) (hl : s.2.length < 140737488351232) :
    RR w (rstep n s x) v (A2.setCell ⟨g, hsI.length, none⟩ v1) := by
  obtain ⟨h1, h2, h3, h4, h5, h6⟩ := h
  have hvg : v.ownBlock = some g := by rw [e]; rfl
  have hne : ∀ b, b ≠ g → (A2.setCell ⟨g, hsI.length, none⟩ v1).heap[b]? = A2.heap[b]? := fun b hb => Below.heap_setCell _ _ _ _ hb
  have hgg : A2.heap[g]? = A.heap[g]? := hg.block g (own_lt h3 hvg).2 (fun h => h5 g h hvg)
  have hrow := hset A2 hgg v1
  have hsz : (A2.setCell ⟨g, hsI.length, none⟩ v1).heap.size = A2.heap.size := by simp [World.setCell]
  have hgs : ∀ b, gs b → b ≠ g := fun b hb e => (h2 b hb).2.2.1 (by rw [hvg, e])
  have hin : InnerOk gs (A2.setCell ⟨g, hsI.length, none⟩ v1) hsI s.1 := h1.keep (fun b hb => (hne b (hgs b hb)).trans (hg.block b (h2 b hb).2.1 (h2 b hb).2.2.2))
  have hv1g : ∀ b, v1.ownBlock = some b → b ≠ g := fun b hb e => by
    subst e
    rcases hv b hb with h | h
    · exact h5 b h hvg
    · have := (own_lt h3 hvg).2; omega
  have hown : (A2.setCell ⟨g, hsI.length, none⟩ v1).ownsRow w.heap.size 3 1 v1 (s.2 ++ [x]).length ((s.2 ++ [x]).map (Value.int .i64)) := own_move (by simpa using ho) (fun b hb => hne b (hv1g b hb))
  have hM : Mod Nil0 w (A2.setCell ⟨g, hsI.length, none⟩ v1) := (h6.trans' hg (fun b hb h => by have := (own_lt h4 h).1; omega)).setCell _ _ (fun h => by have := (own_lt h3 hvg).1; simp only at h; omega)
  have hgs2 : ∀ b, gs b → w.heap.size ≤ b ∧ b < (A2.setCell ⟨g, hsI.length, none⟩ v1).heap.size ∧ v.ownBlock ≠ some b := fun b hb => ⟨(h2 b hb).1, by have := (h2 b hb).2.1; have := hg.size; omega, (h2 b hb).2.2.1⟩
  unfold rstep
  split
  · refine .inl ⟨rfl, hsI ++ [v1], fun b => gs b ∨ v1.ownBlock = some b, ?_, ?_, by simpa using hrow, hM⟩
    · obtain ⟨A', c', rfl⟩ : ∃ A c, v1 = .slice A (s.2 ++ [x]).length c := own_shape hown
      exact InnerOk.snoc (hin.mono (fun b hb => .inl hb)) ((run_row hown (by simp; omega)).mono (fun b hb => .inr hb))
    · rintro b (hb | hb)
      · exact hgs2 b hb
      · exact ⟨(own_lt hown hb).1, (own_lt hown hb).2, fun h => hv1g b hb (by rw [hvg] at h; cases h; rfl)⟩
  · refine .inr ⟨by simp, hsI, gs, v1, hin, fun b hb => ⟨(hgs2 b hb).1, (hgs2 b hb).2.1, (hgs2 b hb).2.2, fun h => ?_⟩, hrow, hown, fun b hb h => hv1g b hb (by rw [hvg] at h; cases h; rfl), hM⟩
    rcases hv b h with h | h
    · exact (h2 b hb).2.2.2 h
    · have := (h2 b hb).2.1; omega
/-- All lists. -/
theorem RR.rows {w A : World} {s : List (List Int) × List Int} {v : Value} (h : RR w s v A) (hl : s.2.length ≤ 140737488351232) (hl1 : (rout s).length ≤ 140737488351232) :
    ∃ A' c, v = .slice A' (rout s).length c ∧ Mod Nil0 w A ∧ Row2 (fun b => w.heap.size ≤ b ∧ b < A.heap.size) A A' (rout s) := by
  rcases h with ⟨hs, hsI, gs, h1, h2, h3, h4⟩ | ⟨hs, hsI, gs, v', h1, h2, h3, h4, h5, h6⟩
  · have e : rout s = s.1 := by rw [rout, if_pos hs, List.append_nil]
    rw [e] at hl1 ⊢
    have hle := h1.1
    obtain ⟨A', c', rfl, hr⟩ := Row1.of_own (enc := fun v : Value => v) (xs := hsI) (by simpa using h3) (by omega)
    exact ⟨A', c', by rw [hle], h4, hsI, hle, hr.mono (fun b hb => ⟨hb.1, hb.2.1⟩), h1.mono (fun b hb => ⟨(h2 b hb).1, (h2 b hb).2.1⟩)⟩
  · have e : rout s = s.1 ++ [s.2] := by rw [rout, if_neg hs]
    rw [e] at hl1 ⊢
    have hle := h1.1
    obtain ⟨Ar, cr, rfl⟩ : ∃ A c, v' = .slice A s.2.length c := own_shape h4
    obtain ⟨A', c', rfl, hr⟩ := Row1.of_own (enc := fun v : Value => v) (xs := hsI ++ [.slice Ar s.2.length cr]) (by simpa using h3) (by simp at hl1 ⊢; omega)
    refine ⟨A', c', by simp [hle], h6, hsI ++ [.slice Ar s.2.length cr], by simp [hle], hr.mono (fun b hb => ⟨hb.1, hb.2.1⟩), ?_⟩
    exact InnerOk.snoc (h1.mono (fun b hb => ⟨(h2 b hb).1, (h2 b hb).2.1⟩)) ((run_row h4 hl).mono (fun b hb => own_lt h4 hb))

set_option maxHeartbeats 1000000 in
theorem refRuns (A : Option Addr) (c : Nat) (D : Nat → Prop) (xs : List Int) (n : Int) (w : World) (hx : Row1 (Value.int .i64) D w A xs) (hbig : xs.length * 24 ≤ 140737488355328) (hn2 : n ≤ 9223372036854775807) :
    Calls Try.prog 20 #[.slice A xs.length c, .int .i64 n] w (RSlice2 (runsOf n xs) Nil0 w fun _ => True) := by
  have bx := hx.1
  refine calls_of_FW (ro := none) (n := 0) ?_
  refine callsIn_of_wp Try.func20 rfl trivial ?_
  simp only [Try.ntmps20, List.size_toArray, List.length_cons, List.length_nil, Nat.reduceAdd, Nat.reduceSub, Array.replicate_succ, Array.replicate_zero, List.push_toArray, List.append_toArray, List.nil_append, List.cons_append]
  have HX : Hid (Row1 (Value.int .i64) D w A xs) := hx
  clear hx
  by_cases hn0 : n < 1
  · have HR : Hid (runsOf n xs = []) := by show _ = _; rw [runsOf, if_pos hn0]
    gi_wp2
    gi_loopw [5, 10] (fun v i wr => v = .slice none 0 0 ∧ i = .int .i64 (0 : Nat) ∧ wr = w) (fun _ i _ => 0)
    case atStart => exact ⟨rfl, rfl, rfl⟩
    case round =>
      obtain ⟨rfl, rfl, rfl⟩ := hrel
      by_cases hlt : 0 < xs.length
      · obtain ⟨b, o, rfl, hDb, hcx⟩ := HX.out.cell hlt
        rw [Nat.add_zero] at hcx
        gi_wp2
        go_ret
        refine ⟨none, 0, ?_, Mod.refl _ _, ?_, trivial⟩ <;> rw [HR.out]
        · rfl
        · exact ⟨[], rfl, Row1.nil _ _ _ _, InnerOk.nil _ _⟩
      · have h0 : xs.length = 0 := by omega
        gi_wp2
        go_ret
        refine ⟨none, 0, ?_, Mod.refl _ _, ?_, trivial⟩ <;> rw [HR.out]
        · rfl
        · exact ⟨[], rfl, Row1.nil _ _ _ _, InnerOk.nil _ _⟩
  · obtain ⟨N, rfl⟩ : ∃ N : Nat, n = N := ⟨n.toNat, by omega⟩
    have hN1 : 1 ≤ N := by omega
    have hxss : runsOf (N : Int) xs = rout (rstate N xs) := by rw [runsOf, if_neg hn0, Int.toNat_natCast]
    rw [hxss]
    clear hxss
    gi_wp2
    gi_loopw [5, 10] (fun v i wr => ∃ k : Nat, k ≤ xs.length ∧ i = .int .i64 k ∧ Hid (RR w (rstate N (xs.take k)) v wr)) (fun _ i _ => xs.length - (intOf i).toNat)
    case atStart => exact ⟨0, Nat.zero_le _, rfl, .inl ⟨rfl, [], fun _ => False, InnerOk.nil _ _, fun b h => h.elim, World.ownsRow_nil _ _ _ _, Mod.refl _ _⟩⟩
    case round =>
      obtain ⟨k, hk, rfl, HK⟩ := hrel
      by_cases hlt : k < xs.length
      · obtain ⟨b, o, rfl, hDb, hcx⟩ := HX.out.cell hlt
        have hmod : Mod Nil0 w wr := by
          rcases HK.out with ⟨_, _, _, _, _, _, h⟩ | ⟨_, _, _, _, _, _, _, _, _, h⟩ <;> exact h
        have hc := hmod.cell hcx (fun hf => hf)
        have hs := hmod.size
        have hcnt := rstate_cnt hN1 (xs.take k)
        have hmd := rstate_mod hN1 (xs.take k)
        rw [List.length_take, Nat.min_eq_left hk] at hcnt hmd
        have HST : Hid (rstate N (xs.take (k + 1)) = rstep N (rstate N (xs.take k)) xs[k]) := rstate_step hlt
        clear hcx
        by_cases hz : (rstate N (xs.take k)).2 = []
        · have hmod0 : ((k : Int) % (N : Int) == 0) = true := by
            have : k % N = 0 := by rw [← hmd, hz]; rfl
            rw [← Int.natCast_emod, this]; rfl
          obtain ⟨hsI, gs, h0⟩ : ∃ hsI gs, RR0 w (rstate N (xs.take k)) hsI gs u5 wr := HK.out.elim (fun h => h.2) (fun h => absurd hz h.1)
          have hle : hsI.length ≤ k := by rw [h0.1.1]; omega
          have H0 : Hid (RR0 w (rstate N (xs.take k)) hsI gs u5 wr ∧ (rstate N (xs.take k)).2 = []) := ⟨h0, hz⟩
          have HO : Hid (wr.ownsRow w.heap.size 22 1 u5 hsI.length hsI) := h0.2.2.1
          clear HK h0 hz hmd
          gi_wp2_with (first
            | (gi_at_builtin; refine app1 w.heap.size rfl _ _ 39 22 (.slice none 0 0) 1 24 rfl Try.underlying39 info_slint rfl (by decide) (by decide) u5 hsI.length hsI [.slice none 0 0] rfl rfl rfl (by simp [Value.oneCell']) HO.out (by omega) (by omega) ?_; rintro v1 w1 hown1 hg1 hv1 ⟨A1, c1, e1⟩; have hRM := H0.out.1.mid H0.out.2 hown1 hg1 hv1; obtain ⟨g, cap, e, hcap, hcell, hset⟩ := own_last hRM.2.2.1; have hRMs := hRM.2.2.2.2.2.size; have HSET : Hid (∀ w2 : World, w2.heap[g]? = w1.heap[g]? → w2.frozen? ⟨g, hsI.length, none⟩ = false ∧ w2.cell? ⟨g, hsI.length, none⟩ = some (.slice none 0 0) ∧ ∀ y, (w2.setCell ⟨g, hsI.length, none⟩ y).ownsRow w.heap.size 22 1 v1 (hsI.length + 1) (hsI ++ [y])) := hset; have HRM : Hid (RM w (rstate N (xs.take k)) hsI gs v1 (.slice none 0 0) w1) := hRM; clear hRM hown1 hg1 hv1 e1 hset; subst e)
            | (gi_at_builtin; refine app1 w.heap.size rfl _ _ 22 3 (.int .i64 0) 1 8 rfl Try.underlying22 info_int rfl (by decide) (by decide) (.slice none 0 0) (rstate N (xs.take k)).2.length ((rstate N (xs.take k)).2.map (Value.int .i64)) [.int .i64 xs[k]] rfl rfl rfl (by simp [Value.oneCell']) HRM.out.2.2.2.1 (by omega) (by omega) ?_; rintro v2 w2 hown2 hg2 hv2 ⟨A2, c2, e2⟩; have hgg := hg2.block g (own_lt HRM.out.2.2.1 rfl).2 (fun h => HRM.out.2.2.2.2.1 g h rfl); obtain ⟨hfz, hcw, -⟩ := HSET.out w2 hgg; have HN : Hid (RR w (rstep N (rstate N (xs.take k)) xs[k]) (.slice (some ⟨g, 0, none⟩) (hsI.length + 1) cap) (w2.setCell ⟨g, hsI.length, none⟩ v2)) := HRM.out.next (n := N) rfl (fun w1 h1 y => (HSET.out w1 h1).2.2 y) hown2 hg2 hv2 (by omega); clear hown2 hg2 hv2 hgg))
          exact ⟨⟨k + 1, by omega, by go_num, by rw [HST.out]; subst e2; exact HN.out⟩, by simp [intOf]; omega⟩
        · have hmod0 : ((k : Int) % (N : Int) == 0) = false := by
            have h1 : ¬ k % N = 0 := by rw [← hmd]; exact fun h => hz (List.eq_nil_of_length_eq_zero h)
            rw [← Int.natCast_emod]
            simp only [beq_eq_false_iff_ne, ne_eq]
            omega
          obtain ⟨hsI, gs, v', hRM⟩ : ∃ hsI gs v', RM w (rstate N (xs.take k)) hsI gs u5 v' wr := HK.out.elim (fun h => absurd h.1 hz) (fun h => h.2)
          have hle : hsI.length ≤ k := by rw [hRM.1.1]; omega
          obtain ⟨g, cap, e, hcap, hcell, hset⟩ := own_last hRM.2.2.1
          obtain ⟨Av, cv, e3⟩ : ∃ A c, v' = .slice A (rstate N (xs.take k)).2.length c := own_shape hRM.2.2.2.1
          subst e e3
          have HSET : Hid (∀ w2 : World, w2.heap[g]? = wr.heap[g]? → w2.frozen? ⟨g, hsI.length, none⟩ = false ∧ w2.cell? ⟨g, hsI.length, none⟩ = some (.slice Av (rstate N (xs.take k)).2.length cv) ∧ ∀ y, (w2.setCell ⟨g, hsI.length, none⟩ y).ownsRow w.heap.size 22 1 (.slice (some ⟨g, 0, none⟩) (hsI.length + 1) cap) (hsI.length + 1) (hsI ++ [y])) := hset
          have HRM : Hid (RM w (rstate N (xs.take k)) hsI gs (.slice (some ⟨g, 0, none⟩) (hsI.length + 1) cap) (.slice Av (rstate N (xs.take k)).2.length cv) wr) := hRM
          clear HK hz hmd hRM hset
          gi_wp2_with (gi_at_builtin; refine app1 w.heap.size rfl _ _ 22 3 (.int .i64 0) 1 8 rfl Try.underlying22 info_int rfl (by decide) (by decide) (.slice Av (rstate N (xs.take k)).2.length cv) (rstate N (xs.take k)).2.length ((rstate N (xs.take k)).2.map (Value.int .i64)) [.int .i64 xs[k]] rfl rfl rfl (by simp [Value.oneCell']) HRM.out.2.2.2.1 (by omega) (by omega) ?_; rintro v2 w2 hown2 hg2 hv2 ⟨A2, c2, e2⟩; have hgg := hg2.block g (own_lt HRM.out.2.2.1 rfl).2 (fun h => HRM.out.2.2.2.2.1 g h rfl); obtain ⟨hfz, hcw, -⟩ := HSET.out w2 hgg; have HN : Hid (RR w (rstep N (rstate N (xs.take k)) xs[k]) (.slice (some ⟨g, 0, none⟩) (hsI.length + 1) cap) (w2.setCell ⟨g, hsI.length, none⟩ v2)) := HRM.out.next (n := N) rfl (fun w1 h1 y => (HSET.out w1 h1).2.2 y) hown2 hg2 hv2 (by omega); clear hown2 hg2 hv2 hgg)
          exact ⟨⟨k + 1, by omega, by go_num, by rw [HST.out]; subst e2; exact HN.out⟩, by simp [intOf]; omega⟩
      · obtain rfl : k = xs.length := by omega
        rw [List.take_length] at HK
        have h1 := rstate_cnt hN1 xs
        have h2 := rout_len hN1 xs
        obtain ⟨A', c', rfl, hm, hr⟩ := HK.out.rows (by omega) (by omega)
        have HR : Hid (Mod Nil0 w wr ∧ Row2 (fun b => w.heap.size ≤ b ∧ b < wr.heap.size) wr A' (rout (rstate N xs))) := ⟨hm, hr⟩
        clear HK hr hm h1 h2
        gi_wp2
        go_ret
        exact ⟨A', c', rfl, HR.out.1, HR.out.2, trivial⟩
end Go.Proofs.Ytobioeehfigmcaa
