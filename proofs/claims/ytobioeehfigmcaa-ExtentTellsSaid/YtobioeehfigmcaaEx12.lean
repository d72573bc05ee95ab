/- The program's Sectors: the iterator's contract. No condition but the bounds. -/
import Derived.Test.YtobioeehfigmcaaEx11
set_option linter.unusedSimpArgs false
set_option linter.unusedVariables false
set_option maxRecDepth 100000
namespace Go.Proofs.Ytobioeehfigmcaa
open Go Go.RowKit Go.Shelf
attribute [local go_sem] Oper.semAt_some

set_option maxHeartbeats 2000000 in
theorem sectors1 (box c : Nat) (A : Option Addr) (D : Nat → Prop) (xs : List (Int × Int)) (w : World)
    (hb : w.cell? ⟨box, 0, none⟩ = some (.slice A xs.length c)) (hr : RowK 2 encE D w A xs) (hD : ∀ b, D b → b < w.heap.size) (h40 : xs.length ≤ 40) :
    IsSeq Try.prog (.func (.func 79) #[] #[.pointer (some ⟨box, 0, none⟩)]) (fun b => b = box ∨ D b) ((Ext.secsA xs).map fun n => #[.int .i64 n]) w := by
  refine ⟨?_, fun _ _ _ _ _ => trivial, ?_⟩
  · rintro b ((rfl | h) | h)
    · exact World.block_lt_of_cell? w _ hb
    · exact hD b h
    · exact h.elim
  intro yf ya yc J Jx m W hW hD' hJ hJx hR hY h0
  refine .fn _ _ _ _ _ (enters_of Try.func79 (by kernel_rfl) rfl) (calls_of_FW (ro := none) (n := 0) ?_)
  refine callsIn_of_wp Try.func79 rfl trivial ?_
  simp only [Try.ntmps79, List.size_toArray, List.length_cons, List.length_nil, Nat.reduceAdd, Nat.reduceSub, Array.replicate_succ, Array.replicate_zero, List.push_toArray, List.append_toArray, List.nil_append, List.cons_append]
  have hbW : W.cell? ⟨box, 0, none⟩ = some (.slice A xs.length c) := (World.cell?_of_block (hD' box (.inl (.inl rfl)))).trans hb
  have hrW : RowK 2 encE D W A xs := hr.keep (fun b hb => hD' b (.inl (.inr hb)))
  have hDW : ∀ b, D b → b < W.heap.size := fun b hb => Nat.lt_of_lt_of_le (hD b hb) hW
  have hm0 : ∀ b, m b → ¬ (b = box ∨ D b) := fun b hb hd => (hR 0 m W h0 b hb).2.1 hd
  have ha := fun W' (hm : Mod Nil0 W W') => apart_ext A c D xs W' (hrW.keep (fun b hb => hm.block b (hDW b hb) (fun hf => hf))) (fun b hb => Nat.lt_of_lt_of_le (hDW b hb) hm.size) (by omega)
  have hsub := fun (B : World) (hm : Mod Nil0 W B) => hJ 0 m W B Nil0 h0 hm (fun _ hf => hf.elim) (fun _ hf => hf.elim)
  have HJ0 : Hid (Stab W.heap.size Nil0 J ∧ ∀ (B : World) (hm : Mod Nil0 W B), J 0 m B) := ⟨hJ, hsub⟩
  by_cases hap : Ext.apart xs
  · have HT : Hid (Ext.apartB xs = true ∧ Ext.apart xs ∧ Ext.secsA xs = Ext.secs xs) := ⟨by simp [Ext.apartB, hap], hap, by simp [Ext.secsA, hap]⟩
    have HY : Hid (∀ (k j : Nat) (hk : k < xs.length) (hj : j < xs[k].2.toNat) (m : Nat → Prop) (A : World), J (Ext.off xs k + j) m A → W.heap.size ≤ A.heap.size → CallV Try.prog (.func yf ya yc) #[.int .i64 (xs[k].1 + (j : Int))] A (YPost J Jx (Ext.off xs k + j) m A)) := by
      intro k j hk hj m A h1 h2
      obtain ⟨h3, h4⟩ := Ext.secs_get hk hj
      have := hY (Ext.off xs k + j) (by rw [List.length_map, HT.out.2.2]; exact h3) m A h1 h2
      simp only [List.getElem_map] at this
      rw [← h4]
      have e : ∀ (l l' : List Int) (e : l = l') (i : Nat) (h : i < l.length) (h' : i < l'.length), l[i] = l'[i] := by intro l l' e i h h'; subst e; rfl
      rw [e _ _ HT.out.2.2.symm _ h3 (by rw [HT.out.2.2]; exact h3)]
      exact this
    have HL : Hid (((Ext.secsA xs).map fun n => (#[Value.int .i64 n] : Array Value)).length = Ext.off xs xs.length) := by show _ = _; rw [List.length_map, HT.out.2.2, Ext.off_len]
    have HRW : Hid (RowK 2 encE D W A xs ∧ (∀ b, D b → b < W.heap.size) ∧ (∀ b, m b → ¬ (b = box ∨ D b)) ∧ Rng (fun b => b = box ∨ D b) Nil0 J) := ⟨hrW, hDW, hm0, hR⟩
    clear hY hap hJ hJx hR hD' hr hD hb h0 hrW hDW hm0 hsub
    gi_wp2_with (gi_at_call 29; refine (calls_FW (ro := none) (ha _ (Mod.refl _ _))).mono ?_; clear ha; rintro e B ⟨rfl, hm⟩; rw [HT.out.1]; have hbB := hm.cell hbW (fun hf => hf); have HM : Hid (Mod Nil0 W B) := hm; clear hm hbW)
    gi_loopw [11] (fun i wr => ∃ (k : Nat) (m' : Nat → Prop), k ≤ xs.length ∧ i = .int .i64 k ∧ Hid (J (Ext.off xs k) m' wr ∧ Mod (fun b => m b ∨ Nil0 b) W wr ∧ ∀ b, m' b → m b ∨ W.heap.size ≤ b)) (fun i _ => xs.length - (intOf i).toNat)
    case atStart => exact ⟨0, m, Nat.zero_le _, rfl, HJ0.out.2 _ HM.out, HM.out.mono (fun _ _ hf => hf.elim), fun b hb => .inl hb⟩
    case round =>
      obtain ⟨k, m', hk, rfl, HJ⟩ := hrel
      by_cases hlt : k < xs.length
      · obtain ⟨w0, hw0⟩ : ∃ w0, w0 = wr := ⟨_, rfl⟩
        subst hw0
        obtain ⟨b, o, rfl, hDb, hc1, hc2⟩ := (HRW.out.1.keep (fun b hb => HJ.out.2.1.block b (HRW.out.2.1 b hb) (fun h => h.elim (fun h => HRW.out.2.2.1 _ h (.inr hb)) id))).ext hlt
        obtain ⟨N, hN⟩ : ∃ N : Nat, xs[k].2 = (N : Int) := ⟨xs[k].2.toNat, by have := (HT.out.2.1.1 xs[k] (List.getElem_mem hlt)).2.1; omega⟩
        have HN : Hid (xs[k].2 = (N : Int)) := hN
        rw [hN] at hc2
        have hok := HT.out.2.1.1 xs[k] (List.getElem_mem hlt)
        unfold Ext.okE at hok
        rw [hN] at hok
        obtain ⟨hp0, hq1, hq2, hp1⟩ := hok
        clear hN
        have HK := Lib.hid (fun (j : Nat) (hj : j < N) (m : Nat → Prop) (A : World) => HY.out k j hlt (by rw [HN.out]; simpa using hj) m A)
        generalize hpp : xs[k].1 = p at hc1 hp0 hp1 HK
        clear hpp
        have hsw := HJ.out.2.1.size
        have hlm : ¬ m' w0.heap.size := fun h => by have := (HRW.out.2.2.2 _ _ _ HJ.out.1 _ h).1; omega
        have hbx := World.alloc_heap_new w0 (.cells #[.int .i64 p, .int .i64 N] 64)
        have HI := Lib.hid (And.intro (HJ0.out.1 _ _ _ _ Nil0 HJ.out.1 ((Mod.refl _ w0).alloc (.cells #[.int .i64 p, .int .i64 N] 64)) (fun _ hf => hf.elim) (fun _ hf => hf.elim)) (And.intro (HJ.out.2.1.alloc (.cells #[.int .i64 p, .int .i64 N] 64)) (And.intro HJ.out.2.2 (And.intro hbx hlm))))
        clear hbx hlm
        gi_wp2
        gi_loopw [17] (fun i wr => ∃ (j : Nat) (m2 : Nat → Prop), j ≤ N ∧ i = .int .i64 j ∧ Hid (J (Ext.off xs k + j) m2 wr ∧ Mod (fun b => m b ∨ Nil0 b) W wr ∧ (∀ b, m2 b → m b ∨ W.heap.size ≤ b) ∧ wr.heap[w0.heap.size]? = some (.cells #[.int .i64 p, .int .i64 N] 64 (0, 0)) ∧ ¬ m2 w0.heap.size)) (fun i _ => N - (intOf i).toNat)
        case atStart => exact ⟨0, m', Nat.zero_le _, rfl, HI.out.1, HI.out.2.1, HI.out.2.2.1, HI.out.2.2.2.1, HI.out.2.2.2.2⟩
        case round =>
          obtain ⟨j, m2, hj, rfl, HJ2⟩ := hrel
          have HOff : Hid (Ext.off xs (k + 1) = Ext.off xs k + N ∧ Ext.off xs (k + 1) ≤ Ext.off xs xs.length) := ⟨by rw [Ext.off_succ hlt, HN.out]; simp, Ext.off_mono (by omega)⟩
          by_cases hlj : j < N
          · have HC := Lib.hid (HK.out j hlj m2 wr HJ2.out.1 HJ2.out.2.1.size)
            have hcb : wr.cell? ⟨w0.heap.size, 0, none⟩ = some (.int .i64 p) := by have := HJ2.out.2.2.2.1; simp [World.cell?, this]
            have hszb : w0.heap.size < wr.heap.size := (Array.getElem?_eq_some_iff.1 HJ2.out.2.2.2.1).1
            clear HI HJ
            gi_wp2_with (refine wpListIn_callV (v := .func yf ya yc) (argl := [.int .i64 (p + (j : Int))]) rfl rfl rfl (HC.out.mono ?_); rintro e B2 ⟨m3, hmod2, hm2, (⟨rfl, hj2⟩ | ⟨rfl, hj2⟩)⟩ <;> simp only [afterCall])
            · exact ⟨⟨j + 1, m3, by omega, by go_num, hj2, mod_step HJ2.out.2.1 HJ2.out.2.2.1 hmod2, sub_step HJ2.out.2.2.1 hm2 HJ2.out.2.1.size, hmod2.heap HJ2.out.2.2.2.1 HJ2.out.2.2.2.2, fun h => (hm2 _ h).elim HJ2.out.2.2.2.2 (fun h => by omega)⟩, by simp [intOf]; omega⟩
            · refine bodyPost_ret (results_none rfl _ _ _) rfl ?_
              exact ⟨⟨_, rfl⟩, m3, sub_step HJ2.out.2.2.1 hm2 HJ2.out.2.1.size, mod_step HJ2.out.2.1 HJ2.out.2.2.1 hmod2, .inr ⟨Ext.off xs k + j, by rw [HL.out]; have := HOff.out; omega, hj2, trivial⟩⟩
          · obtain rfl : j = N := by omega
            clear HI HJ
            gi_wp2
            exact ⟨⟨k + 1, m2, by omega, by go_num, by rw [HOff.out.1]; exact HJ2.out.1, HJ2.out.2.1, HJ2.out.2.2.1⟩, by simp [intOf]; omega⟩
      · obtain rfl : k = xs.length := by omega
        gi_wp2
        go_end0
        exact ⟨⟨_, rfl⟩, m', HJ.out.2.2, HJ.out.2.1, .inl ⟨by rw [HL.out]; exact HJ.out.1, trivial⟩⟩
  · have HT : Hid (Ext.apartB xs = false ∧ Ext.secsA xs = []) := ⟨by simp [Ext.apartB, hap], by simp [Ext.secsA, hap]⟩
    have HL : Hid (((Ext.secsA xs).map fun n => (#[Value.int .i64 n] : Array Value)).length = 0) := by show _ = _; rw [HT.out.2]; rfl
    clear hY hap hJ hJx hR hD' hr hD hb h0 hrW hDW hm0 hsub
    gi_wp2_with (gi_at_call 29; refine (calls_FW (ro := none) (ha _ (Mod.refl _ _))).mono ?_; clear ha; rintro e B ⟨rfl, hm⟩; rw [HT.out.1]; have HM : Hid (Mod Nil0 W B) := hm; clear hm hbW)
    refine bodyPost_ret (results_none rfl _ _ _) rfl ?_
    exact ⟨⟨_, rfl⟩, m, fun b hb => .inl hb, HM.out.mono (fun _ _ hf => hf.elim), .inl ⟨by rw [HL.out]; exact HJ0.out.2 _ HM.out, trivial⟩⟩
theorem sectors_ext (A : Option Addr) (c : Nat) (D : Nat → Prop) (xs : List (Int × Int)) (w : World) (hr : RowK 2 encE D w A xs) (hD : ∀ b, D b → b < w.heap.size) (h40 : xs.length ≤ 40) :
    Calls Try.prog 36 #[.slice A xs.length c] w (SeqOut Try.prog Nil0 Nil0 (fun _ _ => True) ((Ext.secsA xs).map fun n => #[.int .i64 n]) w) := by
  have hcl := clone_ext A c D xs (w.alloc (.cells #[.slice A xs.length c] 51)) (hr.keep (fun b hb => Below.heap_alloc _ _ _ (hD b hb))) (by omega)
  have hb0 := World.alloc_heap_new w (.cells #[.slice A xs.length c] 51)
  clear hr hD
  go_enter Try.func36, Try.ntmps36
  go_wp2_with (go_at_call 78; refine hcl.mono ?_; clear hcl; rintro e B ⟨A', c', rfl, hm, hr, -⟩; have hb1 := hm.heap hb0 (fun hf => hf); have hc1 := cell_of_one' hb1; have hf1 := free_of_one' hb1; have HM := Lib.hid (And.intro hm (And.intro hr (And.intro hb1 hm.size))); clear hm hr hb1 hb0)
  go_ret
  obtain ⟨hm, hr, hb1, hs⟩ := HM.out
  simp only [World.size_alloc] at hs hr
  have hset := Boxed.set (B := w.heap.size) (.slice A' xs.length c') hb1
  have hs2 : (B.setCell ⟨w.heap.size, 0, none⟩ (.slice A' xs.length c')).heap.size = B.heap.size := by simp [World.setCell]
  refine ⟨_, _, rfl, (((Mod.refl _ _).alloc _).trans hm).setCell _ _ (by simp), (sectors1 w.heap.size c' A' (fun b => w.heap.size + 1 ≤ b ∧ b < B.heap.size) xs _ (cell_of_one' hset) (hr.keep (fun b hb => Below.heap_setCell _ _ _ _ (by have := hb.1; simp; omega))) (fun b hb => by rw [hs2]; exact hb.2) h40).monoD ?_ ?_⟩
  · rintro b (rfl | h)
    · exact .inr ⟨Nat.le_refl _, by rw [hs2]; omega⟩
    · exact .inr ⟨by omega, by rw [hs2]; exact h.2⟩
  · rintro b (h | h)
    · exact h.elim
    · exact h.2
end Go.Proofs.Ytobioeehfigmcaa
