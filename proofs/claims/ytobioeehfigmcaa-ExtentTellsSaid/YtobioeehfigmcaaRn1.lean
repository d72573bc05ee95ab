/- Lists of runs: slices of slices of numbers, and collecting them. No condition but the slices' bounds. -/
import Derived.Test.YtobioeehfigmcaaRf1
import Derived.Test.YtobioeehfigmcaaSeqR
set_option linter.unusedSimpArgs false
set_option linter.unusedVariables false
set_option maxRecDepth 100000
namespace Go.Proofs.Ytobioeehfigmcaa
open Go Go.RowKit Go.Shelf
attribute [local go_sem] Oper.semAt_some

/-- The headers hs tell the lists xss, whose cells lie in blocks of gs. -/
def InnerOk (gs : Nat → Prop) (A : World) (hs : List Value) (xss : List (List Int)) : Prop :=
  hs.length = xss.length ∧ ∀ i (h : i < hs.length) (h' : i < xss.length), ∃ A' c', hs[i] = .slice A' xss[i].length c' ∧ Row1 (Value.int .i64) gs A A' xss[i]
theorem InnerOk.nil (gs : Nat → Prop) (A : World) : InnerOk gs A [] [] := ⟨rfl, fun i h => by simp at h⟩
theorem InnerOk.keep {gs : Nat → Prop} {A B : World} {hs : List Value} {xss : List (List Int)} (h : InnerOk gs A hs xss) (hd : ∀ b, gs b → B.heap[b]? = A.heap[b]?) : InnerOk gs B hs xss :=
  ⟨h.1, fun i h1 h2 => by obtain ⟨A', c', e, hr⟩ := h.2 i h1 h2; exact ⟨A', c', e, hr.keep hd⟩⟩
theorem InnerOk.mono {gs gs' : Nat → Prop} {A : World} {hs : List Value} {xss : List (List Int)} (h : InnerOk gs A hs xss) (hd : ∀ b, gs b → gs' b) : InnerOk gs' A hs xss :=
  ⟨h.1, fun i h1 h2 => by obtain ⟨A', c', e, hr⟩ := h.2 i h1 h2; exact ⟨A', c', e, hr.mono hd⟩⟩
theorem InnerOk.snoc {gs : Nat → Prop} {A : World} {hs : List Value} {xss : List (List Int)} {A' : Option Addr} {c : Nat} {xs : List Int} (h : InnerOk gs A hs xss) (hr : Row1 (Value.int .i64) gs A A' xs) :
    InnerOk gs A (hs ++ [.slice A' xs.length c]) (xss ++ [xs]) := by
  refine ⟨by simp [h.1], fun i h1 h2 => ?_⟩
  by_cases hi : i < hs.length
  · obtain ⟨A2, c2, e, hr2⟩ := h.2 i hi (by rw [← h.1]; exact hi)
    exact ⟨A2, c2, by rw [List.getElem_append_left hi]; simpa [List.getElem_append_left (show i < xss.length by rw [← h.1]; exact hi)] using e, by simpa [List.getElem_append_left (show i < xss.length by rw [← h.1]; exact hi)] using hr2⟩
  · have e1 : i = hs.length := by simp at h1; omega
    subst e1
    have e2 : hs.length = xss.length := h.1
    refine ⟨A', c, by simp [List.getElem_append_right, e2], by simpa [List.getElem_append_right, e2] using hr⟩
/-- A slice of slices that is read. -/
def Row2 (D : Nat → Prop) (w : World) (A : Option Addr) (xss : List (List Int)) : Prop := ∃ hs : List Value, hs.length = xss.length ∧ Row1 (fun v : Value => v) D w A hs ∧ InnerOk D w hs xss

/-- A variable's box with a row of such headers. -/
def Coll2 (box base : Nat) (xss : List (List Int)) (Wr : Nat → Prop) (w : World) (k : Nat) (m : Nat → Prop) (A : World) : Prop :=
  ∃ v hs gs, m = (fun b => b = box ∨ v.ownBlock = some b ∨ gs b) ∧ A.heap[box]? = some (.cells #[v] 39 (0, 0)) ∧ A.ownsRow base 22 1 v k hs ∧ InnerOk gs A hs (xss.take k) ∧
    (∀ b, gs b → w.heap.size ≤ b ∧ b < A.heap.size ∧ b ≠ box ∧ v.ownBlock ≠ some b) ∧ Mod Wr w A
theorem Coll2.stab {box base : Nat} {xss : List (List Int)} {Wr : Nat → Prop} {w : World} (n0 : Nat) (hn : w.heap.size ≤ n0) : Stab n0 Wr (Coll2 box base xss Wr w) := by
  rintro k m A B S ⟨v, hs, gs, rfl, hb, ho, hi, hg, hm⟩ hAB hS hS2
  exact ⟨v, hs, gs, rfl, hAB.heap hb (fun h => hS _ h (.inl rfl)), own_move ho (fun b h => hAB.block b (own_lt ho h).2 (fun hs => hS _ hs (.inr (.inl h)))), hi.keep (fun b h => hAB.block b (hg b h).2.1 (fun hs => hS _ hs (.inr (.inr h)))),
    fun b h => ⟨(hg b h).1, Nat.lt_of_lt_of_le (hg b h).2.1 hAB.size, (hg b h).2.2⟩, hm.trans' hAB (fun b hlt h => hS2 b h (by omega))⟩
theorem Coll2.rng {box base : Nat} {xss : List (List Int)} {Wr D : Nat → Prop} {w : World} (hD : ∀ b, D b ∨ Wr b → b < w.heap.size) (hbox : w.heap.size ≤ box) (hbase : w.heap.size ≤ base) : Rng D Wr (Coll2 box base xss Wr w) := by
  rintro k m A ⟨v, hs, gs, rfl, hb, ho, hi, hg, hm⟩ b (rfl | h | h)
  · exact ⟨(Array.getElem?_eq_some_iff.1 hb).1, fun h => by have := hD _ (.inl h); omega, fun h => by have := hD _ (.inr h); omega⟩
  · obtain ⟨h1, h2⟩ := own_lt ho h
    exact ⟨h2, fun h => by have := hD _ (.inl h); omega, fun h => by have := hD _ (.inr h); omega⟩
  · obtain ⟨h1, h2, _⟩ := hg b h
    exact ⟨h2, fun h => by have := hD _ (.inl h); omega, fun h => by have := hD _ (.inr h); omega⟩
/-- The k-th list, in new memory. -/
def ERuns (xss : List (List Int)) (k : Nat) (args : Array Value) (g : Nat → Prop) (A : World) : Prop := ∃ h : k < xss.length, ∃ A' c, args = #[.slice A' xss[k].length c] ∧ Row1 (Value.int .i64) g A A' xss[k]
/-- A new slice of lists comes back. -/
def RSlice2 (xss : List (List Int)) (Wr : Nat → Prop) (w : World) (X : World → Prop) (e : Ending) (B : World) : Prop :=
  ∃ A c, e = .returned (.slice A xss.length c) ∧ Mod Wr w B ∧ Row2 (fun b => w.heap.size ≤ b ∧ b < B.heap.size) B A xss ∧ X B

theorem info_slint : (Try.prog.info? 22).map (fun i => (i.zero, i.size, i.bytes)) = some (some (.slice none 0 0), 1, 24) := by kernel_rfl
set_option maxHeartbeats 1000000 in
theorem appendSeq_sl (f : Nat) (cap : Array Value) (D Wr : Nat → Prop) (It : Option Nat → World → Prop) (xss : List (List Int)) (w : World) (hseq : SeqRel Try.prog (.func (.func f) #[] cap) D Wr It xss.length (ERuns xss) w) (hbig : xss.length * 24 ≤ 140737488355328) :
    Calls Try.prog 111 #[.slice none 0 0, .func (.func f) #[] cap] w (RSlice2 xss Wr w (It none)) := by
  refine calls_of_FW (ro := none) (n := 0) ?_
  refine callsIn_of_wp_marks Try.func111 rfl trivial ?_
  simp only [Try.ntmps111, List.size_toArray, List.length_cons, List.length_nil, Nat.reduceAdd, Nat.reduceSub, Array.replicate_succ, Array.replicate_zero, List.push_toArray, List.append_toArray, List.nil_append, List.cons_append]
  gi_wp2
  have hbx := World.alloc_heap_new w (.cells #[.slice none 0 0] 39)
  have hM1 : Mod Nil0 w (w.alloc (.cells #[.slice none 0 0] 39)) := (Mod.refl _ _).alloc _
  have hsz1 : (w.alloc (.cells #[.slice none 0 0] 39)).heap.size = w.heap.size + 1 := by simp
  generalize hW1 : w.alloc (.cells #[.slice none 0 0] 39) = W1 at hbx hM1 hsz1 ⊢
  clear hW1
  have hseq1 := hseq.mod hM1 (fun _ _ hf => hf)
  refine wpIn_rangeG0 rfl hseq1 (Coll2 w.heap.size (w.heap.size + 1) xss Wr w) (fun _ _ _ _ => False) (fun b => b = w.heap.size ∨ (Value.slice none 0 0).ownBlock = some b ∨ False)
    ?hps (Coll2.stab W1.heap.size (by omega)) (fun c _ _ _ _ _ h => h.elim) (Coll2.rng hseq.1 (Nat.le_refl _) (by omega)) ?h0 ?hround ?hdone ?hstop
  case hps => rintro k args g A ⟨_, A', c, rfl, _⟩; rfl
  case h0 => exact ⟨_, [], fun _ => False, rfl, hbx, World.ownsRow_nil W1 _ _ _, by simpa using InnerOk.nil _ _, fun b h => h.elim, hM1.mono (fun _ _ hf => hf.elim)⟩
  case hstop => rintro d m' B c k hk hd hdB hmd ⟨_, _, hf, _⟩; exact hf.elim
  case hround =>
    rintro l k hk mM g A args hlw hlA hml hJk ⟨_, A', c, rfl, hrow⟩ hg
    simp only [List.zip_toArray, List.zip_cons_cons, List.zip_nil_right, List.foldl_toArray', List.foldl_cons, List.foldl_nil]
    clear hJk hml
    gi_wp2
    refine ⟨Mod.refl _ _, fun A2 hA2 hrec hJ2 => ?_⟩
    have hs2 := hA2.size
    obtain ⟨v, hs, gs, rfl, hb2, hown, hin, hgs, hmod⟩ := hJ2
    obtain ⟨Av, cv, rfl⟩ : ∃ A c, v = .slice A k c := own_shape hown
    have hsA := hmod.size
    have hbv := cell_of_one' hb2
    have hnv : (Value.slice Av k cv).ownBlock ≠ some w.heap.size := fun h => by have := (own_lt hown h).1; omega
    have hblt := (Array.getElem?_eq_some_iff.1 hb2).1
    have hrow2 : Row1 (Value.int .i64) g A2 A' xss[k] := hrow.keep (fun b hb => hA2.block b (hg b hb).2.1 (hg b hb).2.2.2)
    have HO : Hid (A2.ownsRow (w.heap.size + 1) 22 1 (.slice Av k cv) k hs) := hown
    have HB : Hid (A2.heap[w.heap.size]? = some (.cells #[.slice Av k cv] 39 (0, 0))) := hb2
    have HI : Hid (InnerOk gs A2 hs (xss.take k) ∧ Row1 (Value.int .i64) g A2 A' xss[k] ∧ (∀ b, gs b → w.heap.size ≤ b ∧ b < A2.heap.size ∧ b ≠ w.heap.size ∧ (Value.slice Av k cv).ownBlock ≠ some b) ∧ (∀ b, g b → W1.heap.size ≤ b ∧ b < A2.heap.size ∧ ¬ (b = w.heap.size ∨ (Value.slice Av k cv).ownBlock = some b ∨ gs b))) :=
      ⟨hin, hrow2, hgs, fun b hb => ⟨(hg b hb).1, Nat.lt_of_lt_of_le (hg b hb).2.1 hs2, (hg b hb).2.2.1⟩⟩
    clear hown hb2 hseq hseq1 hin hrow hrow2 hgs hg
    gi_wp2_with (gi_at_builtin; refine app1 (w.heap.size + 1) rfl _ _ 39 22 (.slice none 0 0) 1 24 rfl Try.underlying39 info_slint rfl (by decide) (by decide) (.slice Av k cv) k hs [.slice A' xss[k].length c] rfl rfl rfl (by simp [Value.oneCell']) HO.out (by omega) (by omega) ?_; rintro v1 w1 hown1 hg1 hv1 ⟨A1, c1, rfl⟩; have hbw := hg1.cell hbv hnv; have hfw := free_of_one' (hg1.heap HB.out hnv))
    obtain ⟨hin, hrow, hgs, hg⟩ := HI.out
    have hb1 : w1.heap[w.heap.size]? = some (.cells #[.slice Av k cv] 39 (0, 0)) := hg1.heap HB.out hnv
    have hM : Mod (fun b => b = w.heap.size ∨ (Value.slice Av k cv).ownBlock = some b ∨ gs b) A2 (w1.setCell ⟨w.heap.size, 0, none⟩ (.slice A1 (k + 1) c1)) := (hg1.mono (fun _ _ h => .inr (.inl h))).setCell ⟨w.heap.size, 0, none⟩ _ (fun _ => .inl rfl)
    have hM' : Mod (fun b => b = w.heap.size ∨ (Value.slice Av k cv).ownBlock = some b) A2 (w1.setCell ⟨w.heap.size, 0, none⟩ (.slice A1 (k + 1) c1)) := (hg1.mono (fun _ _ h => .inr h)).setCell ⟨w.heap.size, 0, none⟩ _ (fun _ => .inl rfl)
    have hnv1 : ∀ b, (Value.slice A1 (k + 1) c1).ownBlock = some b → b ≠ w.heap.size := fun b h => by have := (own_lt hown1 h).1; omega
    refine ⟨fun b => b = w.heap.size ∨ (Value.slice A1 (k + 1) c1).ownBlock = some b ∨ (gs b ∨ g b), hM, ?_, .slice A1 (k + 1) c1, hs ++ [.slice A' xss[k].length c], fun b => gs b ∨ g b, rfl, Boxed.set (B := w.heap.size) _ hb1, own_move hown1 (fun b hb => Below.heap_setCell _ _ _ _ (hnv1 b hb)), ?_, ?_, hmod.trans' hM' (fun b hb h => ?_)⟩
    · rintro b (h | h | h | h)
      · exact .inl (.inl h)
      · rcases hv1 b h with h | h
        · exact .inl (.inr (.inl h))
        · exact .inr (.inr (by omega))
      · exact .inl (.inr (.inr h))
      · exact .inr (.inl h)
    · rw [List.take_succ_eq_append_getElem hk]
      refine InnerOk.snoc ((hin.keep (fun b hb => hM'.block b (hgs b hb).2.1 (fun h => h.elim (hgs b hb).2.2.1 (hgs b hb).2.2.2))).mono (fun b hb => .inl hb)) ((hrow.keep (fun b hb => hM'.block b (hg b hb).2.1 (fun h => (hg b hb).2.2 (h.imp id .inl)))).mono (fun b hb => .inr hb))
    · have hsM := hM.size
      rintro b (hb | hb)
      · refine ⟨(hgs b hb).1, by have := (hgs b hb).2.1; omega, (hgs b hb).2.2.1, fun h => ?_⟩
        rcases hv1 b h with h | h
        · exact (hgs b hb).2.2.2 h
        · have := (hgs b hb).2.1; omega
      · refine ⟨by have := (hg b hb).1; omega, by have := (hg b hb).2.1; omega, fun h => (hg b hb).2.2 (.inl h), fun h => ?_⟩
        rcases hv1 b h with h | h
        · exact (hg b hb).2.2 (.inr (.inl h))
        · have := (hg b hb).2.1; omega
    · rcases h with rfl | h
      · omega
      · have := (own_lt HO.out h).1; omega
  case hdone =>
    rintro d m' B hd hdB hmd ⟨hsub, hmod, ⟨v, hs, gs, rfl, hb2, hown, hin, hgs, hmodW⟩, hit⟩
    rw [List.take_length] at hin
    have hbl : xss.length = hs.length := hin.1.symm
    obtain ⟨A, c, hv, hr⟩ := Row1.of_own (enc := fun v : Value => v) (xs := hs) (by simpa [hbl] using hown) (by omega)
    rw [← hbl] at hv
    subst hv
    have hbv := cell_of_one' hb2
    have hblt := (Array.getElem?_eq_some_iff.1 hb2).1
    have hne : w.heap.size ≠ d := fun h => by subst h; exact hmd (.inl rfl)
    have HR : Hid (InnerOk gs B hs xss ∧ (∀ b, gs b → w.heap.size ≤ b ∧ b < B.heap.size ∧ b ≠ w.heap.size ∧ (Value.slice A xss.length c).ownBlock ≠ some b) ∧ hs.length = xss.length) := ⟨hin, hgs, hbl.symm⟩
    clear hbl hin
    gi_wp2
    have hMd : Mod (· = d) B (B.putObj d (.deferred none)) := (Mod.refl _ _).putObj _ _ (fun _ => rfl)
    refine leaves_one hdB ⟨_, results_tmp rfl _ _ _, A, c, rfl, hmodW.putObj _ _ (fun h => by omega), ⟨hs, HR.out.2.2, ?_, ?_⟩, ?_⟩
    · refine (hr.keep (fun b hb => World.putObj_heap_other (fun h => hmd (by subst h; exact .inr (.inl hb.2.2))))).mono (fun b hb => ?_)
      have := hb.1; have := hb.2.1; simp; omega
    · refine (HR.out.1.keep (fun b hb => World.putObj_heap_other (fun h => hmd (by subst h; exact .inr (.inr hb))))).mono (fun b hb => ?_)
      have := HR.out.2.1 b hb; simp; omega
    · exact hseq.2.1 _ _ _ hit (fun b h => World.putObj_heap_other (by have := hseq.1 _ (.inr h); omega))
end Go.Proofs.Ytobioeehfigmcaa
