/- Find, List and the makers of sequences. No condition. -/
import Derived.Test.YtobioeehfigmcaaFl3
set_option linter.unusedSimpArgs false
set_option linter.unusedVariables false
set_option maxRecDepth 100000
namespace Go.Proofs.Ytobioeehfigmcaa
open Go Go.RowKit Go.Shelf
attribute [local go_sem] Oper.semAt_some

/-- What Find answers: the first that is so, or the zero value. -/
def RFind {α : Type} (enc : α → Value) (z : α) (p : α → Bool) (xs : List α) (Wr : Nat → Prop) (w : World) (It : Option Nat → World → Prop) (e : Ending) (B : World) : Prop :=
  Mod Wr w B ∧ ((e = .returned (.tuple #[enc z, .bool false]) ∧ (∀ x ∈ xs, p x = false) ∧ It none B) ∨
    ∃ i, ∃ h : i < xs.length, p xs[i] = true ∧ (∀ j, ∀ h : j < i, p (xs[j]'(by omega)) = false) ∧ e = .returned (.tuple #[enc xs[i], .bool true]) ∧ It (some (i + 1)) B)
/-- Its two results' cells. -/
def FindJ {α : Type} (enc : α → Value) (z : α) (t : TypeId) (Wr : Nat → Prop) (w : World) (k : Nat) (m : Nat → Prop) (A : World) : Prop :=
  k = 0 ∧ m = (fun b => b = w.heap.size ∨ b = w.heap.size + 1) ∧ A.heap[w.heap.size]? = some (.cells #[enc z] t (0, 0)) ∧ A.heap[w.heap.size + 1]? = some (.cells #[.bool false] 4 (0, 0)) ∧ Mod Wr w A
def FindX {α : Type} (enc : α → Value) (t : TypeId) (ys : List α) (Wr : Nat → Prop) (w : World) (c : Code) (k : Nat) (m : Nat → Prop) (A : World) : Prop :=
  c = .ret ∧ k = 1 ∧ m = (fun b => b = w.heap.size ∨ b = w.heap.size + 1) ∧ (∃ y, ys[0]? = some y ∧ A.heap[w.heap.size]? = some (.cells #[enc y] t (0, 0))) ∧ A.heap[w.heap.size + 1]? = some (.cells #[.bool true] 4 (0, 0)) ∧ Mod Wr w A
theorem FindJ.stab {α : Type} {enc : α → Value} {z : α} {t : TypeId} {Wr : Nat → Prop} {w : World} (n0 : Nat) (hn : w.heap.size ≤ n0) : Stab n0 Wr (FindJ enc z t Wr w) := by
  rintro k m A B S ⟨hk, rfl, h1, h2, h3⟩ hm hS hS2
  exact ⟨hk, rfl, hm.heap h1 (fun h => hS _ h (.inl rfl)), hm.heap h2 (fun h => hS _ h (.inr rfl)), h3.trans' hm (fun b hb h => hS2 b h (by omega))⟩
theorem FindX.stab {α : Type} {enc : α → Value} {t : TypeId} {ys : List α} {Wr : Nat → Prop} {w : World} (n0 : Nat) (hn : w.heap.size ≤ n0) (c : Code) : Stab n0 Wr (FindX enc t ys Wr w c) := by
  rintro k m A B S ⟨hc, hk, rfl, ⟨y, hy, h1⟩, h2, h3⟩ hm hS hS2
  exact ⟨hc, hk, rfl, ⟨y, hy, hm.heap h1 (fun h => hS _ h (.inl rfl))⟩, hm.heap h2 (fun h => hS _ h (.inr rfl)), h3.trans' hm (fun b hb h => hS2 b h (by omega))⟩
theorem FindJ.rng {α : Type} {enc : α → Value} {z : α} {t : TypeId} {D Wr : Nat → Prop} {w : World} (n0 : Nat) (hD : ∀ b, D b → b < w.heap.size ∨ w.heap.size + 2 ≤ b) (hW : ∀ b, Wr b → b < w.heap.size) : Rng D Wr (FindJ enc z t Wr w) := by
  rintro k m A ⟨hk, rfl, h1, h2, h3⟩ b (rfl | rfl)
  · exact ⟨(Array.getElem?_eq_some_iff.1 h1).1, fun h => by have := hD _ h; omega, fun h => by have := hW _ h; omega⟩
  · exact ⟨(Array.getElem?_eq_some_iff.1 h2).1, fun h => by have := hD _ h; omega, fun h => by have := hW _ h; omega⟩
theorem filter_nil {α : Type} {p : α → Bool} {xs : List α} (h : (xs.filter p).length = 0) : ∀ x ∈ xs, p x = false := by
  intro x hx
  have h1 := List.eq_nil_of_length_eq_zero h
  rw [List.filter_eq_nil_iff] at h1
  simpa using h1 x hx
theorem kcnt_one {α : Type} {p : α → Bool} {xs : List α} {i : Nat} (h : i < xs.length) (hp : p xs[i] = true) (hk : kcnt p xs (i + 1) = 1) : (∀ j, ∀ h : j < i, p (xs[j]'(by omega)) = false) ∧ (xs.filter p)[0]? = some xs[i] := by
  have h0 : kcnt p xs i = 0 := by rw [kcnt_succ_pos h hp] at hk; omega
  refine ⟨fun j hj => filter_nil h0 _ (List.mem_take_iff_getElem.2 ⟨j, by omega, rfl⟩), ?_⟩
  obtain ⟨h1, h2⟩ := kcnt_get h hp
  simp only [h0] at h1 h2
  rw [List.getElem?_eq_getElem h1, h2]

set_option maxHeartbeats 1000000 in
theorem find_int (f fi : Nat) (cap capi : Array Value) (D Wr Di : Nat → Prop) (It : Option Nat → World → Prop) (xs : List Int) (p : Int → Bool) (w : World)
    (hseq : SeqSpec Try.prog (.func (.func f) #[] cap) D Wr It (xs.map fun x => #[Value.int .i64 x]) w) (hfun : PredV Try.prog (.func (.func fi) #[] capi) Di (Value.int .i64) p (· ∈ xs) w) (hDi : ∀ b, Di b → ¬ Wr b) (hDW : ∀ b, D b → ¬ Wr b) :
    Calls Try.prog 16 #[.func (.func f) #[] cap, .func (.func fi) #[] capi] w (RFind (Value.int .i64) (0 : Int) p xs Wr w It) := by
  have hW := fun b (h : Wr b) => hseq.1 b (.inr h)
  refine calls_of_FW (ro := none) (n := 0) ?_
  refine callsIn_of_wp_marks Try.func16 rfl trivial ?_
  simp only [Try.ntmps16, List.size_toArray, List.length_cons, List.length_nil, Nat.reduceAdd, Nat.reduceSub, Array.replicate_succ, Array.replicate_zero, List.push_toArray, List.append_toArray, List.nil_append, List.cons_append]
  gi_wp2_with (gi_at_call 24; refine (calls_FW (ro := none) (keep_int _ _ _ rfl rfl rfl rfl)).mono ?_; rintro e B ⟨rfl, rfl⟩)
  generalize hW0 : (w.alloc (.cells #[Value.int .i64 (0 : Int)] 3)).alloc (.cells #[.bool false] 4) = W0
  have hr4 : W0.heap[w.heap.size]? = some (.cells #[Value.int .i64 (0 : Int)] 3 (0, 0)) := by rw [← hW0]; exact (Below.heap_alloc _ _ _ (by simp)).trans (World.alloc_heap_new w _)
  have hr5 : W0.heap[w.heap.size + 1]? = some (.cells #[.bool false] 4 (0, 0)) := by
    rw [← hW0]; have := World.alloc_heap_new (w.alloc (.cells #[Value.int .i64 (0 : Int)] 3)) (.cells #[.bool false] 4); rwa [World.size_alloc] at this
  have hM0 : Mod Nil0 w W0 := by rw [← hW0]; exact ((Mod.refl _ _).alloc _).alloc _
  have hs0 : W0.heap.size = w.heap.size + 2 := by rw [← hW0]; simp
  clear hW0
  have hb1 : ((W0.alloc (.cells #[.func (.func f) #[] cap] 28)).alloc (.cells #[.func (.func fi) #[] capi] 25)).heap[w.heap.size + 1 + 1]? = some (.cells #[.func (.func f) #[] cap] 28 (0, 0)) := by
    rw [show w.heap.size + 1 + 1 = W0.heap.size by omega]; exact (Below.heap_alloc _ _ _ (by simp)).trans (World.alloc_heap_new W0 _)
  have hb2 : ((W0.alloc (.cells #[.func (.func f) #[] cap] 28)).alloc (.cells #[.func (.func fi) #[] capi] 25)).heap[w.heap.size + 1 + 1 + 1]? = some (.cells #[.func (.func fi) #[] capi] 25 (0, 0)) := by
    rw [show w.heap.size + 1 + 1 + 1 = W0.heap.size + 1 by omega]; have := World.alloc_heap_new (W0.alloc (.cells #[.func (.func f) #[] cap] 28)) (.cells #[.func (.func fi) #[] capi] 25); rwa [World.size_alloc] at this
  have hM2 : Mod Nil0 W0 ((W0.alloc (.cells #[.func (.func f) #[] cap] 28)).alloc (.cells #[.func (.func fi) #[] capi] 25)) := ((Mod.refl _ _).alloc _).alloc _
  have hs2 : ((W0.alloc (.cells #[.func (.func f) #[] cap] 28)).alloc (.cells #[.func (.func fi) #[] capi] 25)).heap.size = w.heap.size + 4 := by simp; omega
  generalize hW2 : (W0.alloc (.cells #[.func (.func f) #[] cap] 28)).alloc (.cells #[.func (.func fi) #[] capi] 25) = W2 at hb1 hb2 hM2 hs2 ⊢
  clear hW2
  have hM : Mod Nil0 w W2 := hM0.trans' hM2 (fun _ _ hf => hf)
  have hD : ∀ b, D b → b < w.heap.size := fun b h => hseq.1 b (.inl h)
  have hks := keep1_int (w.heap.size + 1 + 1) (w.heap.size + 1 + 1 + 1) f fi cap capi D Wr Di It xs p W2 (cell_of_one' hb1) (cell_of_one' hb2) (fun h => by have := hW _ h; omega) (fun h => by have := hW _ h; omega)
    (hseq.mod hM (fun _ _ hf => hf)) (hfun.later hM.size (fun b hb => hM.block b (hfun.1 b hb) (fun hf => hf))) hDi hDW
  have hH4 : W2.heap[w.heap.size]? = some (.cells #[Value.int .i64 (0 : Int)] 3 (0, 0)) := hM2.heap hr4 (fun hf => hf)
  have hH5 : W2.heap[w.heap.size + 1]? = some (.cells #[.bool false] 4 (0, 0)) := hM2.heap hr5 (fun hf => hf)
  have hz : w.heap.size + 4 ≤ W2.heap.size := by omega
  clear hs0 hs2 hM0 hM2 hr4 hr5
  refine wpIn_range0 rfl hks (FindJ (Value.int .i64) (0 : Int) 3 Wr w) (FindX (Value.int .i64) 3 (xs.filter p) Wr w) (fun b => b = w.heap.size ∨ b = w.heap.size + 1) ?hps (FindJ.stab W2.heap.size (by omega)) (FindX.stab W2.heap.size (by omega))
    (FindJ.rng 0 (fun b hb => by rcases hb with rfl | rfl | h | h <;> first | omega | (have := hD _ h; omega) | (have := hfun.1 _ h; omega)) hW) ?h0 ?hround ?hdone ?hstop
  case hps => intro x hxm; simp only [List.mem_map] at hxm; obtain ⟨v, _, rfl⟩ := hxm; rfl
  case h0 => exact ⟨rfl, rfl, hH4, hH5, hM.mono (fun _ _ hf => hf.elim)⟩
  case hround =>
    intro l k hk mM A hlw hlA hml hJk
    have hk' : k < (xs.filter p).length := by simpa using hk
    obtain rfl : k = 0 := hJk.1
    simp only [List.getElem_map]
    simp only [List.zip_toArray, List.zip_cons_cons, List.zip_nil_right, List.foldl_toArray', List.foldl_cons, List.foldl_nil]
    clear hJk hml
    gi_wp2
    refine ⟨Mod.refl _ _, fun A2 hA2 hrec hJ2 => ?_⟩
    obtain ⟨_, rfl, h4, h5, hmod⟩ := hJ2
    have hc4 := cell_of_one' h4
    have hf4 := free_of_one' h4
    have hc5 := cell_of_one' h5
    have hf5 := free_of_one' h5
    have hs := hmod.size
    have HM : Hid (Mod Wr w A2) := hmod
    have H45 : Hid (A2.heap[w.heap.size]? = some (.cells #[Value.int .i64 (0 : Int)] 3 (0, 0)) ∧ A2.heap[w.heap.size + 1]? = some (.cells #[.bool false] 4 (0, 0))) := ⟨h4, h5⟩
    clear hks hseq hfun hmod hA2 hrec h4 h5 hb1 hb2 hH4 hH5 hM
    gi_wp2
    have hm1 : Mod (fun b => b = w.heap.size ∨ b = w.heap.size + 1) A2 ((A2.setCell ⟨w.heap.size, 0, none⟩ (Value.int .i64 (xs.filter p)[0])).setCell ⟨w.heap.size + 1, 0, none⟩ (.bool true)) := ((Mod.refl _ _).setCell ⟨w.heap.size, 0, none⟩ _ (fun _ => .inl rfl)).setCell ⟨w.heap.size + 1, 0, none⟩ _ (fun _ => .inr rfl)
    refine ⟨_, hm1, fun b hb => .inl hb, rfl, rfl, rfl, ⟨(xs.filter p)[0], List.getElem?_eq_getElem hk', ?_⟩, ?_, ?_⟩
    · refine (Below.heap_setCell _ _ _ _ (by simp)).trans (Boxed.set (B := w.heap.size) _ H45.out.1)
    · exact Boxed.set (B := w.heap.size + 1) _ ((Below.heap_setCell _ _ _ _ (by simp)).trans H45.out.2)
    · exact HM.out.trans' hm1 (fun b hb h => by omega)
  case hdone =>
    rintro d m' B hd hdB hmd ⟨hsub, hmod, ⟨hk, rfl, h4, h5, hmodW⟩, hit⟩
    rw [List.length_map] at hk
    have hc4 := cell_of_one' h4
    have hf4 := free_of_one' h4
    have hc5 := cell_of_one' h5
    have hf5 := free_of_one' h5
    have hs := hmodW.size
    have HP : Hid (∀ x ∈ xs, p x = false) := filter_nil hk
    have HB : Hid (Mod Wr w B ∧ It none B ∧ B.heap[d]? = some (.deferred (some []))) := ⟨hmodW, hit, hdB⟩
    have H45 : Hid (B.heap[w.heap.size]? = some (.cells #[Value.int .i64 (0 : Int)] 3 (0, 0)) ∧ B.heap[w.heap.size + 1]? = some (.cells #[.bool false] 4 (0, 0))) := ⟨h4, h5⟩
    have HI : Hid (ItStab Wr It) := hseq.2.1
    clear hks hseq hfun hmod hmodW hit hk hsub hmd hb1 hb2 hH4 hH5 hM h4 h5 hdB
    gi_wp2
    have hm1 : Mod (fun b => b = w.heap.size ∨ b = w.heap.size + 1) B ((B.setCell ⟨w.heap.size, 0, none⟩ (Value.int .i64 (0 : Int))).setCell ⟨w.heap.size + 1, 0, none⟩ (.bool false)) := ((Mod.refl _ _).setCell ⟨w.heap.size, 0, none⟩ _ (fun _ => .inl rfl)).setCell ⟨w.heap.size + 1, 0, none⟩ _ (fun _ => .inr rfl)
    have g4 : ((B.setCell ⟨w.heap.size, 0, none⟩ (Value.int .i64 (0 : Int))).setCell ⟨w.heap.size + 1, 0, none⟩ (.bool false)).heap[w.heap.size]? = some (.cells #[Value.int .i64 (0 : Int)] 3 (0, 0)) := (Below.heap_setCell _ _ _ _ (by simp)).trans (Boxed.set (B := w.heap.size) _ H45.out.1)
    have g5 : ((B.setCell ⟨w.heap.size, 0, none⟩ (Value.int .i64 (0 : Int))).setCell ⟨w.heap.size + 1, 0, none⟩ (.bool false)).heap[w.heap.size + 1]? = some (.cells #[.bool false] 4 (0, 0)) := Boxed.set (B := w.heap.size + 1) _ ((Below.heap_setCell _ _ _ _ (by simp)).trans H45.out.2)
    generalize (B.setCell ⟨w.heap.size, 0, none⟩ (Value.int .i64 (0 : Int))).setCell ⟨w.heap.size + 1, 0, none⟩ (.bool false) = B2 at hm1 g4 g5 ⊢
    have hm2 : Mod (· = d) B2 (B2.putObj d (.deferred none)) := (Mod.refl _ _).putObj _ _ (fun _ => rfl)
    refine leaves_one (hm1.heap HB.out.2.2 (by omega)) ?_
    have q4 := cell_of_one' (hm2.heap g4 (by omega))
    have q5 := cell_of_one' (hm2.heap g5 (by omega))
    generalize hB3 : B2.putObj d (.deferred none) = B3 at hm2 q4 q5 ⊢
    have hm3 : Mod (fun b => b = w.heap.size ∨ b = w.heap.size + 1 ∨ b = d) B B3 := (hm1.mono (fun b _ h => h.imp id .inl)).trans' hm2 (fun b _ h => .inr (.inr h))
    refine ⟨.tuple #[Value.int .i64 (0 : Int), .bool false], by simp [results, Try.results16, go_sem, q4, q5], HB.out.1.trans' hm3 (fun b hb h => by omega), .inl ⟨rfl, HP.out, HI.out _ _ _ HB.out.2.1 (fun b hb => hm3.block b (by have := hW b hb; omega) (by have := hW b hb; omega))⟩⟩
  case hstop =>
    rintro d m' B c k hk hd hdB hmd ⟨hsub, hmod, ⟨rfl, hk1, rfl, ⟨y, hy, h4⟩, h5, hmodW⟩, ⟨i, hi, hpi, hki, hit⟩⟩
    obtain rfl : k = 0 := by omega
    have hs := hmodW.size
    obtain ⟨hfirst, hget⟩ := kcnt_one hi hpi hki
    rw [hget] at hy
    cases hy
    gi_wp2
    have hm2 : Mod (· = d) B (B.putObj d (.deferred none)) := (Mod.refl _ _).putObj _ _ (fun _ => rfl)
    refine leaves_one hdB ?_
    have q4 := cell_of_one' (hm2.heap h4 (by omega))
    have q5 := cell_of_one' (hm2.heap h5 (by omega))
    generalize hB3 : B.putObj d (.deferred none) = B3 at hm2 q4 q5 ⊢
    refine ⟨.tuple #[Value.int .i64 xs[i], .bool true], by simp [results, Try.results16, go_sem, q4, q5], hmodW.trans' hm2 (fun b hb h => by omega), .inr ⟨i, hi, hpi, hfirst, rfl, hseq.2.1 _ _ _ hit (fun b hb => hm2.block b (by have := hW b hb; omega) (by have := hW b hb; omega))⟩⟩
set_option maxHeartbeats 1000000 in
theorem find_str (f fi : Nat) (cap capi : Array Value) (D Wr Di : Nat → Prop) (It : Option Nat → World → Prop) (xs : List ByteArray) (p : ByteArray → Bool) (w : World)
    (hseq : SeqSpec Try.prog (.func (.func f) #[] cap) D Wr It (xs.map fun x => #[Value.string x]) w) (hfun : PredV Try.prog (.func (.func fi) #[] capi) Di (Value.string) p (· ∈ xs) w) (hDi : ∀ b, Di b → ¬ Wr b) (hDW : ∀ b, D b → ¬ Wr b) :
    Calls Try.prog 52 #[.func (.func f) #[] cap, .func (.func fi) #[] capi] w (RFind (Value.string) (⟨#[]⟩ : ByteArray) p xs Wr w It) := by
  have hW := fun b (h : Wr b) => hseq.1 b (.inr h)
  refine calls_of_FW (ro := none) (n := 0) ?_
  refine callsIn_of_wp_marks Try.func52 rfl trivial ?_
  simp only [Try.ntmps52, List.size_toArray, List.length_cons, List.length_nil, Nat.reduceAdd, Nat.reduceSub, Array.replicate_succ, Array.replicate_zero, List.push_toArray, List.append_toArray, List.nil_append, List.cons_append]
  gi_wp2_with (gi_at_call 105; refine (calls_FW (ro := none) (keep_str _ _ _ rfl rfl rfl rfl)).mono ?_; rintro e B ⟨rfl, rfl⟩)
  generalize hW0 : (w.alloc (.cells #[Value.string (⟨#[]⟩ : ByteArray)] 9)).alloc (.cells #[.bool false] 4) = W0
  have hr4 : W0.heap[w.heap.size]? = some (.cells #[Value.string (⟨#[]⟩ : ByteArray)] 9 (0, 0)) := by rw [← hW0]; exact (Below.heap_alloc _ _ _ (by simp)).trans (World.alloc_heap_new w _)
  have hr5 : W0.heap[w.heap.size + 1]? = some (.cells #[.bool false] 4 (0, 0)) := by
    rw [← hW0]; have := World.alloc_heap_new (w.alloc (.cells #[Value.string (⟨#[]⟩ : ByteArray)] 9)) (.cells #[.bool false] 4); rwa [World.size_alloc] at this
  have hM0 : Mod Nil0 w W0 := by rw [← hW0]; exact ((Mod.refl _ _).alloc _).alloc _
  have hs0 : W0.heap.size = w.heap.size + 2 := by rw [← hW0]; simp
  clear hW0
  have hb1 : ((W0.alloc (.cells #[.func (.func f) #[] cap] 89)).alloc (.cells #[.func (.func fi) #[] capi] 91)).heap[w.heap.size + 1 + 1]? = some (.cells #[.func (.func f) #[] cap] 89 (0, 0)) := by
    rw [show w.heap.size + 1 + 1 = W0.heap.size by omega]; exact (Below.heap_alloc _ _ _ (by simp)).trans (World.alloc_heap_new W0 _)
  have hb2 : ((W0.alloc (.cells #[.func (.func f) #[] cap] 89)).alloc (.cells #[.func (.func fi) #[] capi] 91)).heap[w.heap.size + 1 + 1 + 1]? = some (.cells #[.func (.func fi) #[] capi] 91 (0, 0)) := by
    rw [show w.heap.size + 1 + 1 + 1 = W0.heap.size + 1 by omega]; have := World.alloc_heap_new (W0.alloc (.cells #[.func (.func f) #[] cap] 89)) (.cells #[.func (.func fi) #[] capi] 91); rwa [World.size_alloc] at this
  have hM2 : Mod Nil0 W0 ((W0.alloc (.cells #[.func (.func f) #[] cap] 89)).alloc (.cells #[.func (.func fi) #[] capi] 91)) := ((Mod.refl _ _).alloc _).alloc _
  have hs2 : ((W0.alloc (.cells #[.func (.func f) #[] cap] 89)).alloc (.cells #[.func (.func fi) #[] capi] 91)).heap.size = w.heap.size + 4 := by simp; omega
  generalize hW2 : (W0.alloc (.cells #[.func (.func f) #[] cap] 89)).alloc (.cells #[.func (.func fi) #[] capi] 91) = W2 at hb1 hb2 hM2 hs2 ⊢
  clear hW2
  have hM : Mod Nil0 w W2 := hM0.trans' hM2 (fun _ _ hf => hf)
  have hD : ∀ b, D b → b < w.heap.size := fun b h => hseq.1 b (.inl h)
  have hks := keep1_str (w.heap.size + 1 + 1) (w.heap.size + 1 + 1 + 1) f fi cap capi D Wr Di It xs p W2 (cell_of_one' hb1) (cell_of_one' hb2) (fun h => by have := hW _ h; omega) (fun h => by have := hW _ h; omega)
    (hseq.mod hM (fun _ _ hf => hf)) (hfun.later hM.size (fun b hb => hM.block b (hfun.1 b hb) (fun hf => hf))) hDi hDW
  have hH4 : W2.heap[w.heap.size]? = some (.cells #[Value.string (⟨#[]⟩ : ByteArray)] 9 (0, 0)) := hM2.heap hr4 (fun hf => hf)
  have hH5 : W2.heap[w.heap.size + 1]? = some (.cells #[.bool false] 4 (0, 0)) := hM2.heap hr5 (fun hf => hf)
  have hz : w.heap.size + 4 ≤ W2.heap.size := by omega
  clear hs0 hs2 hM0 hM2 hr4 hr5
  refine wpIn_range0 rfl hks (FindJ (Value.string) (⟨#[]⟩ : ByteArray) 9 Wr w) (FindX (Value.string) 9 (xs.filter p) Wr w) (fun b => b = w.heap.size ∨ b = w.heap.size + 1) ?hps (FindJ.stab W2.heap.size (by omega)) (FindX.stab W2.heap.size (by omega))
    (FindJ.rng 0 (fun b hb => by rcases hb with rfl | rfl | h | h <;> first | omega | (have := hD _ h; omega) | (have := hfun.1 _ h; omega)) hW) ?h0 ?hround ?hdone ?hstop
  case hps => intro x hxm; simp only [List.mem_map] at hxm; obtain ⟨v, _, rfl⟩ := hxm; rfl
  case h0 => exact ⟨rfl, rfl, hH4, hH5, hM.mono (fun _ _ hf => hf.elim)⟩
  case hround =>
    intro l k hk mM A hlw hlA hml hJk
    have hk' : k < (xs.filter p).length := by simpa using hk
    obtain rfl : k = 0 := hJk.1
    simp only [List.getElem_map]
    simp only [List.zip_toArray, List.zip_cons_cons, List.zip_nil_right, List.foldl_toArray', List.foldl_cons, List.foldl_nil]
    clear hJk hml
    gi_wp2
    refine ⟨Mod.refl _ _, fun A2 hA2 hrec hJ2 => ?_⟩
    obtain ⟨_, rfl, h4, h5, hmod⟩ := hJ2
    have hc4 := cell_of_one' h4
    have hf4 := free_of_one' h4
    have hc5 := cell_of_one' h5
    have hf5 := free_of_one' h5
    have hs := hmod.size
    have HM : Hid (Mod Wr w A2) := hmod
    have H45 : Hid (A2.heap[w.heap.size]? = some (.cells #[Value.string (⟨#[]⟩ : ByteArray)] 9 (0, 0)) ∧ A2.heap[w.heap.size + 1]? = some (.cells #[.bool false] 4 (0, 0))) := ⟨h4, h5⟩
    clear hks hseq hfun hmod hA2 hrec h4 h5 hb1 hb2 hH4 hH5 hM
    gi_wp2
    have hm1 : Mod (fun b => b = w.heap.size ∨ b = w.heap.size + 1) A2 ((A2.setCell ⟨w.heap.size, 0, none⟩ (Value.string (xs.filter p)[0])).setCell ⟨w.heap.size + 1, 0, none⟩ (.bool true)) := ((Mod.refl _ _).setCell ⟨w.heap.size, 0, none⟩ _ (fun _ => .inl rfl)).setCell ⟨w.heap.size + 1, 0, none⟩ _ (fun _ => .inr rfl)
    refine ⟨_, hm1, fun b hb => .inl hb, rfl, rfl, rfl, ⟨(xs.filter p)[0], List.getElem?_eq_getElem hk', ?_⟩, ?_, ?_⟩
    · refine (Below.heap_setCell _ _ _ _ (by simp)).trans (Boxed.set (B := w.heap.size) _ H45.out.1)
    · exact Boxed.set (B := w.heap.size + 1) _ ((Below.heap_setCell _ _ _ _ (by simp)).trans H45.out.2)
    · exact HM.out.trans' hm1 (fun b hb h => by omega)
  case hdone =>
    rintro d m' B hd hdB hmd ⟨hsub, hmod, ⟨hk, rfl, h4, h5, hmodW⟩, hit⟩
    rw [List.length_map] at hk
    have hc4 := cell_of_one' h4
    have hf4 := free_of_one' h4
    have hc5 := cell_of_one' h5
    have hf5 := free_of_one' h5
    have hs := hmodW.size
    have HP : Hid (∀ x ∈ xs, p x = false) := filter_nil hk
    have HB : Hid (Mod Wr w B ∧ It none B ∧ B.heap[d]? = some (.deferred (some []))) := ⟨hmodW, hit, hdB⟩
    have H45 : Hid (B.heap[w.heap.size]? = some (.cells #[Value.string (⟨#[]⟩ : ByteArray)] 9 (0, 0)) ∧ B.heap[w.heap.size + 1]? = some (.cells #[.bool false] 4 (0, 0))) := ⟨h4, h5⟩
    have HI : Hid (ItStab Wr It) := hseq.2.1
    clear hks hseq hfun hmod hmodW hit hk hsub hmd hb1 hb2 hH4 hH5 hM h4 h5 hdB
    gi_wp2
    have hm1 : Mod (fun b => b = w.heap.size ∨ b = w.heap.size + 1) B ((B.setCell ⟨w.heap.size, 0, none⟩ (Value.string (⟨#[]⟩ : ByteArray))).setCell ⟨w.heap.size + 1, 0, none⟩ (.bool false)) := ((Mod.refl _ _).setCell ⟨w.heap.size, 0, none⟩ _ (fun _ => .inl rfl)).setCell ⟨w.heap.size + 1, 0, none⟩ _ (fun _ => .inr rfl)
    have g4 : ((B.setCell ⟨w.heap.size, 0, none⟩ (Value.string (⟨#[]⟩ : ByteArray))).setCell ⟨w.heap.size + 1, 0, none⟩ (.bool false)).heap[w.heap.size]? = some (.cells #[Value.string (⟨#[]⟩ : ByteArray)] 9 (0, 0)) := (Below.heap_setCell _ _ _ _ (by simp)).trans (Boxed.set (B := w.heap.size) _ H45.out.1)
    have g5 : ((B.setCell ⟨w.heap.size, 0, none⟩ (Value.string (⟨#[]⟩ : ByteArray))).setCell ⟨w.heap.size + 1, 0, none⟩ (.bool false)).heap[w.heap.size + 1]? = some (.cells #[.bool false] 4 (0, 0)) := Boxed.set (B := w.heap.size + 1) _ ((Below.heap_setCell _ _ _ _ (by simp)).trans H45.out.2)
    generalize (B.setCell ⟨w.heap.size, 0, none⟩ (Value.string (⟨#[]⟩ : ByteArray))).setCell ⟨w.heap.size + 1, 0, none⟩ (.bool false) = B2 at hm1 g4 g5 ⊢
    have hm2 : Mod (· = d) B2 (B2.putObj d (.deferred none)) := (Mod.refl _ _).putObj _ _ (fun _ => rfl)
    refine leaves_one (hm1.heap HB.out.2.2 (by omega)) ?_
    have q4 := cell_of_one' (hm2.heap g4 (by omega))
    have q5 := cell_of_one' (hm2.heap g5 (by omega))
    generalize hB3 : B2.putObj d (.deferred none) = B3 at hm2 q4 q5 ⊢
    have hm3 : Mod (fun b => b = w.heap.size ∨ b = w.heap.size + 1 ∨ b = d) B B3 := (hm1.mono (fun b _ h => h.imp id .inl)).trans' hm2 (fun b _ h => .inr (.inr h))
    refine ⟨.tuple #[Value.string (⟨#[]⟩ : ByteArray), .bool false], by simp [results, Try.results52, go_sem, q4, q5], HB.out.1.trans' hm3 (fun b hb h => by omega), .inl ⟨rfl, HP.out, HI.out _ _ _ HB.out.2.1 (fun b hb => hm3.block b (by have := hW b hb; omega) (by have := hW b hb; omega))⟩⟩
  case hstop =>
    rintro d m' B c k hk hd hdB hmd ⟨hsub, hmod, ⟨rfl, hk1, rfl, ⟨y, hy, h4⟩, h5, hmodW⟩, ⟨i, hi, hpi, hki, hit⟩⟩
    obtain rfl : k = 0 := by omega
    have hs := hmodW.size
    obtain ⟨hfirst, hget⟩ := kcnt_one hi hpi hki
    rw [hget] at hy
    cases hy
    gi_wp2
    have hm2 : Mod (· = d) B (B.putObj d (.deferred none)) := (Mod.refl _ _).putObj _ _ (fun _ => rfl)
    refine leaves_one hdB ?_
    have q4 := cell_of_one' (hm2.heap h4 (by omega))
    have q5 := cell_of_one' (hm2.heap h5 (by omega))
    generalize hB3 : B.putObj d (.deferred none) = B3 at hm2 q4 q5 ⊢
    refine ⟨.tuple #[Value.string xs[i], .bool true], by simp [results, Try.results52, go_sem, q4, q5], hmodW.trans' hm2 (fun b hb h => by omega), .inr ⟨i, hi, hpi, hfirst, rfl, hseq.2.1 _ _ _ hit (fun b hb => hm2.block b (by have := hW b hb; omega) (by have := hW b hb; omega))⟩⟩
end Go.Proofs.Ytobioeehfigmcaa
