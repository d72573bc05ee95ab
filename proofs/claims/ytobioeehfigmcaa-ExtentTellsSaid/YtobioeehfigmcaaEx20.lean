/- The law ExtentTells: the walk. No condition but the slice's bounds. -/
import Derived.Test.YtobioeehfigmcaaEx19
set_option linter.unusedSimpArgs false
set_option linter.unusedVariables false
set_option maxRecDepth 100000
namespace Go.Proofs.Ytobioeehfigmcaa
open Go Go.RowKit Go.Shelf
attribute [local go_sem] Oper.semAt_some

theorem callV_of {f : Nat} {args : Array Value} {w : World} {R : Ending → World → Prop} (he : Enters Try.prog f) (h : Calls Try.prog f args w R) : CallV Try.prog (.func (.func f) #[] #[]) args w R :=
  .fn _ _ _ _ _ he (by simpa using h)
/-- What stands in the law's boxes and in its list, whatever new memory was laid. -/
def Law15 (w : World) (A : Option Addr) (c : Nat) (xs : List (Int × Int)) (lo hi : Int) (B : World) : Prop :=
  B.cell? ⟨w.heap.size, 0, none⟩ = some (.slice A xs.length c) ∧ B.cell? ⟨w.heap.size + 1, 0, none⟩ = some (.int .i64 lo) ∧ B.cell? ⟨w.heap.size + 1, 1, none⟩ = some (.int .i64 hi) ∧ RowK 2 encE (fun b => b < w.heap.size) B A xs ∧ w.heap.size + 2 ≤ B.heap.size ∧ Mod Nil0 w B
theorem Law15.next {w B C : World} {A : Option Addr} {c : Nat} {xs : List (Int × Int)} {lo hi : Int} (h : Law15 w A c xs lo hi B) (hm : Mod Nil0 B C) : Law15 w A c xs lo hi C := by
  obtain ⟨h1, h2, h3, h4, h5, h6⟩ := h
  exact ⟨hm.cell h1 (fun h => h), hm.cell h2 (fun h => h), hm.cell h3 (fun h => h), h4.at hm (fun b hb => ⟨by omega, fun h => h⟩), by have := hm.size; omega, h6.trans hm⟩
theorem Law15.start {w : World} {A : Option Addr} {c : Nat} {xs : List (Int × Int)} {lo hi : Int} (hr : RowK 2 encE (fun b => b < w.heap.size) w A xs) :
    Law15 w A c xs lo hi ((w.alloc (.cells #[.slice A xs.length c] 51)).alloc (.cells #[.int .i64 lo, .int .i64 hi] 23)) := by
  have h1 := (Below.heap_alloc (w.alloc (.cells #[.slice A xs.length c] 51)) (.cells #[.int .i64 lo, .int .i64 hi] 23) w.heap.size (by simp)).trans (World.alloc_heap_new w _)
  have h2 := World.alloc_heap_new (w.alloc (.cells #[.slice A xs.length c] 51)) (.cells #[.int .i64 lo, .int .i64 hi] 23)
  rw [World.size_alloc] at h2
  have hm := two_mod w (.cells #[.slice A xs.length c] 51) (.cells #[.int .i64 lo, .int .i64 hi] 23)
  have hs := two_size w (.cells #[.slice A xs.length c] 51) (.cells #[.int .i64 lo, .int .i64 hi] 23)
  generalize (w.alloc (.cells #[.slice A xs.length c] 51)).alloc (.cells #[.int .i64 lo, .int .i64 hi] 23) = B at h1 h2 hm hs ⊢
  exact ⟨cell_of_one' h1, by simp [World.cell?, h2], by simp [World.cell?, h2], hr.at hm (fun b hb => ⟨hb, fun h => h⟩), by omega, hm⟩

theorem row2_start {v B C : World} {A A' : Option Addr} {xs : List (Int × Int)} (h : RowK 2 encE (fun b => v.heap.size ≤ b ∧ b < B.heap.size) B A xs) (hm : Mod Nil0 B C) (h' : RowK 2 encE (fun b => B.heap.size ≤ b ∧ b < C.heap.size) C A' xs) :
    RowK 2 encE (fun b => b < C.heap.size) C A xs ∧ RowK 2 encE (fun b => b < C.heap.size) C A' xs :=
  ⟨(h.at hm (fun b hb => ⟨hb.2, fun h => h⟩)).mono (fun b hb => by have := hm.size; have := hb.2; omega), h'.mono (fun b hb => hb.2)⟩
theorem row2_next {B C : World} {A A' : Option Addr} {xs ys : List (Int × Int)} (h : RowK 2 encE (fun b => b < B.heap.size) B A xs ∧ RowK 2 encE (fun b => b < B.heap.size) B A' ys) (hm : Mod Nil0 B C) :
    RowK 2 encE (fun b => b < C.heap.size) C A xs ∧ RowK 2 encE (fun b => b < C.heap.size) C A' ys :=
  ⟨(h.1.at hm (fun b hb => ⟨hb, fun h => h⟩)).mono (fun b hb => Nat.lt_of_lt_of_le hb hm.size), (h.2.at hm (fun b hb => ⟨hb, fun h => h⟩)).mono (fun b hb => Nat.lt_of_lt_of_le hb hm.size)⟩
theorem free_both (xs : List (Int × Int)) (lo hi : Int) : ∃ (fs : List (Int × Int)) (fe : Int), (∀ w e B, RFree xs lo hi w e B → RTup fs fe w e B) ∧
    (∀ w e B, ((FreeArg xs lo hi ∧ RTup (Ext.freeR xs lo (hi - lo).toNat) 0 w e B) ∨ (¬ FreeArg xs lo hi ∧ RTup [] 2 w e B)) → RTup fs fe w e B) := by
  rcases Classical.em (FreeArg xs lo hi) with h | h
  · refine ⟨Ext.freeR xs lo (hi - lo).toNat, 0, ?_, ?_⟩
    · rintro w e B ⟨rs, h1, h2, ⟨_, h3⟩ | ⟨h3, _⟩⟩
      · rw [Ext.free_eq h1 h2 h.1, show lo + ((hi - lo).toNat : Int) = hi by have := h.2.2.1; omega]; exact h3
      · exact absurd h h3
    · rintro w e B (⟨_, h3⟩ | ⟨h3, _⟩)
      · exact h3
      · exact absurd h h3
  · refine ⟨[], 2, ?_, ?_⟩
    · rintro w e B ⟨rs, h1, h2, ⟨h3, _⟩ | ⟨_, h3⟩⟩
      · exact absurd h3 h
      · exact h3
    · rintro w e B (⟨h3, _⟩ | ⟨_, h3⟩)
      · exact absurd h3 h
      · exact h3
theorem ab_false {xs : List (Int × Int)} (h : Ext.apartB xs = false) : ¬ Ext.apart xs := by unfold Ext.apartB at h; simpa using h
/-- Behind the law's three counters. -/
theorem tail15 {w B : World} {A : Option Addr} {c : Nat} {xs : List (Int × Int)} {lo hi : Int} (h : Law15 w A c xs lo hi B) :
    Law15 w A c xs lo hi (((B.alloc (.cells #[.int .i64 0] 3)).alloc (.cells #[.int .i64 0] 3)).alloc (.cells #[.bool true] 4)) ∧
      ClBox B.heap.size (B.heap.size + 1) (B.heap.size + 1 + 1) 0 0 (((B.alloc (.cells #[.int .i64 0] 3)).alloc (.cells #[.int .i64 0] 3)).alloc (.cells #[.bool true] 4)) ∧
      (((B.alloc (.cells #[.int .i64 0] 3)).alloc (.cells #[.int .i64 0] 3)).alloc (.cells #[.bool true] 4)).heap.size = B.heap.size + 3 := by
  have h1 := World.alloc_heap_new B (.cells #[.int .i64 0] 3)
  have h2 := World.alloc_heap_new (B.alloc (.cells #[.int .i64 0] 3)) (.cells #[.int .i64 0] 3)
  have h3 := World.alloc_heap_new ((B.alloc (.cells #[.int .i64 0] 3)).alloc (.cells #[.int .i64 0] 3)) (.cells #[.bool true] 4)
  simp only [World.size_alloc] at h2 h3
  refine ⟨h.next ((((Mod.refl _ _).alloc _).alloc _).alloc _), ⟨?_, ?_, h3⟩, by simp⟩
  · exact (Below.heap_alloc _ _ _ (by simp; omega)).trans ((Below.heap_alloc _ _ _ (by simp)).trans h1)
  · exact (Below.heap_alloc _ _ _ (by simp)).trans h2
theorem tail15a {w B W B2 : World} {A : Option Addr} {c : Nat} {xs : List (Int × Int)} {lo hi : Int} {f : Nat} {cap : Array Value} (h : Law15 w A c xs lo hi W ∧ ClBox B.heap.size (B.heap.size + 1) (B.heap.size + 1 + 1) 0 0 W ∧ W.heap.size = B.heap.size + 3) (hm : Mod Nil0 W B2)
    (hs : SeqSpec Try.prog (.func (.func f) #[] cap) (fun b => Nil0 b ∨ (W.heap.size ≤ b ∧ b < B2.heap.size)) Nil0 (fun _ _ => True) ((Ext.secsA xs).map fun n => #[.int .i64 n]) B2) :
    Law15 w A c xs lo hi B2 ∧ (xs.length ≤ 40 → w.heap.size + 2 ≤ B.heap.size → CallV Try.prog (.func (.func f) #[] cap) #[.func (.func 37) #[] #[.pointer (some ⟨B.heap.size, 0, none⟩), .pointer (some ⟨w.heap.size, 0, none⟩), .pointer (some ⟨B.heap.size + 1, 0, none⟩), .pointer (some ⟨B.heap.size + 1 + 1, 0, none⟩)]] B2
      fun e C => (∃ r, e = .returned r) ∧ Mod (ClM B.heap.size (B.heap.size + 1) (B.heap.size + 1 + 1)) B2 C ∧ ∃ i k : Nat, ClBox B.heap.size (B.heap.size + 1) (B.heap.size + 1 + 1) i k C ∧ (¬ Ext.apart xs → i = 0 ∧ k = 0)) := by
  obtain ⟨h1, ⟨b1, b2, b3⟩, h3⟩ := h
  have h2 := h1.next hm
  refine ⟨h2, fun h40 hw => ?_⟩
  exact ask15_run f cap _ _ _ _ _ A c (fun b => b < w.heap.size) xs B2 hs ⟨hm.heap b1 (fun h => h), hm.heap b2 (fun h => h), hm.heap b3 (fun h => h)⟩ h2.1 h2.2.2.2.1 (fun b hb => by have := h2.2.2.2.2.1; omega)
    (by omega) (by omega) (by omega) (by unfold ClM; omega) (fun b hb => by unfold ClM; omega) (fun b hb h => h.elim (fun h => h) (fun h => by have := h.1; unfold ClM at hb; omega)) h40
theorem tail15b {w B B2 C : World} {A : Option Addr} {c : Nat} {xs : List (Int × Int)} {lo hi : Int} (h : Law15 w A c xs lo hi B2) (hm : Mod (ClM B.heap.size (B.heap.size + 1) (B.heap.size + 1 + 1)) B2 C) (hw : w.heap.size + 2 ≤ B.heap.size) : Law15 w A c xs lo hi C := by
  have hn : ∀ b, b < w.heap.size + 2 → ¬ ClM B.heap.size (B.heap.size + 1) (B.heap.size + 1 + 1) b := fun b hb h => by unfold ClM at h; omega
  obtain ⟨h1, h2, h3, h4, h5, h6⟩ := h
  exact ⟨hm.cell h1 (hn _ (by simp)), hm.cell h2 (hn _ (by simp)), hm.cell h3 (hn _ (by simp)), h4.at hm (fun b hb => ⟨by omega, hn _ (by omega)⟩), by have := hm.size; omega, h6.trans' hm (fun b hb h => hn _ (by omega) h)⟩
set_option maxHeartbeats 8000000 in
theorem walk15 (A : Option Addr) (c : Nat) (xs : List (Int × Int)) (lo hi n : Int) (w : World) (hr : RowK 2 encE (fun b => b < w.heap.size) w A xs) (hcap : xs.length ≤ c) (hn2 : n ≤ 9223372036854775807) :
    Calls Try.prog 4 #[.slice A xs.length c, .agg #[.int .i64 lo, .int .i64 hi], .int .i64 n] w fun e B => e = .returned (.bool true) ∧ Mod Nil0 w B := by
  have HL0 := Lib.hid (Law15.start (c := c) (lo := lo) (hi := hi) hr)
  have hxl := hr.1
  clear hr
  refine calls_of_FW (ro := none) (n := 0) ?_
  refine callsIn_of_wp Try.func4 rfl trivial ?_
  simp only [Try.ntmps4, List.size_toArray, List.length_cons, List.length_nil, Nat.reduceAdd, Nat.reduceSub, Array.replicate_succ, Array.replicate_zero, List.push_toArray, List.append_toArray, List.nil_append, List.cons_append]
  by_cases h40 : xs.length > 40
  · gi_wp2_with (gi_at_call 26; refine (calls_FW (ro := none) (basis15 _)).mono ?_; rintro e B1 ⟨rfl, hm1⟩; have HL1 := Lib.hid (HL0.out.next hm1); have hc3 := HL1.out.1; clear hm1)
    go_ret
    exact ⟨rfl, HL1.out.2.2.2.2.2⟩
  have h41 : xs.length ≤ 40 := by omega
  have hdec : decide ((xs.length : Int) > 40) = false := by simp; omega
  have hmm : (Try.prog).follows .mixedOrders = true := by kernel_rfl
  obtain ⟨ts, hts⟩ : ∃ ts, ts = takeOut xs n := ⟨_, rfl⟩
  obtain ⟨te, hte⟩ : ∃ te, te = takeErr xs n := ⟨_, rfl⟩
  have HT := Lib.hid (And.intro hts hte)
  clear hts hte
  gi_wp2_with (first
    | (gi_at_call 26; refine (calls_FW (ro := none) (basis15 _)).mono ?_; rintro e B1 ⟨rfl, hm1⟩; have HL1 := Lib.hid (HL0.out.next hm1); have hc3 := HL1.out.1; clear hm1)
    | (gi_at_call 27; refine (calls_FW (ro := none) (take_ext A c _ xs n _ HL1.out.2.2.2.1 (fun b hb => by have := HL1.out.2.2.2.2.1; omega) h41 hn2)).mono ?_; rw [← HT.out.1, ← HT.out.2]; go_loud (rintro e B2 ⟨A2, c2, rfl, hm2, hr2⟩; have HL2 := Lib.hid (HL1.out.next hm2); have hc4 := HL2.out.1; have HR2 := Lib.hid hr2; clear hr2 hm2))
    | (gi_at_call 28; refine (calls_FW (ro := none) (refTake A c _ xs n _ HL2.out.2.2.2.1 (fun b hb => by have := HL2.out.2.2.2.2.1; omega) h41 hcap hn2)).mono ?_; rw [← HT.out.1, ← HT.out.2]; go_loud (rintro e B3 ⟨A3, c3, rfl, hm3, hr3⟩; have HL3 := Lib.hid (HL2.out.next hm3); have HR3 := Lib.hid (row2_start HR2.out hm3 hr3); clear hr3 hm3)))
  obtain ⟨ab, hab⟩ : ∃ ab, ab = Ext.apartB xs := ⟨_, rfl⟩
  obtain ⟨tot, htot⟩ : ∃ tot, tot = Ext.total xs := ⟨_, rfl⟩
  have HAB := Lib.hid (And.intro hab htot)
  clear hab htot
  have hD := fun (B : World) (h : Law15 w A c xs lo hi B) (b : Nat) (hb : b < w.heap.size) => show b < B.heap.size from by have := h.2.2.2.2.1; omega
  have HD := Lib.hid hD
  clear hD
  have HLa := Lib.hid (HL3.out.next ((Mod.refl _ _).drew))
  refine wpIn_regionI (fun w' => w'.cell? ⟨w.heap.size, 0, none⟩ = some (.slice A xs.length c)) hmm ?_
  have HI0 : B3.drew.cell? ⟨w.heap.size, 0, none⟩ = some (.slice A xs.length c) := HLa.out.1
  refine takeI (i := 0) (v := .slice A xs.length c) rfl (by kernel_rfl) (by kernel_rfl) (by kernel_rfl) (fun _ _ _ h => h) (.inl ⟨rfl, fun w' hI => by have h1 := hI; go_simp⟩) HI0 ?_
  refine takeI (i := 2) (v := .slice A xs.length c) rfl (by kernel_rfl) (by kernel_rfl) (by kernel_rfl) (fun _ _ _ h => h) (.inl ⟨rfl, fun w' hI => by have h1 := hI; go_simp⟩) HI0 ?_
  simp only [Act.put, List.getElem_toArray, List.getElem_cons_succ, List.getElem_cons_zero, List.setIfInBounds_toArray, List.set_cons_succ, List.set_cons_zero]
  refine callI (i := 1) (by kernel_rfl) rfl rfl (v := .func (.func 29) #[] #[]) (argl := [.slice A xs.length c]) rfl rfl ((callV_of (enters_of Try.func29 (by kernel_rfl) rfl) (apart_ext A c _ xs _ HLa.out.2.2.2.1 (HD.out _ HLa.out) (by omega))).mono ?_)
  rw [← HAB.out.1]
  rintro e C1 ⟨rfl, hm⟩
  have HLb := Lib.hid (HLa.out.next hm)
  have HRa := Lib.hid (row2_next (row2_next HR3.out ((Mod.refl _ _).drew)) hm); clear hm HR3
  refine ⟨HLb.out.1, ?_⟩
  simp only [Act.put, List.getElem_toArray, List.getElem_cons_succ, List.getElem_cons_zero, List.setIfInBounds_toArray, List.set_cons_succ, List.set_cons_zero]
  refine callI (i := 3) (by kernel_rfl) rfl rfl (v := .func (.func 30) #[] #[]) (argl := [.slice A xs.length c]) rfl rfl ((callV_of (enters_of Try.func30 (by kernel_rfl) rfl) (refApart A c _ xs _ HLb.out.2.2.2.1 (HD.out _ HLb.out) h41 hcap)).mono ?_)
  rw [← HAB.out.1]
  rintro e C2 ⟨rfl, hm⟩
  have HLc := Lib.hid (HLb.out.next hm)
  have HRb := Lib.hid (row2_next HRa.out hm); clear hm HLb HRa
  refine ⟨HLc.out.1, ?_⟩
  simp only [Act.put, List.getElem_toArray, List.getElem_cons_succ, List.getElem_cons_zero, List.setIfInBounds_toArray, List.set_cons_succ, List.set_cons_zero]
  refine nextI (i := 4) (v := .bool false) (by kernel_rfl) rfl (by kernel_rfl) (.inl ⟨rfl, fun w' hI => by go_simp⟩) HLc.out.1 ?_
  refine nextI (i := 5) (v := .bool false) (by kernel_rfl) rfl (by kernel_rfl) (.inl ⟨rfl, fun w' hI => by go_simp⟩) HLc.out.1 ?_
  simp only [Act.put, List.getElem_toArray, List.getElem_cons_succ, List.getElem_cons_zero, List.setIfInBounds_toArray, List.set_cons_succ, List.set_cons_zero]
  refine takeI (i := 6) (v := .slice A xs.length c) rfl (by kernel_rfl) (by kernel_rfl) (by kernel_rfl) (fun _ _ _ h => h) (.inl ⟨rfl, fun w' hI => by have h1 := hI; go_simp⟩) HLc.out.1 ?_
  refine takeI (i := 8) (v := .slice A xs.length c) rfl (by kernel_rfl) (by kernel_rfl) (by kernel_rfl) (fun _ _ _ h => h) (.inl ⟨rfl, fun w' hI => by have h1 := hI; go_simp⟩) HLc.out.1 ?_
  simp only [Act.put, List.getElem_toArray, List.getElem_cons_succ, List.getElem_cons_zero, List.setIfInBounds_toArray, List.set_cons_succ, List.set_cons_zero]
  refine callI (i := 7) (by kernel_rfl) rfl rfl (v := .func (.func 31) #[] #[]) (argl := [.slice A xs.length c]) rfl rfl ((callV_of (enters_of Try.func31 (by kernel_rfl) rfl) (total_ext A c _ xs _ HLc.out.2.2.2.1 (HD.out _ HLc.out) h41)).mono ?_)
  rw [← HAB.out.2]
  rintro e C3 ⟨rfl, hm⟩
  have HLd := Lib.hid (HLc.out.next hm)
  have HRc := Lib.hid (row2_next HRb.out hm); clear hm HLc HRb
  refine ⟨HLd.out.1, ?_⟩
  simp only [Act.put, List.getElem_toArray, List.getElem_cons_succ, List.getElem_cons_zero, List.setIfInBounds_toArray, List.set_cons_succ, List.set_cons_zero]
  refine callI (i := 9) (by kernel_rfl) rfl rfl (v := .func (.func 32) #[] #[]) (argl := [.slice A xs.length c]) rfl rfl ((callV_of (enters_of Try.func32 (by kernel_rfl) rfl) (refTotal A c _ xs _ HLd.out.2.2.2.1 (HD.out _ HLd.out) h41 hcap)).mono ?_)
  rw [← HAB.out.2]
  rintro e C4 ⟨rfl, hm⟩
  have HLe := Lib.hid (HLd.out.next hm)
  have HRS := Lib.hid (row2_next HRc.out hm); clear hm HLd HRc
  refine ⟨HLe.out.1, ?_⟩
  simp only [Act.put, List.getElem_toArray, List.getElem_cons_succ, List.getElem_cons_zero, List.setIfInBounds_toArray, List.set_cons_succ, List.set_cons_zero]
  refine nextI (i := 10) (v := .bool false) (by kernel_rfl) rfl (by kernel_rfl) (.inl ⟨rfl, fun w' hI => by go_simp⟩) HLe.out.1 ?_
  refine nextI (i := 11) (v := .bool false) (by kernel_rfl) rfl (by kernel_rfl) (.inl ⟨rfl, fun w' hI => by go_simp⟩) HLe.out.1 ?_
  refine nextI (i := 12) (v := .bool false) (by kernel_rfl) rfl (by kernel_rfl) (.inl ⟨rfl, fun w' hI => by go_simp⟩) HLe.out.1 ?_
  simp only [Act.put, List.getElem_toArray, List.getElem_cons_succ, List.getElem_cons_zero, List.setIfInBounds_toArray, List.set_cons_succ, List.set_cons_zero]
  refine takeI (i := 13) (v := .slice A2 ts.length c2) rfl (by kernel_rfl) (by kernel_rfl) (by kernel_rfl) (fun _ _ _ h => h) (.inl ⟨rfl, fun w' hI => by go_simp⟩) HLe.out.1 ?_
  refine takeI (i := 14) (v := .slice A3 ts.length c3) rfl (by kernel_rfl) (by kernel_rfl) (by kernel_rfl) (fun _ _ _ h => h) (.inl ⟨rfl, fun w' hI => by go_simp⟩) HLe.out.1 ?_
  simp only [Act.put, List.getElem_toArray, List.getElem_cons_succ, List.getElem_cons_zero, List.setIfInBounds_toArray, List.set_cons_succ, List.set_cons_zero]
  refine callI (i := 15) (by kernel_rfl) rfl rfl (v := .func (.func 33) #[] #[]) (argl := [.slice A2 ts.length c2, .slice A3 ts.length c3]) rfl rfl ((callV_of (enters_of Try.func33 (by kernel_rfl) rfl) (same_ext A2 A3 c2 c3 (fun b => b < C4.heap.size) ts ts C4 HRS.out.1 HRS.out.2)).mono ?_)
  rintro e C5 ⟨he, hm⟩
  rw [show decide (ts = ts) = true by simp] at he
  subst he
  have HLf := Lib.hid (HLe.out.next hm); clear hm HLe HRS
  refine ⟨HLf.out.1, ?_⟩
  simp only [Act.put, List.getElem_toArray, List.getElem_cons_succ, List.getElem_cons_zero, List.setIfInBounds_toArray, List.set_cons_succ, List.set_cons_zero]
  refine nextI (i := 16) (v := .bool false) (by kernel_rfl) rfl (by kernel_rfl) (.inl ⟨rfl, fun w' hI => by go_simp⟩) HLf.out.1 ?_
  refine nextI (i := 17) (v := .bool false) (by kernel_rfl) rfl (by kernel_rfl) (.inl ⟨rfl, fun w' hI => by go_simp⟩) HLf.out.1 ?_
  refine nextI (i := 18) (v := .bool false) (by kernel_rfl) rfl (by kernel_rfl) (.inl ⟨rfl, fun w' hI => by go_simp⟩) HLf.out.1 ?_
  simp only [Act.put, List.getElem_toArray, List.getElem_cons_succ, List.getElem_cons_zero, List.setIfInBounds_toArray, List.set_cons_succ, List.set_cons_zero]
  refine takeI (i := 19) (v := .int .i64 te) rfl (by kernel_rfl) (by kernel_rfl) (by kernel_rfl) (fun _ _ _ h => h) (.inl ⟨rfl, fun w' hI => by go_simp⟩) HLf.out.1 ?_
  refine takeI (i := 20) (v := .int .i64 te) rfl (by kernel_rfl) (by kernel_rfl) (by kernel_rfl) (fun _ _ _ h => h) (.inl ⟨rfl, fun w' hI => by go_simp⟩) HLf.out.1 ?_
  simp only [Act.put, List.getElem_toArray, List.getElem_cons_succ, List.getElem_cons_zero, List.setIfInBounds_toArray, List.set_cons_succ, List.set_cons_zero]
  refine nextI (i := 21) (v := .bool false) (by kernel_rfl) rfl (by kernel_rfl) (.inl ⟨rfl, fun w' hI => by go_simp⟩) HLf.out.1 ?_
  refine nextI (i := 22) (v := .bool false) (by kernel_rfl) rfl (by kernel_rfl) (.inl ⟨rfl, fun w' hI => by go_simp⟩) HLf.out.1 ?_
  refine doneI (by kernel_rfl) ?_ _
  simp only [Exit.then, Act.put, List.getElem_toArray, List.getElem_cons_succ, List.getElem_cons_zero, List.setIfInBounds_toArray, List.set_cons_succ, List.set_cons_zero]
  gi_wp2
  have hb1 := HLf.out.2.1
  have hb2 := HLf.out.2.2.1
  clear HI0 hc3 hc4 hdec hmm h40
  gi_quiet (fail)
  have HLg := Lib.hid (HLf.out.next ((Mod.refl _ C5).drewN nq))
  clear hb1 hb2 HLf
  generalize C5.drewN nq = G at HLg ⊢
  obtain ⟨fs, fe, hfb⟩ := free_both xs lo hi
  have HFB := Lib.hid hfb
  clear hfb
  by_cases hz1 : lo < 0
  · have hsm : lo < 0 ∨ lo > hi ∨ hi ≤ 3000 := by omega
    have HSm := Lib.hid hsm
    clear hsm
    have hc5 := HLg.out.1
    gi_wp2_with (first
      | (gi_at_call 34; refine (calls_FW (ro := none) (free_ext A c _ xs lo hi _ HLg.out.2.2.2.1 (HD.out _ HLg.out) h41)).mono ?_; go_loud (rintro e B6 h6; obtain ⟨A6, c6, rfl, hm6, hr6⟩ := HFB.out.1 _ _ _ h6; have HL6 := Lib.hid (HLg.out.next hm6); have hc6 := HL6.out.1; have HR6 := Lib.hid hr6; clear h6 hm6 hr6))
      | (gi_at_call 35; refine (calls_FW (ro := none) (refFree A c _ xs lo hi _ HL6.out.2.2.2.1 (HD.out _ HL6.out) h41 hcap HSm.out)).mono ?_; go_loud (rintro e B7 h7; obtain ⟨A7, c7, rfl, hm7, hr7⟩ := HFB.out.2 _ _ _ h7; have HL7 := Lib.hid (HL6.out.next hm7); have HR7 := Lib.hid (row2_start HR6.out hm7 hr7); clear h7 hm7 hr7))
      | (gi_at_call 33; refine (calls_FW (ro := none) (same_ext A6 A7 c6 c7 (fun b => b < B7.heap.size) fs fs B7 HR7.out.1 HR7.out.2)).mono ?_; go_loud (rintro e B8 ⟨he, hm8⟩; rw [show decide (fs = fs) = true by simp] at he; subst he; have HL8 := Lib.hid (HL7.out.next hm8); have hc8 := HL8.out.1; have HT9 := Lib.hid (tail15 HL8.out); have hc9 := HT9.out.1.1; have hwB8 : w.heap.size + 2 ≤ B8.heap.size := HL8.out.2.2.2.2.1; have hvB8 : w.heap.size < B8.heap.size := (by omega); clear hm8))
      | (gi_at_call 36; refine (calls_FW (ro := none) (sectors_ext A c _ xs _ HT9.out.1.2.2.2.1 (HD.out _ HT9.out.1) h41)).mono ?_; go_loud (rintro e B10 ⟨f10, cap10, rfl, hm10, hs10⟩; have HQ := Lib.hid (tail15a HT9.out hm10 hs10); clear hm10 hs10))
      | (refine wpListIn_callV (v := .func (.func f10) #[] cap10) (argl := [.func (.func 37) #[] #[.pointer (some ⟨B8.heap.size, 0, none⟩), .pointer (some ⟨w.heap.size, 0, none⟩), .pointer (some ⟨B8.heap.size + 1, 0, none⟩), .pointer (some ⟨B8.heap.size + 1 + 1, 0, none⟩)]]) rfl rfl rfl ((HQ.out.2 h41 hwB8).mono ?_); go_loud (rintro e B11 ⟨⟨r, rfl⟩, hm11, ic, kc, hb11, hik⟩; have HL11 := Lib.hid (tail15b HQ.out.1 hm11 hwB8); have HC11 := Lib.hid (And.intro hb11 hik); have hg11 := cell_of_one' hb11.2.2; have hc11 := HL11.out.1; clear hm11 hb11 hik HQ); simp only [afterCall])
      | (gi_at_call 30; refine (calls_FW (ro := none) (refApart A c _ xs _ HL11.out.2.2.2.1 (HD.out _ HL11.out) h41 hcap)).mono ?_; rw [← HAB.out.1]; go_loud (rintro e B12 ⟨rfl, hm12⟩; have HM12 := Lib.hid (And.intro (HL11.out.2.2.2.2.2.trans hm12) hm12); clear hm12; cases hab : ab; have hz := HC11.out.2 (ab_false (HAB.out.1.symm.trans hab)); obtain ⟨rfl, rfl⟩ := hz; have hi12 := cell_of_one' (HM12.out.2.heap HC11.out.1.1 (fun h => h)); have hk12 := cell_of_one' (HM12.out.2.heap HC11.out.1.2.1 (fun h => h)))))
    all_goals

      go_ret
      exact ⟨rfl, HM12.out.1⟩
  by_cases hz2 : lo > hi
  · have hsm : lo < 0 ∨ lo > hi ∨ hi ≤ 3000 := by omega
    have HSm := Lib.hid hsm
    clear hsm
    have hc5 := HLg.out.1
    gi_wp2_with (first
      | (gi_at_call 34; refine (calls_FW (ro := none) (free_ext A c _ xs lo hi _ HLg.out.2.2.2.1 (HD.out _ HLg.out) h41)).mono ?_; go_loud (rintro e B6 h6; obtain ⟨A6, c6, rfl, hm6, hr6⟩ := HFB.out.1 _ _ _ h6; have HL6 := Lib.hid (HLg.out.next hm6); have hc6 := HL6.out.1; have HR6 := Lib.hid hr6; clear h6 hm6 hr6))
      | (gi_at_call 35; refine (calls_FW (ro := none) (refFree A c _ xs lo hi _ HL6.out.2.2.2.1 (HD.out _ HL6.out) h41 hcap HSm.out)).mono ?_; go_loud (rintro e B7 h7; obtain ⟨A7, c7, rfl, hm7, hr7⟩ := HFB.out.2 _ _ _ h7; have HL7 := Lib.hid (HL6.out.next hm7); have HR7 := Lib.hid (row2_start HR6.out hm7 hr7); clear h7 hm7 hr7))
      | (gi_at_call 33; refine (calls_FW (ro := none) (same_ext A6 A7 c6 c7 (fun b => b < B7.heap.size) fs fs B7 HR7.out.1 HR7.out.2)).mono ?_; go_loud (rintro e B8 ⟨he, hm8⟩; rw [show decide (fs = fs) = true by simp] at he; subst he; have HL8 := Lib.hid (HL7.out.next hm8); have hc8 := HL8.out.1; have HT9 := Lib.hid (tail15 HL8.out); have hc9 := HT9.out.1.1; have hwB8 : w.heap.size + 2 ≤ B8.heap.size := HL8.out.2.2.2.2.1; have hvB8 : w.heap.size < B8.heap.size := (by omega); clear hm8))
      | (gi_at_call 36; refine (calls_FW (ro := none) (sectors_ext A c _ xs _ HT9.out.1.2.2.2.1 (HD.out _ HT9.out.1) h41)).mono ?_; go_loud (rintro e B10 ⟨f10, cap10, rfl, hm10, hs10⟩; have HQ := Lib.hid (tail15a HT9.out hm10 hs10); clear hm10 hs10))
      | (refine wpListIn_callV (v := .func (.func f10) #[] cap10) (argl := [.func (.func 37) #[] #[.pointer (some ⟨B8.heap.size, 0, none⟩), .pointer (some ⟨w.heap.size, 0, none⟩), .pointer (some ⟨B8.heap.size + 1, 0, none⟩), .pointer (some ⟨B8.heap.size + 1 + 1, 0, none⟩)]]) rfl rfl rfl ((HQ.out.2 h41 hwB8).mono ?_); go_loud (rintro e B11 ⟨⟨r, rfl⟩, hm11, ic, kc, hb11, hik⟩; have HL11 := Lib.hid (tail15b HQ.out.1 hm11 hwB8); have HC11 := Lib.hid (And.intro hb11 hik); have hg11 := cell_of_one' hb11.2.2; have hc11 := HL11.out.1; clear hm11 hb11 hik HQ); simp only [afterCall])
      | (gi_at_call 30; refine (calls_FW (ro := none) (refApart A c _ xs _ HL11.out.2.2.2.1 (HD.out _ HL11.out) h41 hcap)).mono ?_; rw [← HAB.out.1]; go_loud (rintro e B12 ⟨rfl, hm12⟩; have HM12 := Lib.hid (And.intro (HL11.out.2.2.2.2.2.trans hm12) hm12); clear hm12; cases hab : ab; have hz := HC11.out.2 (ab_false (HAB.out.1.symm.trans hab)); obtain ⟨rfl, rfl⟩ := hz; have hi12 := cell_of_one' (HM12.out.2.heap HC11.out.1.1 (fun h => h)); have hk12 := cell_of_one' (HM12.out.2.heap HC11.out.1.2.1 (fun h => h)))))
    all_goals

      go_ret
      exact ⟨rfl, HM12.out.1⟩
  by_cases hz3 : hi ≤ 3000
  · have hsm : lo < 0 ∨ lo > hi ∨ hi ≤ 3000 := by omega
    have HSm := Lib.hid hsm
    clear hsm
    have hc5 := HLg.out.1
    gi_wp2_with (first
      | (gi_at_call 34; refine (calls_FW (ro := none) (free_ext A c _ xs lo hi _ HLg.out.2.2.2.1 (HD.out _ HLg.out) h41)).mono ?_; go_loud (rintro e B6 h6; obtain ⟨A6, c6, rfl, hm6, hr6⟩ := HFB.out.1 _ _ _ h6; have HL6 := Lib.hid (HLg.out.next hm6); have hc6 := HL6.out.1; have HR6 := Lib.hid hr6; clear h6 hm6 hr6))
      | (gi_at_call 35; refine (calls_FW (ro := none) (refFree A c _ xs lo hi _ HL6.out.2.2.2.1 (HD.out _ HL6.out) h41 hcap HSm.out)).mono ?_; go_loud (rintro e B7 h7; obtain ⟨A7, c7, rfl, hm7, hr7⟩ := HFB.out.2 _ _ _ h7; have HL7 := Lib.hid (HL6.out.next hm7); have HR7 := Lib.hid (row2_start HR6.out hm7 hr7); clear h7 hm7 hr7))
      | (gi_at_call 33; refine (calls_FW (ro := none) (same_ext A6 A7 c6 c7 (fun b => b < B7.heap.size) fs fs B7 HR7.out.1 HR7.out.2)).mono ?_; go_loud (rintro e B8 ⟨he, hm8⟩; rw [show decide (fs = fs) = true by simp] at he; subst he; have HL8 := Lib.hid (HL7.out.next hm8); have hc8 := HL8.out.1; have HT9 := Lib.hid (tail15 HL8.out); have hc9 := HT9.out.1.1; have hwB8 : w.heap.size + 2 ≤ B8.heap.size := HL8.out.2.2.2.2.1; have hvB8 : w.heap.size < B8.heap.size := (by omega); clear hm8))
      | (gi_at_call 36; refine (calls_FW (ro := none) (sectors_ext A c _ xs _ HT9.out.1.2.2.2.1 (HD.out _ HT9.out.1) h41)).mono ?_; go_loud (rintro e B10 ⟨f10, cap10, rfl, hm10, hs10⟩; have HQ := Lib.hid (tail15a HT9.out hm10 hs10); clear hm10 hs10))
      | (refine wpListIn_callV (v := .func (.func f10) #[] cap10) (argl := [.func (.func 37) #[] #[.pointer (some ⟨B8.heap.size, 0, none⟩), .pointer (some ⟨w.heap.size, 0, none⟩), .pointer (some ⟨B8.heap.size + 1, 0, none⟩), .pointer (some ⟨B8.heap.size + 1 + 1, 0, none⟩)]]) rfl rfl rfl ((HQ.out.2 h41 hwB8).mono ?_); go_loud (rintro e B11 ⟨⟨r, rfl⟩, hm11, ic, kc, hb11, hik⟩; have HL11 := Lib.hid (tail15b HQ.out.1 hm11 hwB8); have HC11 := Lib.hid (And.intro hb11 hik); have hg11 := cell_of_one' hb11.2.2; have hc11 := HL11.out.1; clear hm11 hb11 hik HQ); simp only [afterCall])
      | (gi_at_call 30; refine (calls_FW (ro := none) (refApart A c _ xs _ HL11.out.2.2.2.1 (HD.out _ HL11.out) h41 hcap)).mono ?_; rw [← HAB.out.1]; go_loud (rintro e B12 ⟨rfl, hm12⟩; have HM12 := Lib.hid (And.intro (HL11.out.2.2.2.2.2.trans hm12) hm12); clear hm12; cases hab : ab; have hz := HC11.out.2 (ab_false (HAB.out.1.symm.trans hab)); obtain ⟨rfl, rfl⟩ := hz; have hi12 := cell_of_one' (HM12.out.2.heap HC11.out.1.1 (fun h => h)); have hk12 := cell_of_one' (HM12.out.2.heap HC11.out.1.2.1 (fun h => h)))))
    all_goals

      go_ret
      exact ⟨rfl, HM12.out.1⟩
  · have hc5 := HLg.out.1
    have HT9 := Lib.hid (tail15 HLg.out)
    have hc9 := HT9.out.1.1
    have hwG : w.heap.size + 2 ≤ G.heap.size := HLg.out.2.2.2.2.1
    have hvG : w.heap.size < G.heap.size := (by omega)
    gi_wp2_with (first
      | (gi_at_call 36; refine (calls_FW (ro := none) (sectors_ext A c _ xs _ HT9.out.1.2.2.2.1 (HD.out _ HT9.out.1) h41)).mono ?_; go_loud (rintro e B10 ⟨f10, cap10, rfl, hm10, hs10⟩; have HQ := Lib.hid (tail15a HT9.out hm10 hs10); clear hm10 hs10))
      | (refine wpListIn_callV (v := .func (.func f10) #[] cap10) (argl := [.func (.func 37) #[] #[.pointer (some ⟨G.heap.size, 0, none⟩), .pointer (some ⟨w.heap.size, 0, none⟩), .pointer (some ⟨G.heap.size + 1, 0, none⟩), .pointer (some ⟨G.heap.size + 1 + 1, 0, none⟩)]]) rfl rfl rfl ((HQ.out.2 h41 hwG).mono ?_); go_loud (rintro e B11 ⟨⟨r, rfl⟩, hm11, ic, kc, hb11, hik⟩; have HL11 := Lib.hid (tail15b HQ.out.1 hm11 hwG); have HC11 := Lib.hid (And.intro hb11 hik); have hg11 := cell_of_one' hb11.2.2; have hc11 := HL11.out.1; clear hm11 hb11 hik HQ); simp only [afterCall])
      | (gi_at_call 30; refine (calls_FW (ro := none) (refApart A c _ xs _ HL11.out.2.2.2.1 (HD.out _ HL11.out) h41 hcap)).mono ?_; rw [← HAB.out.1]; go_loud (rintro e B12 ⟨rfl, hm12⟩; have HM12 := Lib.hid (And.intro (HL11.out.2.2.2.2.2.trans hm12) hm12); clear hm12; cases hab : ab; have hz := HC11.out.2 (ab_false (HAB.out.1.symm.trans hab)); obtain ⟨rfl, rfl⟩ := hz; have hi12 := cell_of_one' (HM12.out.2.heap HC11.out.1.1 (fun h => h)); have hk12 := cell_of_one' (HM12.out.2.heap HC11.out.1.2.1 (fun h => h)))))
    all_goals

      go_ret
      exact ⟨rfl, HM12.out.1⟩
end Go.Proofs.Ytobioeehfigmcaa
