/-
  A span that a law has made, beside the world in which the law began; the law's own check. Conditions: none beyond what each theorem names.
-/
import Derived.Test.YtheniiinioggiaaDoorSpan4
namespace Go.Proofs.YtheniiinioggiaaDoor
open Go.RowKit
/-- A span, made since w0, that lives in the blocks D. -/
def SpD (w0 w : World) (s : Nat) (f k : Int) (n : Nat) (D : List Nat) (U M : Nat → Bool) (fr : Nat) : Prop := ∃ bu bm Gu Gm, SpanAt w s f k n bu bm U M Gu Gm fr ∧ Ch [] w0 w ∧ (∀ x ∈ s :: (bu :: Gu ++ (bm :: Gm)), x ∈ D) ∧ ∀ x ∈ D, w0.heap.size ≤ x ∧ x < w.heap.size
/-- What New gives. -/
def NewSp (w : World) (f k : Int) (n : Nat) (e : Ending) (w' : World) : Prop := ∃ s D, e = .returned (.tuple #[.pointer (some ⟨s, 0, none⟩), .int .i64 0]) ∧ SpD w w' s f k n D none_ none_ 0
section
variable {w0 w w2 : World} {s n fr fr2 : Nat} {f k : Int} {U M U2 M2 : Nat → Bool} {D T : List Nat}
theorem SpD.still (h : SpD w0 w s f k n D U M fr) (hc : Ch [] w w2) : SpD w0 w2 s f k n D U M fr := by
  obtain ⟨bu, bm, Gu, Gm, h1, h2, h3, h4⟩ := h
  exact ⟨bu, bm, Gu, Gm, h1.ch hc, h2.trans hc, h3, fun x hx => ⟨(h4 x hx).1, Nat.lt_of_lt_of_le (h4 x hx).2 hc.size⟩⟩
theorem SpD.ch (h : SpD w0 w s f k n D U M fr) : Ch [] w0 w := h.choose_spec.choose_spec.choose_spec.choose_spec.2.1
theorem SpD.bd (h : SpD w0 w s f k n D U M fr) : ∀ x ∈ D, w0.heap.size ≤ x ∧ x < w.heap.size := h.choose_spec.choose_spec.choose_spec.choose_spec.2.2.2
theorem SpD.sIn (h : SpD w0 w s f k n D U M fr) : s ∈ D := h.choose_spec.choose_spec.choose_spec.choose_spec.2.2.1 s (by simp)
theorem SpD.sl (h : SpD w0 w s f k n D U M fr) : (n : Int) = sls k := h.choose_spec.choose_spec.choose_spec.choose_spec.1.sl
theorem SpD.sz (h : SpD w0 w s f k n D U M fr) : 0 < sz k := h.choose_spec.choose_spec.choose_spec.choose_spec.1.sz
theorem SpD.fb (h : SpD w0 w s f k n D U M fr) : 1 ≤ f ∧ f ≤ 262144 := h.choose_spec.choose_spec.choose_spec.choose_spec.1.fb
theorem SpD.frn (h : SpD w0 w s f k n D U M fr) : fr ≤ n := h.choose_spec.choose_spec.choose_spec.choose_spec.1.frn
theorem SpD.pos (h : SpD w0 w s f k n D U M fr) (hT : TabW w0) : 0 < s := Nat.lt_of_lt_of_le hT.1 (h.bd s h.sIn).1
theorem SpD.nle (h : SpD w0 w s f k n D U M fr) : 1 ≤ n ∧ n ≤ 256 := by
  obtain ⟨hk, _⟩ := sz_range (Int.ne_of_gt h.sz)
  obtain ⟨n', h1, h2, h3⟩ := sls_in hk.1 hk.2
  have := h.sl
  omega
theorem SpD.tab (h : SpD w0 w s f k n D U M fr) (hT : TabW w0) : TabW w := hT.ch h.ch
theorem SpD.weak (h : SpD w w2 s f k n D U M fr) (hc : Ch [] w0 w) : SpD w0 w2 s f k n D U M fr := by
  obtain ⟨bu, bm, Gu, Gm, h1, h2, h3, h4⟩ := h
  exact ⟨bu, bm, Gu, Gm, h1, hc.trans h2, h3, fun x hx => ⟨Nat.le_trans hc.size (h4 x hx).1, (h4 x hx).2⟩⟩
theorem SpanAt.congr {bu bm : Nat} {Gu Gm : List Nat} (h : SpanAt w s f k n bu bm U M Gu Gm fr) (hU : ∀ j, j < n → U j = U2 j) (hM : ∀ j, j < n → M j = M2 j) : SpanAt w s f k n bu bm U2 M2 Gu Gm fr :=
  ⟨h.top, h.us.congr hU, h.ms.congr hM, h.ne, h.ap, h.sl, h.sz, h.fb, h.frn⟩
theorem SpD.congr (h : SpD w0 w s f k n D U M fr) (hU : ∀ j, j < n → U j = U2 j) (hM : ∀ j, j < n → M j = M2 j) : SpD w0 w s f k n D U2 M2 fr := by
  obtain ⟨bu, bm, Gu, Gm, h1, h2⟩ := h
  exact ⟨bu, bm, Gu, Gm, h1.congr hU hM, h2⟩
theorem SpD.turn {bu bm : Nat} {Gu Gm : List Nat} (h2 : Ch [] w0 w) (h3 : ∀ x ∈ s :: (bu :: Gu ++ (bm :: Gm)), x ∈ D) (h4 : ∀ x ∈ D, w0.heap.size ≤ x ∧ x < w.heap.size)
    (h' : SpanAt w2 s f k n bu bm U2 M2 Gu Gm fr2) (hc : Ch T w w2) (hT : ∀ x ∈ T, x ∈ D) : SpD w0 w2 s f k n D U2 M2 fr2 ∧ Ch D w w2 :=
  ⟨⟨bu, bm, Gu, Gm, h', h2.transT hc (fun i hi => .inr (h4 i (hT i hi)).1), h3, fun x hx => ⟨(h4 x hx).1, Nat.lt_of_lt_of_le (h4 x hx).2 hc.size⟩⟩, hc.mono (fun i hi => .inl (hT i hi))⟩
theorem spNew (f k : Int) (n : Nat) (w : World) (h0 : 0 < sz k) (hf : 1 ≤ f ∧ f ≤ 262144) (hn : sls k = (n : Int)) (hn2 : n ≤ 256) :
    Calls Tryd.prog 28 #[.int .i64 f, .int .i64 k] w (NewSp w f k n) := by
  refine (spanNew f k n w h0 hf hn hn2).mono ?_
  rintro e w' ⟨s, rfl, bu, bm, Gu, Gm, h1, h2, h3, h4, h5, h6, h7⟩
  refine ⟨s, s :: (bu :: Gu ++ (bm :: Gm)), rfl, bu, bm, Gu, Gm, h1, h2, fun x hx => hx, ?_⟩
  intro x hx
  simp only [List.mem_cons, List.mem_append] at hx
  have e1 := h1.top.lt
  have e2 := h1.us.lt
  have e3 := h1.ms.lt
  rcases hx with rfl | (rfl | hx) | rfl | hx
  · exact ⟨h3, e1⟩
  · exact ⟨h4, e2⟩
  · exact ⟨h6 x hx, Nat.lt_of_lt_of_le (h1.us.hi x hx) (by omega)⟩
  · exact ⟨h5, e3⟩
  · exact ⟨h7 x hx, Nat.lt_of_lt_of_le (h1.ms.hi x hx) (by omega)⟩
theorem spBase (h : SpD w0 w s f k n D U M fr) : Calls Tryd.prog 43 #[.pointer (some ⟨s, 0, none⟩)] w fun e w' => e = .returned (.int .i64 (f * 64)) ∧ w' = w := by
  obtain ⟨bu, bm, Gu, Gm, h1, _⟩ := h
  exact spanBase h1
theorem spClass (h : SpD w0 w s f k n D U M fr) : Calls Tryd.prog 44 #[.pointer (some ⟨s, 0, none⟩)] w fun e w' => e = .returned (.int .i64 k) ∧ w' = w := by
  obtain ⟨bu, bm, Gu, Gm, h1, _⟩ := h
  exact spanClass h1
theorem spSlots (h : SpD w0 w s f k n D U M fr) : Calls Tryd.prog 31 #[.pointer (some ⟨s, 0, none⟩)] w fun e w' => e = .returned (.int .i64 n) ∧ w' = w := by
  obtain ⟨bu, bm, Gu, Gm, h1, _⟩ := h
  exact spanSlots h1
theorem spUsed (i : Int) (h : SpD w0 w s f k n D U M fr) : Calls Tryd.prog 37 #[.pointer (some ⟨s, 0, none⟩), .int .i64 i] w fun e w' => e = .returned (.bool (hasI U n i)) ∧ w' = w := by
  obtain ⟨bu, bm, Gu, Gm, h1, _⟩ := h
  exact spanUsed i h1
theorem spMarked (i : Int) (h : SpD w0 w s f k n D U M fr) : Calls Tryd.prog 36 #[.pointer (some ⟨s, 0, none⟩), .int .i64 i] w fun e w' => e = .returned (.bool (hasI M n i)) ∧ w' = w := by
  obtain ⟨bu, bm, Gu, Gm, h1, _⟩ := h
  exact spanMarked i h1
theorem spLive (h : SpD w0 w s f k n D U M fr) : Calls Tryd.prog 34 #[.pointer (some ⟨s, 0, none⟩)] w fun e w' => e = .returned (.int .i64 (cnt U n : Nat)) ∧ w' = w := by
  obtain ⟨bu, bm, Gu, Gm, h1, _⟩ := h
  exact spanLive h1
theorem spFull (h : SpD w0 w s f k n D U M fr) (hT : TabW w0) : Calls Tryd.prog 35 #[.pointer (some ⟨s, 0, none⟩)] w fun e w' => e = .returned (.bool (full U n fr)) ∧ w' = w.drewN 1 := by
  have hT' := h.tab hT
  obtain ⟨bu, bm, Gu, Gm, h1, _⟩ := h
  exact spanFull h1 hT'
/-- The marks behind Mark, and what it tells. -/
def markM (U M : Nat → Bool) (n : Nat) (i : Int) : Nat → Bool := if hasI U n i then putS M n i true else M
def markB (U M : Nat → Bool) (n : Nat) (i : Int) : Bool := hasI U n i && setB M n i
theorem spMark (i : Int) (h : SpD w0 w s f k n D U M fr) : Calls Tryd.prog 32 #[.pointer (some ⟨s, 0, none⟩), .int .i64 i] w fun e w' => e = .returned (.bool (markB U M n i)) ∧ SpD w0 w' s f k n D U (markM U M n i) fr ∧ Ch D w w' := by
  obtain ⟨bu, bm, Gu, Gm, h1, h2, h3, h4⟩ := h
  unfold markB markM
  cases hu : hasI U n i with
  | false =>
    refine (spanMarkNo i h1 hu).mono ?_
    rintro e w' ⟨rfl, rfl⟩
    exact ⟨rfl, ⟨bu, bm, Gu, Gm, h1, h2, h3, h4⟩, Ch.refl _ _⟩
  | true =>
    refine (spanMarkYes i h1 hu).mono ?_
    rintro e w' ⟨rfl, h5, h6⟩
    exact ⟨rfl, SpD.turn h2 h3 h4 h5 h6 (fun x hx => h3 x (by simp only [List.mem_cons, List.mem_append] at hx ⊢; rcases hx with h | h; exact .inr (.inr (.inl h)); exact .inr (.inr (.inr h))))⟩
theorem spAllocNo (b : Bool) (h : SpD w0 w s f k n D U M fr) (hT : TabW w0) (hf : full U n fr = true) :
    Calls Tryd.prog 30 #[.pointer (some ⟨s, 0, none⟩), .bool b] w fun e w' => e = .returned (.tuple #[.int .i64 0, .bool false]) ∧ w' = w.drewN 1 := by
  have hT' := h.tab hT
  obtain ⟨bu, bm, Gu, Gm, h1, _⟩ := h
  exact spanAllocNo b h1 hT' hf
theorem spAllocYes (b : Bool) (j : Nat) (h : SpD w0 w s f k n D U M fr) (hT : TabW w0) (hj : nxt U n fr false = (j : Int)) (hjn : j ≤ n) :
    Calls Tryd.prog 30 #[.pointer (some ⟨s, 0, none⟩), .bool b] w fun e w' => e = .returned (.tuple #[.int .i64 j, .bool true]) ∧ SpD w0 w' s f k n D (putS U n j true) (if b then putS M n j true else M) j ∧ Ch D w w' := by
  have hT' := h.tab hT
  obtain ⟨bu, bm, Gu, Gm, h1, h2, h3, h4⟩ := h
  refine (spanAllocYes b j h1 hT' hj hjn).mono ?_
  rintro e w' ⟨rfl, h5, h6⟩
  exact ⟨rfl, SpD.turn h2 h3 h4 h5 h6 h3⟩
/-- What Sweep gives. -/
def Swept (w0 w : World) (s : Nat) (f k : Int) (n : Nat) (D : List Nat) (U M : Nat → Bool) (e : Ending) (w' : World) : Prop := ∃ v, e = .returned v ∧ OwI w' w.heap.size v (gone U M n) ∧ SpD w0 w' s f k n D M none_ 0 ∧ Ch D w w'
theorem spSweep (h : SpD w0 w s f k n D U M fr) (hT : TabW w0) : Calls Tryd.prog 33 #[.pointer (some ⟨s, 0, none⟩)] w (Swept w0 w s f k n D U M) := by
  have hT' := h.tab hT
  have hn := h.nle
  have hp := h.pos hT
  obtain ⟨bu, bm, Gu, Gm, h1, h2, h3, h4⟩ := h
  refine (spanSweep h1 hT' (by omega) hp).mono ?_
  rintro e w' ⟨v, rfl, h5, h6, h7⟩
  refine ⟨v, rfl, h5, SpD.turn h2 (fun x hx => h3 x ?_) h4 h6 h7 h3⟩
  simp only [List.mem_cons, List.mem_append] at hx ⊢
  rcases hx with h | (h | h) | h | h
  · exact .inl h
  · exact .inr (.inr (.inl h))
  · exact .inr (.inr (.inr h))
  · exact .inr (.inl (.inl h))
  · exact .inr (.inl (.inr h))
end
theorem nxt_first (U : Nat → Bool) (n i : Nat) (h : i < n) (hU : U i = false) : nxt U n i false = (i : Int) := nxt_at h (Nat.le_refl _) hU (fun j h1 h2 => by omega)
theorem putS_nat' (S : Nat → Bool) (n i : Nat) (v : Bool) (hi : i < n) : putS S n i v = upd S i v := by
  unfold putS
  rw [if_pos ⟨by omega, by omega⟩, Int.toNat_natCast]
set_option maxHeartbeats 1000000 in
theorem told6 (w : World) (hT : TabW w) : Calls Tryd.prog 29 #[] w fun e w' => e = .returned (.bool true) ∧ Ch [] w w' := by
  have hN := spNew 2 15 1 w (by decide) (by omega) (by decide) (by omega)
  have hN2 := fun w => spanNewNo 0 3 w (.inr (.inl (by omega)))
  go_enter Tryd.func29, Tryd.ntmps29
  go_wp2_with fail
  refine hN.mono ?_; rintro e w1 ⟨s, D, rfl, h1⟩
  clear hN
  go_wp2_with fail
  refine (hN2 w1).mono ?_; rintro e w2 ⟨rfl, c2⟩
  have h2 := h1.still c2
  clear hN2 h1 c2
  go_wp2_with fail
  have a3 := spAllocYes false 0 h2 hT (by decide) (by omega)
  refine a3.mono ?_; rintro e w3 ⟨rfl, h3, c3⟩
  clear a3 h2 c3
  go_wp2_with fail
  have a4 := spAllocNo true h3 hT (by decide)
  refine a4.mono ?_; rintro e w4 ⟨rfl, rfl⟩
  have h4 := h3.still ((Ch.refl [] w3).drewN 1)
  clear a4 h3
  obtain ⟨W4, hW4⟩ : ∃ W4, w3.drewN 1 = W4 := ⟨_, rfl⟩
  rw [hW4] at h4 ⊢
  clear hW4
  go_wp2_with fail
  refine (spSweep h4 hT).mono ?_; rintro e w5 ⟨v, rfl, o5, h5, c5⟩
  obtain ⟨a5, q5, hv, _⟩ := o5.form
  rw [show (gone (putS none_ 1 (0 : Nat) true) (if false = true then putS none_ 1 (0 : Nat) true else none_) 1).length = 1 by decide] at hv
  subst hv
  clear h4 c5 o5
  have e1 := spSlots h5
  have e2 := spBase h5
  have e3 := spLive h5
  rw [show cnt (if false = true then putS none_ 1 (0 : Nat) true else none_) 1 = 0 by decide] at e3
  have e4 := spClass h5
  have hc := h5.ch
  clear h5
  go_wp2_with fail
  refine e1.mono ?_; rintro e w6 ⟨rfl, rfl⟩
  go_wp2_with fail
  refine e2.mono ?_; rintro e w6 ⟨rfl, rfl⟩
  go_wp2_with fail
  refine e3.mono ?_; rintro e w6 ⟨rfl, rfl⟩
  go_wp2_with fail
  refine e4.mono ?_; rintro e w6 ⟨rfl, rfl⟩
  go_wp2_with fail
  go_ret
  exact ⟨rfl, hc⟩
end Go.Proofs.YtheniiinioggiaaDoor
