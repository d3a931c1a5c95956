/-
  Two schedulers, the program's and the document's, beside each other: what each operation leaves, at any P. Conditions: none beyond what each theorem names.
-/
import Derived.Test.YteghenfdncgpeaaRefSch4
import Derived.Test.YteghenfdncgpeaaRefSch6
import Derived.Test.YteghenfdncgpeaaSchD
import Derived.Test.YteghenfdncgpeaaSchMath2
namespace Go.Proofs.Yteghenfdncgpeaa
open Go.RowKit
section
variable {st : SSt} {p n : Nat}
theorem getX_le {hs : Bool} {X : List Int} (h : X.length ≤ 256) : (getX hs X).length ≤ 256 := by
  unfold getX
  split
  · exact h
  · rw [List.length_tail]; omega
theorem get_rowLe (h : ∀ q, (st.row q).length ≤ 256) (q : Nat) : ((getSt st p).row q).length ≤ 256 := by
  by_cases e : q = p
  · subst e
    rw [(getSt_at (st := st) (p := q)).2.2.1]
    exact getX_le (h q)
  · rw [(getSt_ne (st := st) e).2.2]
    exact h q
theorem fold_rowLe (l : List Int) : ∀ (st : SSt), (∀ q, (st.row q).length ≤ 256) → ∀ q, ((foldR st p l).row q).length ≤ 256 := by
  induction l with
  | nil => exact fun _ h => h
  | cons g l ih => exact fun st h => ih _ (ready_rowLe h)
theorem pick_rowLe {tick vic : Int} (h : ∀ q, (st.row q).length ≤ 256) (q : Nat) : ((pickS st p n tick vic).row q).length ≤ 256 := by
  unfold pickS
  split
  · exact h q
  · split
    · exact get_rowLe h q
    · split
      · unfold partS
        refine fold_rowLe _ _ ?_ q
        exact fun q => h q
      · exact get_rowLe (fun q => stealV_rowLe h q) q
theorem drop_rowLe (h : ∀ q, (st.row q).length ≤ 256) (q : Nat) : ((dropS st p).row q).length ≤ 256 := by
  show (updN st.row p [] q).length ≤ 256
  unfold updN
  split
  · simp
  · exact h q
theorem drop_tot (hp : p < n) : totS (dropS st p) n = totS st n := by
  rw [totS_wt, totS_wt]
  have hs := wtS_upd (f := List.length) (st := st) (st2 := dropS st p) hp (fun j hj => allS_congr (updN_ne _ _ hj) (updN_ne _ _ hj) (updN_ne _ _ hj))
  have e : allS (dropS st p) p = [] := by
    rw [allS_of (updN_at st.nx p (st.nx p)) (updN_at st.hs p false) (updN_at st.row p [])]
    rfl
  rw [e] at hs
  have ec : (dropS st p).com = st.com ++ allS st p := rfl
  unfold wtS
  rw [ec, List.length_append]
  simp only [List.length_nil] at hs
  omega
end
def readyA (st : SSt) (n : Nat) (j g : Int) (nb : Bool) : SSt := if hasP n j = true then readyS st j.toNat g nb else st
def readyE (n : Nat) (j : Int) : Int := if hasP n j = true then 0 else 1
def pickAS (st : SSt) (n : Nat) (j tick vic : Int) : SSt := if hasP n j = true then pickS st j.toNat n tick vic else st
def pickAV (st : SSt) (n : Nat) (j tick vic : Int) : Int := if hasP n j = true then pickV st j.toNat n tick vic else 0
def pickAB (st : SSt) (n : Nat) (j tick vic : Int) : Bool := if hasP n j = true then pickB st j.toNat n tick vic else false
def dropAS (st : SSt) (n : Nat) (j : Int) : SSt := if hasP n j = true then dropS st j.toNat else st
def dropAV (st : SSt) (n : Nat) (j : Int) : Int := if hasP n j = true then (allS st j.toNat).length else 0
theorem hasP_yes {n : Nat} {j : Int} (h : hasP n j = true) : ∃ i : Nat, j = i ∧ i < n := by
  obtain ⟨h1, h2⟩ := of_decide_eq_true h
  exact ⟨j.toNat, by omega, by omega⟩
section
variable {st : SSt} {n : Nat} {j g tick vic : Int} {nb : Bool}
theorem readyA_tot : totS (readyA st n j g nb) n ≤ totS st n + 1 := by
  unfold readyA
  split
  · next h =>
    obtain ⟨i, rfl, hi⟩ := hasP_yes h
    rw [totS_wt, totS_wt, Int.toNat_natCast, ready_wt addLen hi]
    simp
  · omega
theorem pickAS_tot : totS (pickAS st n j tick vic) n ≤ totS st n := by
  unfold pickAS
  split
  · next h =>
    obtain ⟨i, rfl, hi⟩ := hasP_yes h
    rw [Int.toNat_natCast]
    cases hb : pickB st i n tick vic with
    | true =>
      have := pick_wt addLen hi hb
      rw [totS_wt, totS_wt]
      omega
    | false =>
      obtain ⟨_, _, h3, h4, _⟩ := pick_none hb
      rw [totS_wt, totS_wt, wtS_congr h3 h4]
      omega
  · omega
theorem dropAS_tot : totS (dropAS st n j) n = totS st n := by
  unfold dropAS
  split
  · next h =>
    obtain ⟨i, rfl, hi⟩ := hasP_yes h
    rw [Int.toNat_natCast, drop_tot hi]
  · rfl
theorem com_tot (st : SSt) (n : Nat) : st.com.length ≤ totS st n := by rw [totS_wt]; exact com_le
end
/-- The program's scheduler s and the document's x, in the blocks S. -/
def Two (w0 w : World) (S : List Nat) (s x n : Nat) (st st2 : SSt) : Prop := ∃ D vs Y, SD w0 w D s n st ∧ RefAt w S x vs Y st2 ∧ Y.length = n ∧ (∀ k ∈ D, k ∈ S) ∧ (∀ k ∈ ownR x vs Y, k ∉ D) ∧ (∀ k ∈ S, w0.heap.size ≤ k) ∧ ∀ p, (st2.row p).length ≤ 256
/-- What an operation leaves. -/
def TwoT (w0 w : World) (S : List Nat) (s x n : Nat) (st st2 : SSt) (w' : World) : Prop := ∃ S', Two w0 w' S' s x n st st2 ∧ Ch S w w' ∧ ∀ k ∈ S', k ∈ S ∨ w.heap.size ≤ k
section
variable {w0 w w2 w' : World} {S D : List Nat} {s x n : Nat} {st st2 st3 : SSt} {j g tick vic : Int} {nb : Bool}
theorem Two.bd (h : Two w0 w S s x n st st2) : ∀ k ∈ S, w0.heap.size ≤ k ∧ k < w.heap.size := by
  obtain ⟨D, vs, Y, h1, h2, h3, h4, h5, h6, h7⟩ := h
  exact fun k hk => ⟨h6 k hk, h2.hS k hk⟩
theorem Two.ch (h : Two w0 w S s x n st st2) : Ch [] w0 w := by
  obtain ⟨D, vs, Y, h1, h2, h3, h4, h5, h6, h7⟩ := h
  exact h1.ch
theorem own_S {w : World} {r : Nat} {vs : Value} {Y : List Nat} (h : RefAt w S r vs Y st) : ∀ k ∈ ownR r vs Y, k ∈ S := fun k hk => by
  rcases mem_ownR.1 hk with rfl | e | e
  · exact h.rS
  · exact h.yS k e
  · exact h.vS k e
theorem Two.still (h : Two w0 w S s x n st st2) (hc : Ch [] w w2) : Two w0 w2 S s x n st st2 := by
  obtain ⟨D, vs, Y, h1, h2, h3, h4, h5, h6, h7⟩ := h
  exact ⟨D, vs, Y, h1.still hc, h2.still hc, h3, h4, h5, h6, h7⟩
theorem Two.same (h : Two w0 w S s x n st st2) (hc : Ch [] w w2) : TwoT w0 w S s x n st st2 w2 := ⟨S, h.still hc, hc.mono (by simp), fun _ hk => .inl hk⟩
theorem Two.prog {vs : Value} {Y : List Nat} (h2 : RefAt w S x vs Y st2) (h3 : Y.length = n) (h4 : ∀ k ∈ D, k ∈ S) (h5 : ∀ k ∈ ownR x vs Y, k ∉ D) (h6 : ∀ k ∈ S, w0.heap.size ≤ k) (h7 : ∀ p, (st2.row p).length ≤ 256) (hT : SDT w0 w D s n st3 w2) : TwoT w0 w S s x n st3 st2 w2 := by
  obtain ⟨D', g1, g2, g3⟩ := hT
  have hSn : ∀ k ∈ S ++ D', k ∈ S ∨ w.heap.size ≤ k ∧ k < w2.heap.size := fun k hk => by
    rcases List.mem_append.1 hk with e | e
    · exact .inl e
    · rcases g3 k e with f | f
      · exact .inl (h4 k f)
      · exact .inr ⟨f, (g1.bd k e).2⟩
  refine ⟨S ++ D', ⟨D', vs, Y, g1, h2.step g2 (fun k hk => ⟨h4 k hk, fun hm => h5 k hm hk⟩) hSn (fun k hk => List.mem_append_left _ hk), h3, fun k hk => List.mem_append_right _ hk, fun k hk hm => ?_, fun k hk => ?_, h7⟩, g2.mono (fun k hk => .inl (h4 k hk)), fun k hk => (hSn k hk).imp id (fun e => e.1)⟩
  · rcases g3 k hm with f | f
    · exact h5 k hk f
    · have := h2.hS k (own_S h2 k hk)
      omega
  · rcases List.mem_append.1 hk with e | e
    · exact h6 k e
    · exact (g1.bd k e).1
theorem Two.doc {vs : Value} {Y : List Nat} (h1 : SD w0 w D s n st) (h2 : RefAt w S x vs Y st2) (h3 : Y.length = n) (h4 : ∀ k ∈ D, k ∈ S) (h5 : ∀ k ∈ ownR x vs Y, k ∉ D) (h6 : ∀ k ∈ S, w0.heap.size ≤ k) (h7 : ∀ p, (st3.row p).length ≤ 256) (hT : RefT w S x vs Y st3 w2) : TwoT w0 w S s x n st st3 w2 :=
  ⟨S, ⟨D, vs, Y, h1.beside hT.2 h5 (fun k hk => h6 k (own_S h2 k hk)), hT.1, h3, h4, h5, h6, h7⟩, hT.2.mono (fun k hk => .inl (own_S h2 k hk)), fun _ hk => .inl hk⟩
theorem Two.docD {vs : Value} {Y : List Nat} (h1 : SD w0 w D s n st) (h2 : RefAt w S x vs Y st2) (h3 : Y.length = n) (h4 : ∀ k ∈ D, k ∈ S) (h5 : ∀ k ∈ ownR x vs Y, k ∉ D) (h6 : ∀ k ∈ S, w0.heap.size ≤ k) (h7 : ∀ p, (st3.row p).length ≤ 256) (hT : RefD w S x vs Y st3 w2) : TwoT w0 w S s x n st st3 w2 := by
  obtain ⟨b, Y', g1, g2, g3, g4, g5⟩ := hT
  have hS0 := h1.ch.size
  refine ⟨S ++ [b], ⟨D, vs, Y', h1.beside g3 h5 (fun k hk => h6 k (own_S h2 k hk)), g1, by rw [g2, h3], fun k hk => List.mem_append_left _ (h4 k hk), fun k hk hm => ?_, fun k hk => ?_, h7⟩, g3.mono (fun k hk => .inl (own_S h2 k hk)), fun k hk => ?_⟩
  · rcases mem_ownR.1 hk with e | e | e
    · exact h5 k (mem_ownR.2 (.inl e)) hm
    · rcases g5 k e with e | rfl
      · exact h5 k (mem_ownR.2 (.inr (.inl e))) hm
      · have := (h1.bd k hm).2; omega
    · exact h5 k (mem_ownR.2 (.inr (.inr e))) hm
  · rcases List.mem_append.1 hk with e | e
    · exact h6 k e
    · simp at e; omega
  · rcases List.mem_append.1 hk with e | e
    · exact .inl e
    · simp at e; exact .inr (by omega)
theorem twReady (h : Two w0 w S s x n st st2) (hl : st.com.length ≤ 80000) :
    Calls Try.prog 41 #[.pointer (some ⟨s, 0, none⟩), .int .i64 j, .int .i64 g, .bool nb] w fun e w' => e = .returned (.int .i64 (readyE n j)) ∧ TwoT w0 w S s x n (readyA st n j g nb) st2 w' := by
  have hh := h
  obtain ⟨D, vs, Y, h1, h2, h3, h4, h5, h6, h7⟩ := hh
  unfold readyE readyA
  by_cases hj : hasP n j = true
  · rw [if_pos hj, if_pos hj]
    obtain ⟨i, rfl, hi⟩ := hasP_yes hj
    rw [Int.toNat_natCast]
    exact (sdReady g nb h1 hi hl).mono fun _ _ ⟨a, b⟩ => ⟨a, Two.prog h2 h3 h4 h5 h6 h7 b⟩
  · rw [if_neg hj, if_neg hj]
    exact (sdReadyNo j g nb h1 (by simpa using hj)).mono fun _ _ ⟨a, b⟩ => ⟨a, by subst b; exact h.same (Ch.refl _ _)⟩
theorem twReadyX (h : Two w0 w S s x n st st2) (hl : st2.com.length ≤ 80000) :
    Calls Try.prog 51 #[.pointer (some ⟨x, 0, none⟩), .int .i64 j, .int .i64 g, .bool nb] w fun e w' => e = .returned (.int .i64 (readyE n j)) ∧ TwoT w0 w S s x n st (readyA st2 n j g nb) w' := by
  have hh := h
  obtain ⟨D, vs, Y, h1, h2, h3, h4, h5, h6, h7⟩ := hh
  unfold readyE readyA
  by_cases hj : hasP n j = true
  · rw [if_pos hj, if_pos hj]
    obtain ⟨i, rfl, hi⟩ := hasP_yes hj
    rw [Int.toNat_natCast]
    exact (refReady g nb h2 (List.getElem?_eq_getElem (show i < Y.length by omega)) (h7 i) (by omega)).mono fun _ _ ⟨a, b⟩ => ⟨a, Two.doc h1 h2 h3 h4 h5 h6 (ready_rowLe h7) b⟩
  · rw [if_neg hj, if_neg hj]
    exact (refReadyNo j g nb h2 (by rw [h3]; simpa using hj)).mono fun _ _ ⟨a, b⟩ => ⟨a, by subst b; exact h.same (Ch.refl _ _)⟩
theorem twPick (h : Two w0 w S s x n st st2) (hl : st.com.length ≤ 80000) :
    Calls Try.prog 43 #[.pointer (some ⟨s, 0, none⟩), .int .i64 j, .int .i64 tick, .int .i64 vic] w fun e w' => e = .returned (.tuple #[.int .i64 (pickAV st n j tick vic), .bool (pickAB st n j tick vic)]) ∧ TwoT w0 w S s x n (pickAS st n j tick vic) st2 w' := by
  have hh := h
  obtain ⟨D, vs, Y, h1, h2, h3, h4, h5, h6, h7⟩ := hh
  unfold pickAV pickAB pickAS
  by_cases hj : hasP n j = true
  · rw [if_pos hj, if_pos hj, if_pos hj]
    obtain ⟨i, rfl, hi⟩ := hasP_yes hj
    rw [Int.toNat_natCast]
    exact (sdPick tick vic h1 hi hl).mono fun _ _ ⟨a, b⟩ => ⟨a, Two.prog h2 h3 h4 h5 h6 h7 b⟩
  · rw [if_neg hj, if_neg hj, if_neg hj]
    exact (sdPickNo j tick vic h1 (by simpa using hj)).mono fun _ _ ⟨a, b⟩ => ⟨a, h.same b⟩
theorem twPickX (h : Two w0 w S s x n st st2) (hl : st2.com.length ≤ 80000) :
    Calls Try.prog 53 #[.pointer (some ⟨x, 0, none⟩), .int .i64 j, .int .i64 tick, .int .i64 vic] w fun e w' => e = .returned (.tuple #[.int .i64 (pickAV st2 n j tick vic), .bool (pickAB st2 n j tick vic)]) ∧ TwoT w0 w S s x n st (pickAS st2 n j tick vic) w' := by
  have hh := h
  obtain ⟨D, vs, Y, h1, h2, h3, h4, h5, h6, h7⟩ := hh
  unfold pickAV pickAB pickAS
  by_cases hj : hasP n j = true
  · rw [if_pos hj, if_pos hj, if_pos hj]
    obtain ⟨i, rfl, hi⟩ := hasP_yes hj
    rw [Int.toNat_natCast]
    have := refPick tick vic h2 (List.getElem?_eq_getElem (show i < Y.length by omega)) h7 hl
    rw [h3] at this
    exact this.mono fun _ _ ⟨a, b⟩ => ⟨a, Two.doc h1 h2 h3 h4 h5 h6 (pick_rowLe h7) b⟩
  · rw [if_neg hj, if_neg hj, if_neg hj]
    exact (refPickNo j tick vic h2 (by rw [h3]; simpa using hj)).mono fun _ _ ⟨a, b⟩ => ⟨a, by subst b; exact h.same (Ch.refl _ _)⟩
theorem twDrop (h : Two w0 w S s x n st st2) (hl : st.com.length ≤ 80000) :
    Calls Try.prog 48 #[.pointer (some ⟨s, 0, none⟩), .int .i64 j] w fun e w' => e = .returned (.int .i64 (dropAV st n j)) ∧ TwoT w0 w S s x n (dropAS st n j) st2 w' := by
  have hh := h
  obtain ⟨D, vs, Y, h1, h2, h3, h4, h5, h6, h7⟩ := hh
  unfold dropAV dropAS
  by_cases hj : hasP n j = true
  · rw [if_pos hj, if_pos hj]
    obtain ⟨i, rfl, hi⟩ := hasP_yes hj
    rw [Int.toNat_natCast]
    exact (sdDrop h1 hi hl).mono fun _ _ ⟨a, b⟩ => ⟨a, Two.prog h2 h3 h4 h5 h6 h7 b⟩
  · rw [if_neg hj, if_neg hj]
    exact (sdDropNo j h1 (by simpa using hj)).mono fun _ _ ⟨a, b⟩ => ⟨a, by subst b; exact h.same (Ch.refl _ _)⟩
theorem twDropX (h : Two w0 w S s x n st st2) (hl : st2.com.length ≤ 80000) :
    Calls Try.prog 54 #[.pointer (some ⟨x, 0, none⟩), .int .i64 j] w fun e w' => e = .returned (.int .i64 (dropAV st2 n j)) ∧ TwoT w0 w S s x n st (dropAS st2 n j) w' := by
  have hh := h
  obtain ⟨D, vs, Y, h1, h2, h3, h4, h5, h6, h7⟩ := hh
  unfold dropAV dropAS
  by_cases hj : hasP n j = true
  · rw [if_pos hj, if_pos hj]
    obtain ⟨i, rfl, hi⟩ := hasP_yes hj
    rw [Int.toNat_natCast]
    exact (refDrop h2 (List.getElem?_eq_getElem (show i < Y.length by omega)) (h7 i) (by omega)).mono fun _ _ ⟨a, b⟩ => ⟨a, Two.docD h1 h2 h3 h4 h5 h6 (drop_rowLe h7) b⟩
  · rw [if_neg hj, if_neg hj]
    exact (refDropNo j h2 (by rw [h3]; simpa using hj)).mono fun _ _ ⟨a, b⟩ => ⟨a, by subst b; exact h.same (Ch.refl _ _)⟩
theorem twGlobal (h : Two w0 w S s x n st st2) (hl : st.com.length ≤ 80000) :
    Calls Try.prog 46 #[.pointer (some ⟨s, 0, none⟩), .int .i64 g] w fun e w' => e = .returned (.tuple #[]) ∧ TwoT w0 w S s x n (st.setCom (st.com ++ [g])) st2 w' := by
  obtain ⟨D, vs, Y, h1, h2, h3, h4, h5, h6, h7⟩ := h
  exact (sdGlobal g h1 hl).mono fun _ _ ⟨a, b⟩ => ⟨a, Two.prog h2 h3 h4 h5 h6 h7 b⟩
theorem twGlobalX {xv : Value} {ys : List Int} (h : Two w0 w S s x n st st2) (hr : ResL w S xv ys) (hl : st2.com.length ≤ 80000) (hy : ys.length ≤ 1) :
    Calls Try.prog 52 #[.pointer (some ⟨x, 0, none⟩), xv] w fun e w' => e = .returned (.tuple #[]) ∧ TwoT w0 w S s x n st (st2.setCom (st2.com ++ ys)) w' := by
  obtain ⟨D, vs, Y, h1, h2, h3, h4, h5, h6, h7⟩ := h
  exact (refGlobal h2 hr (by omega)).mono fun _ _ ⟨a, b⟩ => ⟨a, Two.doc h1 h2 h3 h4 h5 h6 h7 b⟩
theorem twWhere (h : Two w0 w S s x n st st2) (hn : n ≤ 64) (hl : st.com.length ≤ 80000) :
    Calls Try.prog 42 #[.pointer (some ⟨s, 0, none⟩), .int .i64 g] w fun e w' => e = .returned (.tuple #[.int .i64 (whereV st n g), .bool (whereB st n g)]) ∧ Ch [] w w' := by
  obtain ⟨D, vs, Y, h1, h2, h3, h4, h5, h6, h7⟩ := h
  exact sdWhere g h1 (by omega) hl
theorem twWhereX (h : Two w0 w S s x n st st2) (hn : n ≤ 64) (hl : st2.com.length ≤ 80000) :
    Calls Try.prog 55 #[.pointer (some ⟨x, 0, none⟩), .int .i64 g] w fun e w' => e = .returned (.tuple #[.int .i64 (whereV st2 n g), .bool (whereB st2 n g)]) ∧ Ch [] w w' := by
  obtain ⟨D, vs, Y, h1, h2, h3, h4, h5, h6, h7⟩ := h
  have := refWhere g h2 (by omega) h7 (by omega)
  rw [h3] at this
  exact this
theorem twLen (h : Two w0 w S s x n st st2) (hn : n ≤ 64) (hl : st.com.length ≤ 80000) :
    Calls Try.prog 44 #[.pointer (some ⟨s, 0, none⟩)] w fun e w' => e = .returned (.int .i64 (totS st n : Nat)) ∧ Ch [] w w' := by
  obtain ⟨D, vs, Y, h1, h2, h3, h4, h5, h6, h7⟩ := h
  exact sdLen h1 (by omega) hl
theorem twLenX (h : Two w0 w S s x n st st2) (hn : n ≤ 64) (hl : st2.com.length ≤ 80000) :
    Calls Try.prog 56 #[.pointer (some ⟨x, 0, none⟩)] w fun e w' => e = .returned (.int .i64 (totS st2 n : Nat)) ∧ Ch [] w w' := by
  obtain ⟨D, vs, Y, h1, h2, h3, h4, h5, h6, h7⟩ := h
  have := refLen h2 (by omega) h7 (by omega)
  rw [h3] at this
  exact this
theorem LsF.none_ {a : Option Addr} {c : Nat} {U : List Nat} (h : LsF w S a c []) : LsF w U a c [] := ⟨.inl rfl, h.2.1, h.2.2.1, .inl rfl⟩
theorem RefAt.grow {r : Nat} {vs : Value} {Y U : List Nat} (h : RefAt w S r vs Y initS) (hU : ∀ k ∈ U, k < w.heap.size) (hS : ∀ k ∈ S, k ∈ U) : RefAt w U r vs Y initS := by
  obtain ⟨a, c, hb, hL⟩ := h.top
  refine ⟨⟨a, c, hb, LsF.none_ hL⟩, h.rs, fun i y hy => ?_, h.nd, hS _ h.rS, fun y hy => hS _ (h.yS y hy), fun k hk => hS _ (h.vS k hk), hU⟩
  obtain ⟨a1, c1, a2, c2, hb, l1, l2⟩ := h.ring i y hy
  exact ⟨a1, c1, a2, c2, hb, LsF.none_ l1, LsF.none_ l2⟩
def TwoN (w0 : World) (s n : Nat) (e : Ending) (w' : World) : Prop := ∃ x S, e = .returned (.pointer (some ⟨x, 0, none⟩)) ∧ Two w0 w' S s x n initS initS
theorem twNew (h1 : SD w0 w D s n initS) (h64 : n ≤ 64) : Calls Try.prog 50 #[.int .i64 n] w (TwoN w0 s n) := by
  refine (refNew w n h64).mono ?_
  rintro e w' ⟨r, S, vs, Y, rfl, h2, h3, hc, h5⟩
  have g1 := h1.still hc
  have hz := h1.ch.size
  refine ⟨r, S ++ D, rfl, D, vs, Y, g1, h2.grow (fun k hk => ?_) (fun k hk => List.mem_append_left _ hk), h3, fun k hk => List.mem_append_right _ hk, fun k hk hm => ?_, fun k hk => ?_, fun p => by show ([] : List Int).length ≤ 256; simp⟩
  · rcases List.mem_append.1 hk with e | e
    · exact h2.hS k e
    · exact (g1.bd k e).2
  · have := h5 k (own_S h2 k hk)
    have := (h1.bd k hm).2
    omega
  · rcases List.mem_append.1 hk with e | e
    · have := h5 k e; omega
    · exact (g1.bd k e).1
end
end Go.Proofs.Yteghenfdncgpeaa
