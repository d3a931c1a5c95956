/-
  What a ring's operations come to, whatever the case: the program's and the document's alike. Conditions: none beyond what each theorem names.
-/
import Derived.Test.YteghenfdncgpeaaRefRing
import Derived.Test.YteghenfdncgpeaaRing3
namespace Go.Proofs.Yteghenfdncgpeaa
open Go.RowKit
/-- Who is next, as a list. -/
def nxL (nx : Int) (hs : Bool) : List Int := if hs then [nx] else []
def putO (nx : Int) (hs : Bool) (X : List Int) (g : Int) (nb : Bool) : List Int := if nb then (if hs then ringOver X nx else []) else ringOver X g
def putN (nx g : Int) (nb : Bool) : Int := if nb then g else nx
def putH (hs nb : Bool) : Bool := if nb then true else hs
def putX (nx : Int) (hs : Bool) (X : List Int) (g : Int) (nb : Bool) : List Int := if nb then (if hs then ringRow X nx else X) else ringRow X g
theorem ringPutAny (b : Nat) (nx : Int) (hs : Bool) (X : List Int) (g : Int) (nb : Bool) (w : World) (h : RingAt w b nx hs X) :
    Calls Try.prog 17 #[.pointer (some ⟨b, 0, none⟩), .int .i64 g, .bool nb] w fun e w' => ∃ v', e = .returned v' ∧ OwI w' w.heap.size v' (putO nx hs X g nb) ∧ RingAt w' b (putN nx g nb) (putH hs nb) (putX nx hs X g nb) ∧ Ch [b] w w' := by
  cases nb with
  | false => exact ringPutRow b nx hs X g w h
  | true =>
    cases hs with
    | false =>
      refine (ringPutNew b nx X g w h).mono ?_
      rintro e w' ⟨rfl, h1, h2⟩
      exact ⟨_, rfl, OwI.nil _ _, h1, h2⟩
    | true => exact ringPutNext b nx X g w h
theorem refPutAny (r : Nat) (S : List Nat) (nx : Int) (hs : Bool) (X : List Int) (g : Int) (nb : Bool) (w : World) (h : RG w r S (nxL nx hs) X) (hr : r ∈ S) (hS : ∀ k ∈ S, k < w.heap.size) (hl : X.length ≤ 256) :
    Calls Try.prog 25 #[.pointer (some ⟨r, 0, none⟩), .int .i64 g, .bool nb] w fun e w' => ∃ v, e = .returned v ∧ ResL w' S v (putO nx hs X g nb) ∧ RG w' r S (nxL (putN nx g nb) (putH hs nb)) (putX nx hs X g nb) ∧ Ch [r] w w' := by
  by_cases hx : X.length < 256
  · cases nb with
    | false => exact refRingPutRoom r S _ X g w h hr hS hx
    | true =>
      cases hs with
      | false => exact refRingPutNew r S X g w h hr hS
      | true => exact refRingPutNextRoom r S nx X g w h hr hS hx
  · have hx6 : X.length = 256 := by omega
    cases nb with
    | false => exact refRingPutFull r S _ X g w h hr hS hx6
    | true =>
      cases hs with
      | false => exact refRingPutNew r S X g w h hr hS
      | true => exact refRingPutNextFull r S nx X g w h hr hS hx6
def getV (nx : Int) (hs : Bool) (X : List Int) : Int := if hs then nx else X.headD 0
def getB (hs : Bool) (X : List Int) : Bool := hs || !X.isEmpty
def getX (hs : Bool) (X : List Int) : List Int := if hs then X else X.tail
theorem ringGetAny (b : Nat) (nx : Int) (hs : Bool) (X : List Int) (w : World) (h : RingAt w b nx hs X) :
    Calls Try.prog 19 #[.pointer (some ⟨b, 0, none⟩)] w fun e w' => e = .returned (.tuple #[.int .i64 (getV nx hs X), .bool (getB hs X)]) ∧ RingAt w' b nx false (getX hs X) ∧ Ch [b] w w' := by
  cases hs with
  | true => exact ringGetNext b nx X w h
  | false =>
    cases X with
    | nil =>
      refine (ringGetEmpty b nx w h).mono ?_
      rintro e w' ⟨rfl, hh⟩
      first | (obtain ⟨h1, h2⟩ := hh; exact ⟨rfl, h1, h2.mono (by simp)⟩) | (subst hh; exact ⟨rfl, h, Ch.refl _ _⟩)
    | cons x t => exact ringGetRow b nx x t w h
theorem refGetAny (r : Nat) (S : List Nat) (nx : Int) (hs : Bool) (X : List Int) (w : World) (h : RG w r S (nxL nx hs) X) (hr : r ∈ S) (hl : X.length ≤ 256) :
    Calls Try.prog 26 #[.pointer (some ⟨r, 0, none⟩)] w fun e w' => e = .returned (.tuple #[.int .i64 (getV nx hs X), .bool (getB hs X)]) ∧ RG w' r S (nxL nx false) (getX hs X) ∧ Ch [r] w w' := by
  cases hs with
  | true => exact refRingGetNext r S nx X w h hr
  | false =>
    cases X with
    | nil =>
      refine (refRingGetEmpty r S w h).mono ?_
      rintro e w' ⟨rfl, rfl⟩
      exact ⟨rfl, h, Ch.refl _ _⟩
    | cons x t => exact refRingGetRow r S x t w h hr (by simp at hl; omega)
def stealK (X Y : List Int) (hs' : Bool) : Nat := if Y = [] then (if hs' = true ∧ X.length < 256 then 1 else 0) else min (Y.length - Y.length / 2) (256 - X.length)
def stealX (nx' : Int) (hs' : Bool) (X Y : List Int) : List Int := if Y = [] then (if hs' = true ∧ X.length < 256 then X ++ [nx'] else X) else X ++ Y.take (stealK X Y hs')
def stealY (hs' : Bool) (X Y : List Int) : List Int := if Y = [] then [] else Y.drop (stealK X Y hs')
def stealH (hs' : Bool) (X Y : List Int) : Bool := if Y = [] then (if hs' = true ∧ X.length < 256 then false else hs') else hs'
theorem ringStealAny (b o : Nat) (nx nx' : Int) (hs hs' : Bool) (X Y : List Int) (w : World) (h : RingAt w b nx hs X) (ho : RingAt w o nx' hs' Y) (hne : b ≠ o) :
    Calls Try.prog 23 #[.pointer (some ⟨b, 0, none⟩), .pointer (some ⟨o, 0, none⟩)] w fun e w' => e = .returned (.int .i64 (stealK X Y hs')) ∧ RingAt w' b nx hs (stealX nx' hs' X Y) ∧ RingAt w' o nx' (stealH hs' X Y) (stealY hs' X Y) ∧ Ch [b, o] w w' := by
  have hX := h.le
  by_cases hY : Y = []
  · subst hY
    by_cases hc : hs' = true ∧ X.length < 256
    · obtain ⟨rfl, hx⟩ := hc
      simp only [stealK, stealX, stealY, stealH, if_true, hx, and_self]
      exact ringStealOne b o nx nx' hs X w h ho hne hx
    · simp only [stealK, stealX, stealY, stealH, if_true, if_neg hc]
      refine (ringStealNone b o nx nx' hs hs' X w h ho hne (by
        cases hs' with
        | false => exact .inl rfl
        | true => exact .inr (by simp at hc; omega))).mono ?_
      rintro e w' ⟨rfl, nq, rfl⟩
      exact ⟨rfl, h.keep ((Ch.refl [] w).drewN nq) (by simp), ho.keep ((Ch.refl [] w).drewN nq) (by simp), (Ch.refl _ w).drewN nq⟩
  · simp only [stealX, stealY, stealH, if_neg hY]
    exact ringStealHalf b o nx nx' hs hs' X Y _ w h ho hne hY (by unfold stealK; rw [if_neg hY])
theorem refStealAny (r o : Nat) (S : List Nat) (nx nx' : Int) (hs hs' : Bool) (X Y : List Int) (w : World) (h : RG w r S (nxL nx hs) X) (ho : RG w o S (nxL nx' hs') Y) (hr : r ∈ S) (hoS : o ∈ S) (hS : ∀ k ∈ S, k < w.heap.size) (hne : r ≠ o) (hX : X.length ≤ 256) (hYl : Y.length ≤ 256) :
    Calls Try.prog 27 #[.pointer (some ⟨r, 0, none⟩), .pointer (some ⟨o, 0, none⟩)] w fun e w' => e = .returned (.int .i64 (stealK X Y hs')) ∧ RG w' r S (nxL nx hs) (stealX nx' hs' X Y) ∧ RG w' o S (nxL nx' (stealH hs' X Y)) (stealY hs' X Y) ∧ Ch [r, o] w w' := by
  by_cases hY : Y = []
  · subst hY
    by_cases hc : hs' = true ∧ X.length < 256
    · obtain ⟨rfl, hx⟩ := hc
      simp only [stealK, stealX, stealY, stealH, if_true, hx, and_self]
      exact refStealOne r o S _ X nx' w h ho hr hoS hS hne hx
    · simp only [stealK, stealX, stealY, stealH, if_true, if_neg hc]
      have key : Calls Try.prog 27 #[.pointer (some ⟨r, 0, none⟩), .pointer (some ⟨o, 0, none⟩)] w fun e w' => e = .returned (.int .i64 0) ∧ w' = w := by
        cases hs' with
        | false => exact refStealNone r o S _ X w h ho hne
        | true => exact refStealFull r o S _ X nx' w h ho hne (by simp at hc; omega)
      refine key.mono ?_
      rintro e w' ⟨rfl, rfl⟩
      exact ⟨rfl, h, ho, Ch.refl _ _⟩
  · simp only [stealX, stealY, stealH, if_neg hY]
    exact refStealHalf r o S _ X _ Y _ w h ho hr hoS hS hne hY hX hYl (by unfold stealK; rw [if_neg hY])
def delHit (nx : Int) (hs : Bool) (g : Int) : Bool := hs && nx == g
def delB (nx : Int) (hs : Bool) (X : List Int) (g : Int) : Bool := if delHit nx hs g then true else X.contains g
def delH (nx : Int) (hs : Bool) (g : Int) : Bool := if delHit nx hs g then false else hs
def delX (nx : Int) (hs : Bool) (X : List Int) (g : Int) : List Int := if delHit nx hs g then X else X.erase g
theorem refDelAny (r : Nat) (S : List Nat) (nx : Int) (hs : Bool) (X : List Int) (g : Int) (w : World) (h : RG w r S (nxL nx hs) X) (hr : r ∈ S) (hS : ∀ k ∈ S, k < w.heap.size) (hl : X.length ≤ 256) :
    Calls Try.prog 28 #[.pointer (some ⟨r, 0, none⟩), .int .i64 g] w fun e w' => e = .returned (.bool (delB nx hs X g)) ∧ RG w' r S (nxL nx (delH nx hs g)) (delX nx hs X g) ∧ Ch [r] w w' := by
  by_cases hh : delHit nx hs g = true
  · simp only [delB, delH, delX, hh, if_true]
    simp only [delHit, Bool.and_eq_true, beq_iff_eq] at hh
    obtain ⟨rfl, rfl⟩ := hh
    exact refRingDelNext r S X nx w h hr
  · simp only [delB, delH, delX, if_neg hh]
    refine refRingDelRow r S _ X g w h hr hS ?_ ?_
    · cases hs with
      | false => simp [nxL]
      | true => simp [delHit] at hh; simp [nxL]; exact fun e => hh e.symm
    · have : (nxL nx hs).length ≤ 1 := by unfold nxL; split <;> simp
      omega
theorem ringDelAny (b : Nat) (nx : Int) (hs : Bool) (X : List Int) (g : Int) (w : World) (h : RingAt w b nx hs X) :
    Calls Try.prog 24 #[.pointer (some ⟨b, 0, none⟩), .int .i64 g] w fun e w' => e = .returned (.bool (delB nx hs X g)) ∧ RingAt w' b nx (delH nx hs g) (delX nx hs X g) ∧ Ch [b] w w' := by
  by_cases hh : delHit nx hs g = true
  · simp only [delB, delH, delX, hh, if_true]
    simp only [delHit, Bool.and_eq_true, beq_iff_eq] at hh
    obtain ⟨rfl, rfl⟩ := hh
    exact ringDelNext b nx X w h
  · simp only [delB, delH, delX, if_neg hh]
    have hne : hs = true → nx ≠ g := fun h1 h2 => hh (by simp [delHit, h1, h2])
    rcases split_first X g with hx | ⟨p, q, rfl, hx⟩
    · rw [show X.contains g = false by simpa using hx, List.erase_of_not_mem hx]
      refine (ringDelNone b nx hs X g w h hne hx).mono ?_
      rintro e w' ⟨rfl, nq, rfl⟩
      exact ⟨rfl, h.keep ((Ch.refl [] w).drewN nq) (by simp), (Ch.refl _ w).drewN nq⟩
    · rw [show (p ++ g :: q).contains g = true by simp, show (p ++ g :: q).erase g = p ++ q by rw [List.erase_append_right _ hx, List.erase_cons_head]]
      exact ringDelRow b nx hs p q g w h hne hx
/-- Two rings beside the document's two; S are these four blocks; nothing of w has turned. -/
structure RPSt (w wr : World) (S : List Nat) (b o r s : Nat) (nx : Int) (hs : Bool) (X : List Int) (nx' : Int) (hs' : Bool) (Y : List Int) : Prop where
  pb : RingAt wr b nx hs X
  po : RingAt wr o nx' hs' Y
  rr : RG wr r S (nxL nx hs) X
  rs : RG wr s S (nxL nx' hs') Y
  ch : Ch [] w wr
  mS : b ∈ S ∧ o ∈ S ∧ r ∈ S ∧ s ∈ S
  lo : ∀ k ∈ S, w.heap.size ≤ k
  hi : ∀ k ∈ S, k < wr.heap.size
  di : b ≠ o ∧ r ≠ s ∧ b ≠ r ∧ b ≠ s ∧ o ≠ r ∧ o ≠ s
section
variable {w wr w2 w' : World} {S : List Nat} {b o r s : Nat} {nx nx' nx2 : Int} {hs hs' hs2 hs3 : Bool} {X Y X2 Y2 : List Int}
theorem RPSt.flip (h : RPSt w wr S b o r s nx hs X nx' hs' Y) : RPSt w wr S o b s r nx' hs' Y nx hs X :=
  ⟨h.po, h.pb, h.rs, h.rr, h.ch, ⟨h.mS.2.1, h.mS.1, h.mS.2.2.2, h.mS.2.2.1⟩, h.lo, h.hi, ⟨h.di.1.symm, h.di.2.1.symm, h.di.2.2.2.2.2, h.di.2.2.2.2.1, h.di.2.2.2.1, h.di.2.2.1⟩⟩
theorem RPSt.still (h : RPSt w wr S b o r s nx hs X nx' hs' Y) (hc : Ch [] wr w') : RPSt w w' S b o r s nx hs X nx' hs' Y :=
  ⟨h.pb.keep hc (by simp), h.po.keep hc (by simp), h.rr.keep hc (by simp) (by simp), h.rs.keep hc (by simp) (by simp), h.ch.trans hc, h.mS, h.lo, fun k hk => Nat.lt_of_lt_of_le (h.hi k hk) hc.size, h.di⟩
/-- The first pair has turned. -/
theorem RPSt.one (h : RPSt w wr S b o r s nx hs X nx' hs' Y) (hb : RingAt w2 b nx2 hs2 X2) (hc : Ch [b] wr w2) (hr : RG w' r S (nxL nx2 hs2) X2) (hc2 : Ch [r] w2 w') : RPSt w w' S b o r s nx2 hs2 X2 nx' hs' Y := by
  obtain ⟨d1, d2, d3, d4, d5, d6⟩ := h.di
  obtain ⟨m1, m2, m3, m4⟩ := h.mS
  have hc3 : Ch [b, r] wr w' := (hc.mono (by simp)).trans (hc2.mono (by simp))
  refine ⟨hb.keep hc2 (by simp; exact d3), h.po.keep hc3 (by simp; exact ⟨d1.symm, d5⟩), hr, h.rs.keep hc3 (by simp; exact ⟨d4.symm, d2.symm⟩) (by intro k hk; simp at hk; rcases hk with rfl | rfl; exact .inl m1; exact .inl m3), h.ch.transT hc3 (by intro k hk; simp at hk; rcases hk with rfl | rfl; exact .inr (h.lo _ m1); exact .inr (h.lo _ m3)), h.mS, h.lo, fun k hk => Nat.lt_of_lt_of_le (h.hi k hk) hc3.size, h.di⟩
end
end Go.Proofs.Yteghenfdncgpeaa
