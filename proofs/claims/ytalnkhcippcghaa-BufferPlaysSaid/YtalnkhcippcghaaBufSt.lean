/-
  Two buffers beside the document's two: what their operations do to the pair of lists, whatever the case. Conditions: none beyond what each theorem names.
-/
import Derived.Test.YtalnkhcippcghaaRefBuf
import Derived.Test.YtalnkhcippcghaaBufStack
namespace Go.Proofs.Ytalnkhcippcghaa
open Go.RowKit
def putL (X : List Int) (v : Int) : List Int := if X.length < 32 then X ++ [v] else X
def putB (X : List Int) : Bool := decide (X.length < 32)
def halfN (X Y : List Int) : Nat := if X.length / 2 ≤ 32 - Y.length then X.length / 2 else 0
theorem BufAt.le {w : World} {b : Nat} {xs : List Int} (h : BufAt w b xs) : xs.length ≤ 32 := h.choose_spec.2.1
theorem bufPutAny (b : Nat) (X : List Int) (v : Int) (w : World) (h : BufAt w b X) : Calls Try.prog 13 #[.pointer (some ⟨b, 0, none⟩), .int .i64 v] w fun e w' => e = .returned (.bool (putB X)) ∧ BufAt w' b (putL X v) ∧ Ch [b] w w' := by
  have hl := h.le
  unfold putB putL
  by_cases hx : X.length < 32
  · rw [if_pos hx, decide_eq_true hx]
    exact bufPut b X v w h hx
  · rw [if_neg hx, decide_eq_false hx]
    refine (bufPutFull b X v w h (by omega)).mono ?_
    rintro e w' ⟨rfl, rfl⟩
    exact ⟨rfl, h, Ch.refl _ _⟩
theorem refPutAny (r : Nat) (X : List Int) (v : Int) (S : List Nat) (w : World) (h : RefL 28 w r X S) (hS : ∀ k ∈ S, k < w.heap.size) (hl : X.length ≤ 32) :
    Calls Try.prog 14 #[.pointer (some ⟨r, 0, none⟩), .int .i64 v] w fun e w' => e = .returned (.bool (putB X)) ∧ RefL 28 w' r (putL X v) S ∧ Ch [r] w w' := by
  unfold putB putL
  by_cases hx : X.length < 32
  · rw [if_pos hx, decide_eq_true hx]
    exact refPut r X v S w h hS hx
  · rw [if_neg hx, decide_eq_false hx]
    refine (refPutFull r X v S w h (by omega)).mono ?_
    rintro e w' ⟨rfl, rfl⟩
    exact ⟨rfl, h, Ch.refl _ _⟩
theorem bufHalfU (b o : Nat) (X Y : List Int) (w : World) (h : BufAt w b X) (ho : BufAt w o Y) (hne : b ≠ o) :
    Calls Try.prog 17 #[.pointer (some ⟨b, 0, none⟩), .pointer (some ⟨o, 0, none⟩)] w fun e w' => e = .returned (.int .i64 (halfN X Y)) ∧ BufAt w' b (X.take (X.length - halfN X Y)) ∧ BufAt w' o (Y ++ X.drop (X.length - halfN X Y)) ∧ Ch [b, o] w w' := by
  unfold halfN
  by_cases hr : X.length / 2 ≤ 32 - Y.length
  · rw [if_pos hr]
    exact bufHalf b o X Y w h ho hne hr
  · rw [if_neg hr]
    refine (bufHalfNo b o X Y w h ho hne (by omega)).mono ?_
    rintro e w' ⟨rfl, rfl⟩
    refine ⟨rfl, ?_, ?_, Ch.refl _ _⟩
    · simpa using h
    · simpa using ho
theorem refHalfU (r s : Nat) (X Y : List Int) (S : List Nat) (w : World) (h : RefL 28 w r X S) (ho : RefL 28 w s Y S) (hS : ∀ k ∈ S, k < w.heap.size) (hr : r ∈ S) (hsS : s ∈ S) (hne : r ≠ s) (hx : X.length ≤ 32) (hy : Y.length ≤ 32) :
    Calls Try.prog 18 #[.pointer (some ⟨r, 0, none⟩), .pointer (some ⟨s, 0, none⟩)] w fun e w' => e = .returned (.int .i64 (halfN X Y)) ∧
      RefL 28 w' r (X.take (X.length - halfN X Y)) S ∧ RefL 28 w' s (Y ++ X.drop (X.length - halfN X Y)) S ∧ Ch [r, s] w w' := by
  unfold halfN
  by_cases hr' : X.length / 2 ≤ 32 - Y.length
  · rw [if_pos hr']
    exact refHalf r s X Y S w h ho hS hr hsS hne hx hy hr'
  · rw [if_neg hr']
    refine (refHalfNo r s X Y S w h ho hne hx hy (by omega)).mono ?_
    rintro e w' ⟨rfl, rfl⟩
    refine ⟨rfl, ?_, ?_, Ch.refl _ _⟩
    · simpa using h
    · simpa using ho
/-- The pair of buffers b, o and the document's r, s hold X and Y; S are these four blocks; nothing of w has turned. -/
structure St (w wr : World) (S : List Nat) (b o r s : Nat) (X Y : List Int) : Prop where
  pb : BufAt wr b X
  po : BufAt wr o Y
  rr : RefL 28 wr r X S
  rs : RefL 28 wr s Y S
  ch : Ch [] w wr
  bS : b ∈ S
  oS : o ∈ S
  rS : r ∈ S
  sS : s ∈ S
  lo : ∀ k ∈ S, w.heap.size ≤ k
  hi : ∀ k ∈ S, k < wr.heap.size
  bo : b ≠ o
  rs' : r ≠ s
  br : b ≠ r
  bs : b ≠ s
  or : o ≠ r
  os : o ≠ s
theorem St.flip {w wr : World} {S : List Nat} {b o r s : Nat} {X Y : List Int} (h : St w wr S b o r s X Y) : St w wr S o b s r Y X :=
  ⟨h.po, h.pb, h.rs, h.rr, h.ch, h.oS, h.bS, h.sS, h.rS, h.lo, h.hi, h.bo.symm, h.rs'.symm, h.os, h.or, h.bs, h.br⟩
theorem St.keep {w wr w' : World} {S : List Nat} {b o r s : Nat} {X Y : List Int} (h : St w wr S b o r s X Y) (hc : Ch [] wr w') : St w w' S b o r s X Y :=
  { h with pb := h.pb.keep hc (by simp), po := h.po.keep hc (by simp), rr := h.rr.keep hc (by simp) (by simp), rs := h.rs.keep hc (by simp) (by simp), ch := h.ch.trans hc, hi := fun k hk => Nat.lt_of_lt_of_le (h.hi k hk) hc.size }
theorem St.one {w wr w' : World} {S : List Nat} {b o r s : Nat} {X Y X' : List Int} (h : St w wr S b o r s X Y) (hb : BufAt w' b X') (hr : RefL 28 w' r X' S) (hc : Ch [b, r] wr w') : St w w' S b o r s X' Y :=
  { h with pb := hb, po := h.po.keep hc (by simp [h.bo.symm, h.or]), rr := hr, rs := h.rs.keep hc (by simp [h.bs.symm, h.rs'.symm]) (by simp [h.bS, h.rS]), ch := h.ch.transT hc (by intro k hk; simp at hk; rcases hk with rfl | rfl; exact .inr (h.lo _ h.bS); exact .inr (h.lo _ h.rS)), hi := fun k hk => Nat.lt_of_lt_of_le (h.hi k hk) hc.size }
theorem St.both {w wr w' : World} {S : List Nat} {b o r s : Nat} {X Y X' Y' : List Int} (h : St w wr S b o r s X Y) (hb : BufAt w' b X') (ho : BufAt w' o Y') (hr : RefL 28 w' r X' S) (hs : RefL 28 w' s Y' S) (hc : Ch S wr w') : St w w' S b o r s X' Y' :=
  { h with pb := hb, po := ho, rr := hr, rs := hs, ch := h.ch.transT hc (fun k hk => .inr (h.lo k hk)), hi := fun k hk => Nat.lt_of_lt_of_le (h.hi k hk) hc.size }
end Go.Proofs.Ytalnkhcippcghaa
