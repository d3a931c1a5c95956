/-
  A ring by the list of all that are in it; and what the statements of layer 10 ask first: 'told' answers true. Conditions: none beyond what each theorem names.
-/
import Derived.Test.YteghenfdncgpeaaRing2
import Derived.Test.YteghenfdncgpeaaInts
import Derived.Test.YteghenfdncgpeaaRng
namespace Go.Proofs.Yteghenfdncgpeaa
open Go.RowKit
/-- b is a ring; all that are in it, the next one first, are L. -/
def RingL (w : World) (b : Nat) (L : List Int) : Prop := ∃ nx hs xs, RingAt w b nx hs xs ∧ ringList nx hs xs = L
theorem RingL.keep {w w' : World} {S : List Nat} {b : Nat} {L : List Int} (h : RingL w b L) (hc : Ch S w w') (hb : b ∉ S) : RingL w' b L := by
  obtain ⟨nx, hs, xs, h1, h2⟩ := h
  exact ⟨nx, hs, xs, h1.keep hc hb, h2⟩
theorem RingL.lt {w : World} {b : Nat} {L : List Int} (h : RingL w b L) : b < w.heap.size := by
  obtain ⟨nx, hs, xs, h1, h2⟩ := h
  exact h1.lt
theorem ringGetL (b : Nat) (x : Int) (t : List Int) (w : World) (h : RingL w b (x :: t)) :
    Calls Try.prog 19 #[.pointer (some ⟨b, 0, none⟩)] w fun e w' => e = .returned (.tuple #[.int .i64 x, .bool true]) ∧ RingL w' b t ∧ Ch [b] w w' := by
  obtain ⟨nx, hs, xs, h1, h2⟩ := h
  cases hs with
  | true =>
    simp only [ringList, if_true, List.cons.injEq] at h2
    obtain ⟨rfl, rfl⟩ := h2
    exact (ringGetNext b nx xs w h1).mono fun e w' ⟨a1, a2, a3⟩ => ⟨a1, ⟨nx, false, xs, a2, rfl⟩, a3⟩
  | false =>
    simp only [ringList, Bool.false_eq_true, if_false] at h2
    subst h2
    exact (ringGetRow b nx x t w h1).mono fun e w' ⟨a1, a2, a3⟩ => ⟨a1, ⟨nx, false, t, a2, rfl⟩, a3⟩
theorem ringGetL0 (b : Nat) (w : World) (h : RingL w b []) :
    Calls Try.prog 19 #[.pointer (some ⟨b, 0, none⟩)] w fun e w' => e = .returned (.tuple #[.int .i64 0, .bool false]) ∧ w' = w := by
  obtain ⟨nx, hs, xs, h1, h2⟩ := h
  cases hs with
  | true => simp [ringList] at h2
  | false =>
    simp only [ringList, Bool.false_eq_true, if_false] at h2
    subst h2
    exact ringGetEmpty b nx w h1
theorem ringAllL (b : Nat) (L : List Int) (w : World) (h : RingL w b L) :
    Calls Try.prog 20 #[.pointer (some ⟨b, 0, none⟩)] w fun e w' => ∃ v', e = .returned v' ∧ OwI w' w.heap.size v' L ∧ Ch [] w w' := by
  obtain ⟨nx, hs, xs, h1, h2⟩ := h
  rw [← h2]
  exact ringAll b nx hs xs w h1
theorem ringLenL (b : Nat) (L : List Int) (w : World) (h : RingL w b L) :
    Calls Try.prog 18 #[.pointer (some ⟨b, 0, none⟩)] w fun e w' => e = .returned (.int .i64 L.length) ∧ Ch [] w w' := by
  obtain ⟨nx, hs, xs, h1, h2⟩ := h
  rw [← h2]
  exact ringLen b nx hs xs w h1
theorem ringRoom {xs : List Int} {g : Int} (h : xs.length < 256) : ringRow xs g = xs ++ [g] ∧ ringOver xs g = [] := by
  unfold ringRow ringOver
  rw [if_pos h, if_pos h]
  exact ⟨rfl, rfl⟩
/-- Put into the row where there is room. -/
theorem ringPutIn (b : Nat) (nx : Int) (hs : Bool) (xs : List Int) (g : Int) (w : World) (h : RingAt w b nx hs xs) (hl : xs.length < 256) :
    Calls Try.prog 17 #[.pointer (some ⟨b, 0, none⟩), .int .i64 g, .bool false] w fun e w' => ∃ v' cap, e = .returned (.slice v' 0 cap) ∧ RingAt w' b nx hs (xs ++ [g]) ∧ Ch [b] w w' :=
  (ringPutRow b nx hs xs g w h).mono fun e w' ⟨v', h1, h2, h3, h4⟩ => by
    rw [(ringRoom hl).1] at h3
    rw [(ringRoom hl).2] at h2
    obtain ⟨a, cap, rfl, _⟩ := h2.form
    exact ⟨a, cap, h1, h3, h4⟩
theorem ringPutNextIn (b : Nat) (nx : Int) (xs : List Int) (g : Int) (w : World) (h : RingAt w b nx true xs) (hl : xs.length < 256) :
    Calls Try.prog 17 #[.pointer (some ⟨b, 0, none⟩), .int .i64 g, .bool true] w fun e w' => ∃ v' cap, e = .returned (.slice v' 0 cap) ∧ RingAt w' b g true (xs ++ [nx]) ∧ Ch [b] w w' :=
  (ringPutNext b nx xs g w h).mono fun e w' ⟨v', h1, h2, h3, h4⟩ => by
    rw [(ringRoom hl).1] at h3
    rw [(ringRoom hl).2] at h2
    obtain ⟨a, cap, rfl, _⟩ := h2.form
    exact ⟨a, cap, h1, h3, h4⟩
theorem told10 (w : World) : Calls Try.prog 21 #[] w fun e w' => e = .returned (.bool true) ∧ Ch [] w w' := by
  go_enter Try.func21, Try.ntmps21
  go_wp2_with fail
  refine (ringNew _).mono ?_; rintro e w1 ⟨rfl, h1, c1⟩
  obtain ⟨b, hb⟩ : ∃ b, w.heap.size = b := ⟨_, rfl⟩
  rw [hb] at h1 ⊢
  have HB := Lib.hid hb
  clear hb
  go_wp2_with fail
  refine (ringPutNew b 0 [] 1 _ h1).mono ?_; rintro e w2 ⟨rfl, h2, c2⟩
  go_wp2_with fail
  refine (ringPutNextIn b 1 [] 2 _ h2 (by decide)).mono ?_; rintro e w3 ⟨v3, p3, rfl, h3, c3⟩
  go_wp2_with fail
  refine (ringPutIn b 2 true _ 3 _ h3 (by decide)).mono ?_; rintro e w4 ⟨v4, p4, rfl, h4, c4⟩
  have l4 : RingL w4 b [2, 1, 3] := ⟨_, _, _, h4, rfl⟩
  go_wp2_with fail
  refine (ringAllL b [2, 1, 3] _ l4).mono ?_; rintro e w5 ⟨v5, rfl, o5, c5⟩
  go_wp2_with fail
  refine (ringGetL b 2 [1, 3] _ (l4.keep c5 (by simp))).mono ?_; rintro e w6 ⟨rfl, l6, c6⟩
  have o6 : OwI w6 w4.heap.size v5 [2, 1, 3] := o5.keepLt c6 (by intro q hq; simp at hq; subst hq; exact h4.lt)
  obtain ⟨a6, p6, rfl, _, _, r6⟩ := o6.form
  rw [show ([2, 1, 3] : List Int).length = 3 from rfl]
  go_wp2_with fail
  refine (ints_same _ _ [2, 1, 3] _ _ _ (r6.keep ((Ch.refl [] w6).alloc _) (by simp)) (rd_lit w6 [2, 1, 3]) (by decide)).mono ?_; rintro e w7 ⟨rfl, nq, rfl⟩
  have l7 : RingL ((w6.alloc (.cells #[.int .i64 2, .int .i64 1, .int .i64 3] 3)).drewN nq) b [1, 3] := l6.keep (((Ch.refl [] w6).alloc _).drewN nq) (by simp)
  go_wp2_with fail
  refine (ringLenL b [1, 3] _ l7).mono ?_; rintro e w8 ⟨rfl, c8⟩
  rw [show ([1, 3] : List Int).length = 2 from rfl]
  go_wp2
  go_ret
  have hC : Ch [b] w w6 := (((((c1.mono (by simp)).trans c2).trans c3).trans c4).trans (c5.mono (by simp))).trans c6
  exact ⟨rfl, (((hC.mono (T := []) (by intro q hq; simp at hq; subst hq; exact .inr (by have := HB.out; omega))).alloc _).drewN nq).trans c8⟩
end Go.Proofs.Yteghenfdncgpeaa
