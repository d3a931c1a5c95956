/-
  A set that a law has made, beside the world in which the law began; and what is counted on the way. Conditions: none beyond what each theorem names.
-/
import Derived.Test.YtheniiinioggiaaDoorBitsTold
namespace Go.Proofs.YtheniiinioggiaaDoor
open Go.RowKit
/-- A set, made since w. -/
structure SetSt (w wr : World) (b n : Nat) (S : Nat → Bool) (G : List Nat) : Prop where
  at_ : SetAt wr b n S G
  ch : Ch [] w wr
  lo : w.heap.size ≤ b
  loG : ∀ k ∈ G, w.heap.size ≤ k
section
variable {w wr w2 : World} {b n : Nat} {S T : Nat → Bool} {G : List Nat}
theorem SetSt.still (h : SetSt w wr b n S G) (hc : Ch [] wr w2) : SetSt w w2 b n S G := ⟨h.at_.ch hc, h.ch.trans hc, h.lo, h.loG⟩
theorem SetSt.turn (h : SetSt w wr b n S G) (h2 : SetAt w2 b n T G) (hc : Ch (b :: G) wr w2) : SetSt w w2 b n T G :=
  ⟨h2, h.ch.transT hc (by
    intro k hk
    simp only [List.mem_cons] at hk
    rcases hk with rfl | hk
    · exact .inr h.lo
    · exact .inr (h.loG k hk)), h.lo, h.loG⟩
theorem SetSt.congr (h : SetSt w wr b n S G) (hU : ∀ k, k < n → S k = T k) : SetSt w wr b n T G := ⟨h.at_.congr hU, h.ch, h.lo, h.loG⟩
theorem SetSt.tab (h : SetSt w wr b n S G) (hT : TabW w) : TabW wr := hT.ch h.ch
theorem stSet (i : Int) (h : SetSt w wr b n S G) :
    Calls Tryd.prog 15 #[.pointer (some ⟨b, 0, none⟩), .int .i64 i] wr fun e w' => e = .returned (.bool (setB S n i)) ∧ SetSt w w' b n (putS S n i true) G :=
  (bitsSet b n S G i wr h.at_).mono fun _ _ ⟨h1, h2, h3⟩ => ⟨h1, h.turn h2 h3⟩
theorem stClear (i : Int) (h : SetSt w wr b n S G) :
    Calls Tryd.prog 20 #[.pointer (some ⟨b, 0, none⟩), .int .i64 i] wr fun e w' => e = .returned (.bool (hasI S n i)) ∧ SetSt w w' b n (putS S n i false) G :=
  (bitsClear b n S G i wr h.at_).mono fun _ _ ⟨h1, h2, h3⟩ => ⟨h1, h.turn h2 h3⟩
end
theorem cnt_skip {S : Nat → Bool} {p k : Nat} (h : ∀ j, p ≤ j → j < k → S j = false) (hp : p ≤ k) : cnt S k = cnt S p := by
  induction k with
  | zero => obtain rfl : p = 0 := by omega
            rfl
  | succ k ih =>
    by_cases hpk : p = k + 1
    · subst hpk; rfl
    · rw [cnt_succ, ih (fun j h1 h2 => h j h1 (by omega)) (by omega), h k (by omega) (by omega)]
      simp
def notS (S : Nat → Bool) : Nat → Bool := fun k => !S k
theorem cnt_not (S : Nat → Bool) (n : Nat) : cnt S n + cnt (notS S) n = n := by
  induction n with
  | zero => rfl
  | succ n ih =>
    rw [cnt_succ, cnt_succ]
    cases hS : S n <;> simp [notS, hS] at * <;> omega
/-- The walk from number to number: behind p so many were told. -/
theorem nxt_step (S : Nat → Bool) (n p : Nat) (hp : p ≤ n) : (nxt S n p true = -1 ∧ cnt S n = cnt S p) ∨ ∃ k : Nat, nxt S n p true = (k : Int) ∧ k < n ∧ p ≤ k ∧ S k = true ∧ cnt S (k + 1) = cnt S p + 1 := by
  rcases nxt_cases S n p true with ⟨h1, h2⟩ | ⟨k, h1, h2, h3, h4, h5⟩
  · exact .inl ⟨h1, cnt_skip (fun j a b => by have := h2 j a b; simpa using this) hp⟩
  · refine .inr ⟨k, h1, h2, h3, h4, ?_⟩
    rw [cnt_succ, cnt_skip (fun j a b => by have := h5 j a b; simpa using this) h3, h4]
    simp
theorem nxt_not (S : Nat → Bool) (n p : Nat) : nxt S n p false = nxt (notS S) n p true := by
  unfold nxt
  congr 2
  funext k
  cases h : S k <;> simp [notS, h]
end Go.Proofs.YtheniiinioggiaaDoor
