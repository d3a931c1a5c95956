/-
  Sums over the numbers below n; the first number of which something holds. No program in sight. Conditions: none beyond what each theorem names.
-/
import Derived.Test.YteghenfdncgpeaaPts
namespace Go.Proofs.Yteghenfdncgpeaa
open Go.RowKit
def sumP (g : Nat → Nat) : Nat → Nat
  | 0 => 0
  | n + 1 => sumP g n + g n
theorem sumP_congr {g g' : Nat → Nat} : ∀ n, (∀ j, j < n → g' j = g j) → sumP g' n = sumP g n := by
  intro n
  induction n with
  | zero => intro _; rfl
  | succ n ih =>
    intro h
    unfold sumP
    rw [ih (fun j hj => h j (by omega)), h n (by omega)]
theorem sumP_upd {g g' : Nat → Nat} {i : Nat} : ∀ {n : Nat}, i < n → (∀ j, j < n → j ≠ i → g' j = g j) → sumP g' n + g i = sumP g n + g' i := by
  intro n
  induction n with
  | zero => intro h _; omega
  | succ n ih =>
    intro hi h
    unfold sumP
    by_cases e : i = n
    · subst e
      rw [sumP_congr i (fun j hj => h j (by omega) (by omega))]
      omega
    · have := ih (by omega) (fun j hj => h j (by omega))
      have := h n (by omega) (fun e' => e e'.symm)
      omega
theorem sumP_ge {g : Nat → Nat} {i : Nat} : ∀ {n : Nat}, i < n → g i ≤ sumP g n := by
  intro n
  induction n with
  | zero => intro h; omega
  | succ n ih =>
    intro hi
    unfold sumP
    by_cases e : i = n
    · subst e; omega
    · have := ih (by omega); omega
theorem sumP_zero : ∀ n, sumP (fun _ => 0) n = 0 := by
  intro n
  induction n with
  | zero => rfl
  | succ n ih => unfold sumP; rw [ih]
theorem sumP_only {g : Nat → Nat} {i : Nat} : ∀ {n : Nat}, i < n → (∀ j, j < n → j ≠ i → g j = 0) → sumP g n = g i := by
  intro n hi h
  have h1 := sumP_upd (g := g) (g' := fun _ => 0) hi (fun j hj hne => (h j hj hne).symm)
  rw [sumP_zero] at h1
  simp at h1
  omega
theorem sumP_le {g : Nat → Nat} {M : Nat} : ∀ {n : Nat}, (∀ j, j < n → g j ≤ M) → sumP g n ≤ n * M := by
  intro n
  induction n with
  | zero => intro _; simp [sumP]
  | succ n ih => intro h; unfold sumP; have := h n (by omega); have := ih (fun j hj => h j (by omega)); rw [Nat.succ_mul]; omega
def firstP (p : Nat → Bool) : Nat → Option Nat
  | 0 => none
  | n + 1 => match firstP p n with
    | some i => some i
    | none => if p n then some n else none
theorem firstP_none {p : Nat → Bool} : ∀ {n : Nat}, (∀ j, j < n → p j = false) → firstP p n = none := by
  intro n
  induction n with
  | zero => intro _; rfl
  | succ n ih =>
    intro h
    unfold firstP
    rw [ih (fun j hj => h j (by omega)), h n (by omega)]
    rfl
theorem firstP_some {p : Nat → Bool} {k : Nat} (hp : p k = true) (hk : ∀ j, j < k → p j = false) : ∀ {n : Nat}, k < n → firstP p n = some k := by
  intro n
  induction n with
  | zero => intro h; omega
  | succ n ih =>
    intro h
    unfold firstP
    by_cases e : k = n
    · subst e
      rw [firstP_none hk, hp]
      rfl
    · rw [ih (by omega)]
end Go.Proofs.Yteghenfdncgpeaa
