/-
  Runs of numbers, as lists. Conditions: none beyond what each theorem names.
-/
import Derived.Test.YteghenfdncgpeaaMem
namespace Go.Proofs.Yteghenfdncgpeaa
open Go.RowKit
/-- c, c + 1, ..: n numbers. -/
def rng (c : Int) (n : Nat) : List Int := (List.range n).map fun (i : Nat) => c + (i : Int)
theorem rng_len (c : Int) (n : Nat) : (rng c n).length = n := by simp [rng]
theorem rng_succ (c : Int) (n : Nat) : rng c (n + 1) = rng c n ++ [c + (n : Int)] := by simp [rng, List.range_succ]
theorem rng_zero (n : Nat) : rng 0 (n + 1) = rng 0 n ++ [(n : Int)] := by rw [rng_succ, Int.zero_add]
theorem mem_rng (c : Int) (n : Nat) (x : Int) : x ∈ rng c n ↔ c ≤ x ∧ x < c + n := by
  simp only [rng, List.mem_map, List.mem_range]
  constructor
  · rintro ⟨a, ha, rfl⟩; omega
  · intro h; exact ⟨(x - c).toNat, by omega, by omega⟩
theorem rng_split (c : Int) (n m : Nat) : rng c (n + m) = rng c n ++ rng (c + n) m := by
  induction m with
  | zero => simp [rng]
  | succ m ih => rw [← Nat.add_assoc, rng_succ, ih, rng_succ, List.append_assoc]; congr 3; omega
theorem rng_cons (c : Int) (n : Nat) : rng c (n + 1) = c :: rng (c + 1) n := by
  rw [Nat.add_comm, rng_split]
  simp [rng]
theorem rng_take (c : Int) (n m : Nat) (h : n ≤ m) : (rng c m).take n = rng c n := by
  rw [show m = n + (m - n) by omega, rng_split, List.take_left' (rng_len c n)]
theorem gI_snd (p q : List Int) (n i : Nat) (h : p.length = n) : gI (p ++ q) (n + i) = gI q i := by
  simp only [gI, List.getD_eq_getElem?_getD]
  rw [List.getElem?_append_right (by omega), h, Nat.add_sub_cancel_left]
theorem gI_rng (c : Int) (n i : Nat) (h : i < n) : gI (rng c n) i = c + i := by simp [gI, rng, h]
end Go.Proofs.Yteghenfdncgpeaa
