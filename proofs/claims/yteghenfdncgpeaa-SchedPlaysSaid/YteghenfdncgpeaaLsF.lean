/-
  A list of integers that is only read, beside blocks that turn. Conditions: none beyond what each theorem names.
-/
import Derived.Test.YteghenfdncgpeaaOwI
namespace Go.Proofs.Yteghenfdncgpeaa
open Go.RowKit
/-- The slice (a, xs.length, c) reads as xs; what it reads lies in none of the blocks of S. -/
def LsF (w : World) (S : List Nat) (a : Option Addr) (c : Nat) (xs : List Int) : Prop :=
  Rd w a xs ∧ xs.length ≤ c ∧ c ≤ maxLen ∧ (xs = [] ∨ ∃ y, a = some y ∧ y.block < w.heap.size ∧ y.block ∉ S)
section
variable {w w' : World} {S T U : List Nat} {a : Option Addr} {c B : Nat} {v : Value} {xs : List Int}
theorem LsF.step (h : LsF w S a c xs) (hc : Ch T w w') (hT : ∀ k ∈ T, k ∈ S ∨ w.heap.size ≤ k) (hU : ∀ k ∈ U, k ∈ S ∨ w.heap.size ≤ k) : LsF w' U a c xs := by
  obtain ⟨h1, h2, h3, h4⟩ := h
  rcases h4 with rfl | ⟨y, rfl, h5, h6⟩
  · exact ⟨.inl rfl, h2, h3, .inl rfl⟩
  · refine ⟨h1.keep hc (fun x hx hm => ?_), h2, h3, .inr ⟨y, rfl, Nat.lt_of_lt_of_le h5 hc.size, fun hm => ?_⟩⟩
    · cases hx
      rcases hT _ hm with h | h
      · exact h6 h
      · omega
    · rcases hU _ hm with h | h
      · exact h6 h
      · omega
theorem LsF.keep (h : LsF w S a c xs) (hc : Ch T w w') (hT : ∀ k ∈ T, k ∈ S ∨ w.heap.size ≤ k) : LsF w' S a c xs := h.step hc hT (fun _ hk => .inl hk)
theorem LsF.nil (w : World) (S : List Nat) : LsF w S none 0 [] := ⟨.inl rfl, Nat.le_refl _, Nat.zero_le _, .inl rfl⟩
theorem LsF.rd (h : LsF w S a c xs) : Rd w a xs := h.1
theorem OwI.lsF (h : OwI w B v xs) (hS : ∀ k ∈ S, k < B) : ∃ a c, v = .slice a xs.length c ∧ LsF w S a c xs := by
  obtain ⟨a, c, rfl, h1, h2, h3⟩ := h.form
  refine ⟨a, c, rfl, h3, h1, h2, ?_⟩
  cases a with
  | none =>
    left
    rcases h3 with h3 | ⟨b, o, he, _⟩
    · exact h3
    · cases he
  | some y => exact .inr ⟨y, rfl, h.lt y.block rfl, fun hm => by have := hS _ hm; have := h.2 y.block rfl; omega⟩
theorem LsF.tail {x : Int} {b o : Nat} (h : LsF w S (some ⟨b, o, none⟩) c (x :: xs)) : LsF w S (if c = 1 then some ⟨b, o, none⟩ else some ⟨b, o + 1, none⟩) (c - 1) xs := by
  obtain ⟨h1, h2, h3, h4⟩ := h
  have hr := h1.dropIf (k := 1) h2
  simp only [List.drop_succ_cons, List.drop_zero] at hr
  refine ⟨hr, by simp at h2; omega, by omega, ?_⟩
  rcases h4 with h4 | ⟨y, hy, h5, h6⟩
  · cases h4
  · cases hy
    right
    split
    · exact ⟨_, rfl, h5, h6⟩
    · exact ⟨_, rfl, h5, h6⟩
theorem LsF.at (h : LsF w S a c xs) {i : Nat} (hi : i < xs.length) : ∃ b o, a = some ⟨b, o, none⟩ ∧ ∀ i, i < xs.length → w.cell? ⟨b, o + i, none⟩ = some (.int .i64 (gI xs i)) := h.1.at hi
end
end Go.Proofs.Yteghenfdncgpeaa
