/-
  A struct whose one field is a slice of integers, as the document's answers have them: which list it holds. Conditions: none.
-/
import Derived.Test.YteghenfdncgpeaaPlan
import Derived.Test.YteghenfdncgpeaaOwI
namespace Go.Proofs.Yteghenfdncgpeaa
open Go.RowKit
/-- Block r (of type T) is one slice of integers that reads as xs; what it reads lies in no block of S. -/
def RefL (T : TypeId) (w : World) (r : Nat) (xs : List Int) (S : List Nat) : Prop := ∃ a cap, Blk w r #[.slice a xs.length cap] T ∧ Rd w a xs ∧ xs.length ≤ cap ∧ cap ≤ maxLen ∧ ∀ x, a = some x → x.block ∉ S
section
variable {T : TypeId} {w w' : World} {r : Nat} {xs : List Int} {S U : List Nat}
theorem RefL.keep (h : RefL T w r xs S) (hc : Ch U w w') (hr : r ∉ U) (hU : ∀ k ∈ U, k ∈ S) : RefL T w' r xs S := by
  obtain ⟨a, cap, h1, h2, h3, h4, h5⟩ := h
  exact ⟨a, cap, h1.keep hc hr, h2.keep hc (fun x hx hm => h5 x hx (hU _ hm)), h3, h4, h5⟩
theorem RefL.lt (h : RefL T w r xs S) : r < w.heap.size := by
  obtain ⟨a, cap, h1, _⟩ := h
  exact h1.lt
theorem RefL.new (T : TypeId) (w : World) (S : List Nat) : RefL T (w.alloc (.cells #[.slice none 0 0] T)) w.heap.size [] S := ⟨none, 0, Blk.new _ _ _, .inl rfl, Nat.le_refl _, Nat.zero_le _, fun x hx => by cases hx⟩
theorem RefL.drewN (h : RefL T w r xs S) (n : Nat) : RefL T (w.drewN n) r xs S := h.keep ((Ch.refl [] w).drewN n) (by simp) (by simp)
end
theorem Rd.dropA {w : World} {a : Option Addr} {xs : List Int} (h : Rd w a xs) (d c : Nat) (hc : xs.length ≤ c) : Rd w (if c = d then a else a.map fun x => x.add d) (xs.drop d) := by
  split
  · exact .inl (List.drop_eq_nil_of_le (by omega))
  · exact h.dropN d
end Go.Proofs.Yteghenfdncgpeaa
