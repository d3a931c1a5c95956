/-
  A list of one's own beside a scheduler's blocks. Conditions: none beyond what each theorem names.
-/
import Derived.Test.YteghenfdncgpeaaSchMath
namespace Go.Proofs.Yteghenfdncgpeaa
open Go.RowKit
/-- A list of one's own, in blocks from B on, none of D. -/
def OwD (w : World) (B : Nat) (D : List Nat) (v : Value) (xs : List Int) : Prop := OwI w B v xs ∧ ∀ k, v.ownBlock = some k → k ∉ D
section
variable {w0 w w2 : World} {B s n : Nat} {D D' T : List Nat} {v v' : Value} {xs ys : List Int} {st : SSt}
theorem OwD.nil (w : World) (B : Nat) (D : List Nat) : OwD w B D (.slice none 0 0) [] := ⟨OwI.nil _ _, by simp [Value.ownBlock]⟩
theorem OwD.still (h : OwD w B D v xs) (hc : Ch [] w w2) : OwD w2 B D v xs := ⟨h.1.keep hc (by simp), h.2⟩
theorem OwD.sdt (h : OwD w B D v xs) (hc : Ch D w w2) (hD : ∀ k ∈ D', k ∈ D ∨ w.heap.size ≤ k) : OwD w2 B D' v xs := by
  refine ⟨h.1.keep hc (fun k hk he => h.2 k he hk), fun k hk hm => ?_⟩
  rcases hD k hm with e | e
  · exact h.2 k hk e
  · have := h.1.lt k hk; omega
theorem OwD.new (h : OwD w B D v xs) (ho : OwI w2 B v' ys) (hn : NewAt w v v') (hD : ∀ k ∈ D, k < w.heap.size) : OwD w2 B D v' ys := by
  refine ⟨ho, fun k hk hm => ?_⟩
  rcases hn with e | e
  · exact h.2 k (by rw [← e]; exact hk) hm
  · have := e k hk; have := hD k hm; omega
theorem OwD.turn (h : SD w0 w D s n st) (ho : OwD w w0.heap.size D v xs) (hc : Ch v.ownBlock.toList w w2) : SD w0 w2 D s n st :=
  h.beside hc (fun k hk => ho.2 k (by simpa using hk)) (fun k hk => ho.1.2 k (by simpa using hk))
theorem OwD.rd (h : OwD w B D v xs) : ∃ a cap, v = .slice a xs.length cap ∧ xs.length ≤ cap ∧ Rd w a xs := by
  obtain ⟨a, cap, e, h1, _, h2⟩ := h.1.form
  exact ⟨a, cap, e, h1, h2⟩
end
end Go.Proofs.Yteghenfdncgpeaa
