/-
  Slices of pointers; functions turned at one place. Conditions: none beyond what each theorem names.
-/
import Derived.Test.YteghenfdncgpeaaMem
import Derived.Test.YteghenfdncgpeaaInfo
import Derived.Test.YteghenfdncgpeaaPlan
namespace Go.Proofs.Yteghenfdncgpeaa
open Go.RowKit
def ptrV (b : Nat) : Value := .pointer (some ⟨b, 0, none⟩)
/-- A slice of pointers of one's own. -/
def PtS (w : World) (e : TypeId) (v : Value) (ns : List Nat) : Prop := Own w e 1 v ns.length (ns.map ptrV)
def updN {α : Type} (f : Nat → α) (i : Nat) (v : α) : Nat → α := fun k => if k = i then v else f k
theorem updN_at {α : Type} (f : Nat → α) (i : Nat) (v : α) : updN f i v i = v := by simp [updN]
theorem updN_ne {α : Type} (f : Nat → α) {i j : Nat} (v : α) (h : j ≠ i) : updN f i v j = f j := by simp [updN, h]
theorem updN_upd {α : Type} (f : Nat → α) (i : Nat) (u v : α) : updN (updN f i u) i v = updN f i v := by
  funext k
  unfold updN
  by_cases h : k = i <;> simp [h]
theorem updN_self {α : Type} (f : Nat → α) (i : Nat) : updN f i (f i) = f := by
  funext k
  unfold updN
  by_cases h : k = i <;> simp [h]
theorem Own.blkAt {w : World} {e : TypeId} {v : Value} {n : Nat} {xs : List Value} {k : Nat} (h : Own w e 1 v n xs) (hk : v.ownBlock = some k) : ∃ cs, Blk w k cs e := by
  rcases h.2 with ⟨rfl, _⟩ | ⟨g, off, cap, cur, rfl, hg, _⟩
  · simp [Value.ownBlock] at hk
  · simp [Value.ownBlock] at hk
    subst hk
    exact ⟨_, hg⟩
theorem PtS.form {w : World} {e : TypeId} {v : Value} {ns : List Nat} (h : PtS w e v ns) : ∃ a cap, v = .slice a ns.length cap ∧ ns.length ≤ cap ∧ cap ≤ maxLen ∧ ∀ i b, ns[i]? = some b → ∃ g o, a = some ⟨g, o, none⟩ ∧ w.cell? ⟨g, o + i, none⟩ = some (ptrV b) := by
  by_cases hn : 0 < ns.length
  · obtain ⟨g, off, cap, rfl, h1, h2, h3, _⟩ := Own.cellsOf h hn
    refine ⟨_, cap, rfl, h1, h2, fun i b hb => ⟨g, off, rfl, h3 i _ (by simp [hb])⟩⟩
  · obtain ⟨a, cap, rfl, h1, _⟩ := Own.form h
    have h0 : ns = [] := List.eq_nil_of_length_eq_zero (by omega)
    subst h0
    refine ⟨a, cap, rfl, h1, ?_, fun i b hb => by simp at hb⟩
    rcases h.2 with ⟨hv, _⟩ | ⟨g, off, cap', cur, hv, _, _, h2, _⟩
    · cases hv; unfold maxLen; omega
    · cases hv; exact h2
theorem nodup_ne {X : List Nat} (h : X.Nodup) {i j x y : Nat} (hi : X[i]? = some x) (hj : X[j]? = some y) (hij : i ≠ j) : x ≠ y := by
  obtain ⟨hi', rfl⟩ := List.getElem?_eq_some_iff.1 hi
  obtain ⟨hj', rfl⟩ := List.getElem?_eq_some_iff.1 hj
  have hp := List.pairwise_iff_getElem.1 h
  rcases Nat.lt_or_gt_of_ne hij with hl | hl
  · exact hp i j hi' hj' hl
  · exact (hp j i hj' hi' hl).symm
theorem getPush {α : Type} {l : List α} {a b : α} {k : Nat} (h : (l ++ [a])[k]? = some b) : l[k]? = some b ∨ k = l.length ∧ b = a := by
  rw [List.getElem?_append] at h
  split at h
  · exact .inl h
  · next hk =>
    right
    rw [List.getElem?_singleton] at h
    split at h
    · next hk2 =>
      cases h
      exact ⟨by omega, rfl⟩
    · cases h
end Go.Proofs.Yteghenfdncgpeaa
