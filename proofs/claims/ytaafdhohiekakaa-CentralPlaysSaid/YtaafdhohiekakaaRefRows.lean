/-
  A block of slices of integers that are only read, beside blocks that turn. Conditions: none beyond what each theorem names.
-/
import Derived.Test.YtaafdhohiekakaaRowset
import Derived.Test.YtaafdhohiekakaaLsF
namespace Go.Proofs.Ytaafdhohiekakaa
open Go.RowKit
/-- Block r (of type T) is some slices; the i-th reads as the i-th list; what they read lies in no block of S. -/
def RRows (w : World) (r : Nat) (T : TypeId) (us : List Value) (Ls : List (List Int)) (S : List Nat) : Prop :=
  us.length = Ls.length ∧ Blk w r us.toArray T ∧ ∀ (i : Nat) (v : Value), us[i]? = some v → ∃ a c, v = .slice a (gL Ls i).length c ∧ LsF w S a c (gL Ls i)
section
variable {w w' : World} {r : Nat} {T : TypeId} {us : List Value} {Ls : List (List Int)} {S U V : List Nat}
theorem RRows.step (h : RRows w r T us Ls S) (hc : Ch V w w') (hr : r ∉ V) (hV : ∀ k ∈ V, k ∈ S ∨ w.heap.size ≤ k) (hU : ∀ k ∈ U, k ∈ S ∨ w.heap.size ≤ k) : RRows w' r T us Ls U :=
  ⟨h.1, h.2.1.keep hc hr, fun i v hv => by
    obtain ⟨a, c, rfl, hl⟩ := h.2.2 i v hv
    exact ⟨a, c, rfl, hl.step hc hV hU⟩⟩
theorem RRows.keep (h : RRows w r T us Ls S) (hc : Ch V w w') (hr : r ∉ V) (hV : ∀ k ∈ V, k ∈ S ∨ w.heap.size ≤ k) : RRows w' r T us Ls S := h.step hc hr hV (fun _ hk => .inl hk)
theorem RRows.still (h : RRows w r T us Ls S) (hc : Ch [] w w') : RRows w' r T us Ls S := h.keep hc (by simp) (by simp)
theorem RRows.lt (h : RRows w r T us Ls S) : r < w.heap.size := h.2.1.lt
theorem RRows.at (h : RRows w r T us Ls S) {i : Nat} (hi : i < Ls.length) : ∃ a c, us[i]? = some (.slice a (gL Ls i).length c) ∧ w.cell? ⟨r, i, none⟩ = some (.slice a (gL Ls i).length c) ∧ LsF w S a c (gL Ls i) := by
  have hl : i < us.length := by rw [h.1]; exact hi
  have e : us[i]? = some us[i] := List.getElem?_eq_getElem hl
  obtain ⟨a, c, hv, hL⟩ := h.2.2 i _ e
  refine ⟨a, c, by rw [e, hv], ?_, hL⟩
  rw [h.2.1.cell]
  simp [hl, hv]
/-- One slice is laid anew. -/
theorem RRows.set (h : RRows w r T us Ls S) (hr : r ∈ S) {i : Nat} (hi : i < Ls.length) {a : Option Addr} {c n : Nat} {L : List Int} (hL : LsF w S a c L) (hn : L.length = n) :
    RRows (w.setCell ⟨r, i, none⟩ (.slice a n c)) r T (us.set i (.slice a n c)) (Ls.set i L) S ∧ Ch [r] w (w.setCell ⟨r, i, none⟩ (.slice a n c)) := by
  subst hn
  have cs : Ch [r] w (w.setCell ⟨r, i, none⟩ (.slice a L.length c)) := (Ch.refl [r] w).setCell (.inl (by simp)) _
  refine ⟨⟨by simp [h.1], ?_, ?_⟩, cs⟩
  · have := h.2.1.set i (.slice a L.length c)
    simpa using this
  · intro j v hv
    rw [gL_set _ _ _ _ hi]
    by_cases hj : j = i
    · subst hj
      rw [List.getElem?_set_self (by rw [h.1]; exact hi)] at hv
      cases hv
      rw [if_pos rfl]
      exact ⟨a, c, rfl, hL.keep cs (by intro k hk; simp at hk; subst hk; exact .inl hr)⟩
    · rw [List.getElem?_set_ne (fun e => hj e.symm)] at hv
      rw [if_neg hj]
      obtain ⟨a', c', rfl, hl⟩ := h.2.2 j v hv
      exact ⟨a', c', rfl, hl.keep cs (by intro k hk; simp at hk; subst hk; exact .inl hr)⟩
end
theorem first_hit (P : Nat → Bool) (n : Nat) : (∀ k, k < n → P k = false) ∨ ∃ j, j < n ∧ P j = true ∧ ∀ k, k < j → P k = false := by
  induction n with
  | zero => exact .inl (fun k hk => by omega)
  | succ n ih =>
    rcases ih with ih | ⟨j, hj, h1, h2⟩
    · cases hP : P n with
      | false => exact .inl (fun k hk => by
          by_cases hkn : k = n
          · subst hkn; exact hP
          · exact ih k (by omega))
      | true => exact .inr ⟨n, by omega, hP, ih⟩
    · exact .inr ⟨j, by omega, h1, h2⟩
theorem contains_split {L : List Int} {g : Int} (h : L.contains g = true) : ∃ p q, L = p ++ g :: q ∧ g ∉ p ∧ L.erase g = p ++ q := by
  rcases split_first L g with h1 | ⟨p, q, rfl, hp⟩
  · simp [h1] at h
  · exact ⟨p, q, rfl, hp, by rw [List.erase_append_right _ hp, List.erase_cons_head]⟩
end Go.Proofs.Ytaafdhohiekakaa
