/-
  What a barrier tells, as a rising list: the rising list of what was noted, without 0. No program in sight. Conditions: none.
-/
import Derived.Test.YtalnkhcippcghaaIns
import Derived.Test.YtalnkhcippcghaaBarrier2
namespace Go.Proofs.Ytalnkhcippcghaa
theorem mem_tell (out : List Int) (v y : Int) : y ∈ tell out v ↔ y ∈ out ∨ (y = v ∧ v ≠ 0) := by
  unfold tell
  split
  · rename_i h
    constructor
    · exact fun h => .inl h
    · rintro (h1 | ⟨rfl, h1⟩)
      · exact h1
      · rcases h with h | h
        · exact absurd h h1
        · exact h
  · rename_i h
    simp only [not_or] at h
    rw [List.mem_append, List.mem_singleton]
    constructor
    · rintro (h1 | h1)
      · exact .inl h1
      · exact .inr ⟨h1, h.1⟩
    · rintro (h1 | ⟨h1, _⟩)
      · exact .inl h1
      · exact .inr h1
theorem mem_tells (xs : List Int) (y : Int) : y ∈ xs.foldl tell [] ↔ y ∈ xs ∧ y ≠ 0 := by
  have : ∀ (xs l : List Int), y ∈ xs.foldl tell l ↔ y ∈ l ∨ (y ∈ xs ∧ y ≠ 0) := by
    intro xs
    induction xs with
    | nil => simp
    | cons x xs ih =>
      intro l
      rw [List.foldl_cons, ih, mem_tell, List.mem_cons]
      constructor
      · rintro ((h | ⟨rfl, h⟩) | ⟨h, h2⟩)
        · exact .inl h
        · exact .inr ⟨.inl rfl, h⟩
        · exact .inr ⟨.inr h, h2⟩
      · rintro (h | ⟨rfl | h, h2⟩)
        · exact .inl (.inl h)
        · exact .inl (.inr ⟨rfl, h2⟩)
        · exact .inr ⟨h, h2⟩
  have := this xs []
  simpa using this
theorem nodup_tells (xs : List Int) : (xs.foldl tell []).Nodup := by
  have : ∀ (xs l : List Int), l.Nodup → (xs.foldl tell l).Nodup := by
    intro xs
    induction xs with
    | nil => intro l h; exact h
    | cons x xs ih =>
      intro l h
      refine ih _ ?_
      unfold tell
      split
      · exact h
      · rename_i hx
        simp only [not_or] at hx
        rw [List.nodup_append]
        refine ⟨h, by simp, ?_⟩
        intro a ha b hb
        rw [List.mem_singleton] at hb
        subst hb
        rintro rfl
        exact hx.2 ha
  exact this xs [] (by simp)
theorem tells_rise (xs : List Int) : (insAll xs).erase 0 = insAll (xs.foldl tell []) := by
  refine eq_of_SS _ _ (List.Pairwise.sublist List.erase_sublist (SS_insAll xs)) (SS_insAll _) fun y => ?_
  rw [List.Nodup.mem_erase_iff (SS_nodup (SS_insAll xs)), mem_insAll, mem_insAll, mem_tells]
  exact ⟨fun h => ⟨h.2, h.1⟩, fun h => ⟨h.2, h.1⟩⟩
theorem tells_new (xs : List Int) (i : Nat) (h : i < (xs.foldl tell []).length) : (insAll ((xs.foldl tell []).take i)).contains (gI (xs.foldl tell []) i) = false := by
  have hn := nodup_tells xs
  generalize xs.foldl tell [] = F at h hn
  rw [gI_at F i h]
  have : F[i] ∉ insAll (F.take i) := by
    rw [mem_insAll]
    intro hm
    rw [List.mem_iff_getElem] at hm
    obtain ⟨j, hj, he⟩ := hm
    rw [List.length_take] at hj
    rw [List.getElem_take] at he
    have := (List.getElem_inj hn).1 he
    omega
  simpa using this
theorem take_next (F : List Int) (i : Nat) (h : i < F.length) : ins (insAll (F.take i)) (gI F i) = insAll (F.take (i + 1)) := by
  rw [List.take_succ_eq_append_getElem h, insAll_snoc, gI_at F i h]
end Go.Proofs.Ytalnkhcippcghaa
