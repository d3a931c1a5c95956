/-
  A rising list with one more number; two rising lists with the same members are one; what a barrier tells. No program in sight. Conditions: none beyond what each theorem names.
-/
import Derived.Test.YtheniiinioggiaaDoorMem
namespace Go.Proofs.YtheniiinioggiaaDoor
/-- A rising list with a number, once. -/
def ins : List Int → Int → List Int
  | [], x => [x]
  | y :: l, x => if y < x then y :: ins l x else if y = x then y :: l else x :: y :: l
def SS (l : List Int) : Prop := l.Pairwise (· < ·)
theorem mem_ins (l : List Int) (x y : Int) : y ∈ ins l x ↔ y = x ∨ y ∈ l := by
  induction l with
  | nil => simp [ins]
  | cons z l ih =>
    unfold ins
    split
    · simp only [List.mem_cons, ih]
      constructor
      · rintro (h | h | h)
        · exact .inr (.inl h)
        · exact .inl h
        · exact .inr (.inr h)
      · rintro (h | h | h)
        · exact .inr (.inl h)
        · exact .inl h
        · exact .inr (.inr h)
    · split
      · rename_i h
        subst h
        simp
      · simp
theorem SS_ins (l : List Int) (x : Int) (h : SS l) : SS (ins l x) := by
  induction l with
  | nil => simp [ins, SS]
  | cons z l ih =>
    unfold SS at h ih ⊢
    rw [List.pairwise_cons] at h
    unfold ins
    split
    · rename_i hz
      rw [List.pairwise_cons]
      refine ⟨fun y hy => ?_, ih h.2⟩
      rw [mem_ins] at hy
      rcases hy with rfl | hy
      · exact hz
      · exact h.1 y hy
    · split
      · rw [List.pairwise_cons]; exact h
      · rename_i h1 h2
        rw [List.pairwise_cons, List.pairwise_cons]
        refine ⟨fun y hy => ?_, h⟩
        rcases List.mem_cons.1 hy with rfl | hy
        · omega
        · have := h.1 y hy; omega
theorem eq_of_SS : ∀ (l k : List Int), SS l → SS k → (∀ x, x ∈ l ↔ x ∈ k) → l = k
  | [], [], _, _, _ => rfl
  | [], y :: k, _, _, h => by have := (h y).2 (by simp); cases this
  | x :: l, [], _, _, h => by have := (h x).1 (by simp); cases this
  | x :: l, y :: k, hl, hk, h => by
    unfold SS at hl hk
    rw [List.pairwise_cons] at hl hk
    have hxy : x = y := by
      have h1 := (h x).1 (by simp)
      have h2 := (h y).2 (by simp)
      rcases List.mem_cons.1 h1 with h1 | h1
      · exact h1
      · rcases List.mem_cons.1 h2 with h2 | h2
        · exact h2.symm
        · have a := hl.1 y h2
          have b := hk.1 x h1
          omega
    subst hxy
    congr 1
    refine eq_of_SS l k hl.2 hk.2 fun z => ?_
    have hz := h z
    simp only [List.mem_cons] at hz
    constructor
    · intro hm
      have := hl.1 z hm
      rcases hz.1 (.inr hm) with h | h
      · omega
      · exact h
    · intro hm
      have := hk.1 z hm
      rcases hz.2 (.inr hm) with h | h
      · omega
      · exact h
theorem SS_nodup {l : List Int} (h : SS l) : l.Nodup := List.Pairwise.imp (fun {a b} (hab : a < b) => (by omega : a ≠ b)) h
/-- All of a list, laid into a rising one. -/
def insAll (xs : List Int) : List Int := xs.foldl ins []
theorem insAll_snoc (xs : List Int) (x : Int) : insAll (xs ++ [x]) = ins (insAll xs) x := by simp [insAll, List.foldl_append]
theorem SS_insAll (xs : List Int) : SS (insAll xs) := by
  have : ∀ (xs l : List Int), SS l → SS (xs.foldl ins l) := by
    intro xs
    induction xs with
    | nil => intro l h; exact h
    | cons x xs ih => intro l h; exact ih _ (SS_ins l x h)
  exact this xs [] (by simp [SS])
theorem mem_insAll (xs : List Int) (y : Int) : y ∈ insAll xs ↔ y ∈ xs := by
  have : ∀ (xs l : List Int), y ∈ xs.foldl ins l ↔ y ∈ xs ∨ y ∈ l := by
    intro xs
    induction xs with
    | nil => simp
    | cons x xs ih =>
      intro l
      rw [List.foldl_cons, ih, mem_ins, List.mem_cons]
      constructor
      · rintro (h | h | h)
        · exact .inl (.inr h)
        · exact .inl (.inl h)
        · exact .inr h
      · rintro ((h | h) | h)
        · exact .inr (.inl h)
        · exact .inl h
        · exact .inr (.inr h)
  have := this xs []
  simpa [insAll] using this
theorem ins_len (l : List Int) (x : Int) : (ins l x).length ≤ l.length + 1 := by
  induction l with
  | nil => simp [ins]
  | cons z l ih => unfold ins; split <;> (try split) <;> simp <;> omega
theorem insAll_len (xs : List Int) : (insAll xs).length ≤ xs.length := by
  have : ∀ (xs l : List Int), (xs.foldl ins l).length ≤ l.length + xs.length := by
    intro xs
    induction xs with
    | nil => simp
    | cons x xs ih => intro l; have h1 := ih (ins l x); have h2 := ins_len l x; simp only [List.foldl_cons, List.length_cons]; omega
  simpa [insAll] using this xs []
/-- Where the number goes: behind those that are less. -/
theorem ins_parts (l : List Int) (x : Int) : ∃ p q, l = p ++ q ∧ (∀ y ∈ p, y < x) ∧ ((∃ t, q = x :: t ∧ ins l x = l) ∨ ((∀ y t, q = y :: t → x < y) ∧ ins l x = p ++ x :: q)) := by
  induction l with
  | nil => exact ⟨[], [], rfl, by simp, .inr ⟨by simp, rfl⟩⟩
  | cons z l ih =>
    by_cases h1 : z < x
    · obtain ⟨p, q, rfl, hp, h⟩ := ih
      refine ⟨z :: p, q, rfl, ?_, ?_⟩
      · intro y hy
        rcases List.mem_cons.1 hy with rfl | hy
        · exact h1
        · exact hp y hy
      · rcases h with ⟨t, hq, h⟩ | ⟨hq, h⟩
        · exact .inl ⟨t, hq, by rw [ins, if_pos h1, h]⟩
        · exact .inr ⟨hq, by rw [ins, if_pos h1, h]; rfl⟩
    · by_cases h2 : z = x
      · subst h2
        exact ⟨[], z :: l, rfl, by simp, .inl ⟨l, rfl, by rw [ins, if_neg h1, if_pos rfl]⟩⟩
      · refine ⟨[], z :: l, rfl, by simp, .inr ⟨?_, by rw [ins, if_neg h1, if_neg h2]; rfl⟩⟩
        intro y t h
        cases h
        omega
end Go.Proofs.YtheniiinioggiaaDoor
