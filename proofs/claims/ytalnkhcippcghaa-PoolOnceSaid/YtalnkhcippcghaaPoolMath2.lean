/-
  What Put, Flush and Give leave of a pool's state; puts by the first P. No program in sight. Conditions: none beyond what each theorem names.
-/
import Derived.Test.YtalnkhcippcghaaPoolTold
namespace Go.Proofs.Ytalnkhcippcghaa
open Go.RowKit
section
variable {f : List Int → Nat} {s : PSt} {n i j : Nat}
theorem put_others (v : Int) (hne : j ≠ i) : (putS s i v).one j = s.one j ∧ (putS s i v).two j = s.two j ∧ (putS s i v).fl j = s.fl j := by
  unfold putS
  split
  · exact ⟨updN_ne _ _ hne, rfl, rfl⟩
  · split
    · exact ⟨(updN_ne _ _ hne).trans (updN_ne _ _ hne), updN_ne _ _ hne, rfl⟩
    · exact ⟨(updN_ne _ _ hne).trans ((updN_ne _ _ hne).trans (updN_ne _ _ hne)), updN_ne _ _ hne, updN_ne _ _ hne⟩
theorem put_ne (v : Int) : (putS s i v).ne ≤ s.ne := by
  unfold putS
  split
  · exact Nat.le_refl _
  · split
    · exact Nat.le_refl _
    · exact Nat.sub_le _ _
theorem flush_own : (flushS s i).one i = [] ∧ (flushS s i).two i = [] := by
  have h1 : (flushA s i).one i = [] := by
    unfold flushA
    split
    · exact updN_at _ _ _
    · next h => simpa using h
  unfold flushS flushB
  split
  · next h =>
    refine ⟨?_, ?_⟩
    · show updN _ i _ i = []
      rw [updN_at]
      show updN _ i _ i = []
      rw [updN_at]; exact h1
    · show updN _ i _ i = []
      rw [updN_at]
      show updN _ i [] i = []
      rw [updN_at]
  · next h => exact ⟨h1, by simpa using h⟩
theorem flush_others (hne : j ≠ i) : (flushS s i).one j = s.one j ∧ (flushS s i).two j = s.two j ∧ (flushS s i).fl j = s.fl j := by
  have h1 : (flushA s i).one j = s.one j ∧ (flushA s i).two j = s.two j ∧ (flushA s i).fl j = s.fl j := by
    unfold flushA
    split
    · exact ⟨updN_ne _ _ hne, rfl, updN_ne _ _ hne⟩
    · exact ⟨rfl, rfl, rfl⟩
  unfold flushS flushB
  split
  · exact ⟨(updN_ne _ _ hne).trans ((updN_ne _ _ hne).trans ((updN_ne _ _ hne).trans h1.1)), (updN_ne _ _ hne).trans ((updN_ne _ _ hne).trans h1.2.1), (updN_ne _ _ hne).trans h1.2.2⟩
  · exact h1
theorem flush_wt (hf : f [] = 0) (hi : i < n) : wt f (flushS s i) n = wt f s n := by
  have h1 : wt f (flushA s i) n = wt f s n := by
    unfold flushA
    split
    · rw [wt_pushOne hf hi]; rfl
    · rfl
  unfold flushS flushB
  split
  · rw [wt_swap hi, wt_pushOne hf hi, wt_swap hi, ← h1]; rfl
  · exact h1
theorem flush_ne : (flushS s i).ne ≤ s.ne := by
  have h1 : (flushA s i).ne ≤ s.ne := (flushA_le s i).2
  unfold flushS flushB
  split
  · exact Nat.le_trans (Nat.sub_le _ _) h1
  · exact h1
theorem flush_two : (flushA s i).two i = s.two i := by
  unfold flushA
  split <;> rfl
theorem flush_rows : (flushS s i).full.length = s.full.length + (if s.one i = [] then 0 else 1) + (if s.two i = [] then 0 else 1) := by
  have h1 : (flushA s i).full.length = s.full.length + (if s.one i = [] then 0 else 1) := by
    unfold flushA
    by_cases h : s.one i = []
    · rw [if_neg (by simpa using h), if_pos h]; rfl
    · rw [if_pos h, if_neg h]; show (s.full ++ [_]).length = _; rw [List.length_append]; rfl
  unfold flushS flushB
  rw [flush_two, ← h1]
  by_cases h : s.two i = []
  · rw [if_neg (by simpa using h), if_pos h]; rfl
  · rw [if_pos h, if_neg h]; show ((flushA s i).full ++ [_]).length = _; rw [List.length_append]; rfl
theorem flush_fl : (flushS s i).fl i = (s.fl i || decide (0 < (s.one i).length + (s.two i).length)) := by
  have h1 : (flushA s i).fl i = (s.fl i || decide (0 < (s.one i).length)) := by
    unfold flushA
    split
    · next h =>
      rw [decide_eq_true (List.length_pos_iff.2 h), Bool.or_true]
      exact updN_at _ _ _
    · next h =>
      have h0 : s.one i = [] := by simpa using h
      rw [h0]
      simp
  unfold flushS flushB
  rw [flush_two]
  split
  · next h =>
    have := List.length_pos_iff.2 h
    rw [decide_eq_true (by omega), Bool.or_true]
    exact updN_at _ _ _
  · next h =>
    have h0 : s.two i = [] := by simpa using h
    rw [h0, h1]
    rfl
theorem give_wt (hf : Addf f) (hi : i < n) : wt f (giveS s i) n = wt f s n := by
  unfold giveS
  split
  · rw [wt_swap hi, wt_pushOne hf.nil hi, wt_swap hi]; rfl
  · split
    · have h := wt_setOne (f := f) (s := (s.flag i true).moreE.pushL ((s.one i).drop ((s.one i).length - (s.one i).length / 2))) hi ((s.one i).take ((s.one i).length - (s.one i).length / 2))
      have e : ((s.flag i true).moreE.pushL ((s.one i).drop ((s.one i).length - (s.one i).length / 2))).one i = s.one i := rfl
      rw [e, wt_pushL, wt_moreE, wt_flag] at h
      have e2 : f (s.one i) = f ((s.one i).take ((s.one i).length - (s.one i).length / 2)) + f ((s.one i).drop ((s.one i).length - (s.one i).length / 2)) := by
        rw [← hf.app, List.take_append_drop]
      omega
    · rfl
theorem give_ne : (giveS s i).ne ≤ s.ne := by
  unfold giveS
  split
  · exact Nat.sub_le _ _
  · split
    · exact Nat.le_of_eq (Nat.add_sub_cancel _ _)
    · exact Nat.le_refl _
end
theorem put_cases (s : PSt) (i : Nat) (v : Int) :
    ((s.one i).length < 32 → (putS s i v).one i = s.one i ++ [v] ∧ (putS s i v).two i = s.two i ∧ (putS s i v).full = s.full ∧ (putS s i v).fl = s.fl) ∧
    (¬ (s.one i).length < 32 → (s.two i).length < 32 → (putS s i v).one i = s.two i ++ [v] ∧ (putS s i v).two i = s.one i ∧ (putS s i v).full = s.full ∧ (putS s i v).fl = s.fl) ∧
    (¬ (s.one i).length < 32 → ¬ (s.two i).length < 32 → (putS s i v).one i = [v] ∧ (putS s i v).two i = s.one i ∧ (putS s i v).full.length = s.full.length + 1 ∧ (putS s i v).fl i = true) := by
  refine ⟨fun h1 => ?_, fun h1 h2 => ?_, fun h1 h2 => ?_⟩
  · have e : putS s i v = s.setOne i (s.one i ++ [v]) := by unfold putS; rw [if_pos h1]
    rw [e]
    exact ⟨updN_at _ _ _, rfl, rfl, rfl⟩
  · have e : putS s i v = (s.swap i).setOne i (s.two i ++ [v]) := by unfold putS; rw [if_neg h1, if_pos h2]
    rw [e]
    exact ⟨updN_at _ _ _, updN_at _ _ _, rfl, rfl⟩
  · have e : putS s i v = (((s.flag i true).swap i).pushOne i).setOne i [v] := by unfold putS; rw [if_neg h1, if_neg h2]
    rw [e]
    exact ⟨updN_at _ _ _, updN_at _ _ _, by show (s.full ++ [_]).length = _; simp, updN_at _ _ _⟩
/-- The first P has put i objects; nobody else had any. -/
structure PI (i : Nat) (s : PSt) : Prop where
  le : (s.one 0).length ≤ 32
  two : s.two 0 = [] ∨ (s.two 0).length = 32
  none : s.two 0 = [] → s.full = []
  len : 32 * s.full.length + (s.one 0).length + (s.two 0).length = i
  one : s.one 0 = [] → i = 0
  ne : s.ne = 0
  fl : s.fl 0 = decide (0 < s.full.length)
  fl1 : s.fl 1 = false
  oth : s.one 1 = [] ∧ s.two 1 = []
theorem PI.init : PI 0 initP := ⟨by decide, .inl rfl, fun _ => rfl, rfl, fun _ => rfl, rfl, rfl, rfl, rfl, rfl⟩
theorem PI.put {i : Nat} {s : PSt} (h : PI i s) (v : Int) : PI (i + 1) (putS s 0 v) := by
  have ho := put_others (s := s) (i := 0) (j := 1) v (by omega)
  have hn : (putS s 0 v).ne = 0 := by have := put_ne (s := s) (i := 0) v; have := h.ne; omega
  have hl := h.len
  have hle := h.le
  by_cases h1 : (s.one 0).length < 32
  · obtain ⟨e1, e2, e3, e4⟩ := (put_cases s 0 v).1 h1
    refine ⟨by rw [e1]; simp; omega, by rw [e2]; exact h.two, by rw [e2, e3]; exact h.none, by rw [e1, e2, e3]; simp; omega, by rw [e1]; simp, hn, by rw [e3, e4]; exact h.fl, by rw [e4]; exact h.fl1, by rw [ho.1]; exact h.oth.1, by rw [ho.2.1]; exact h.oth.2⟩
  · by_cases h2 : (s.two 0).length < 32
    · have h0 : s.two 0 = [] := by
        rcases h.two with h | h
        · exact h
        · omega
      have hF := h.none h0
      obtain ⟨e1, e2, e3, e4⟩ := (put_cases s 0 v).2.1 h1 h2
      rw [h0, List.nil_append] at e1
      rw [h0, hF] at hl
      simp at hl
      refine ⟨by rw [e1]; simp, by rw [e2]; right; omega, by rw [e3]; exact fun _ => hF, by rw [e1, e2, e3, hF]; simp; omega, by rw [e1]; simp, hn, by rw [e3, e4]; exact h.fl, by rw [e4]; exact h.fl1, by rw [ho.1]; exact h.oth.1, by rw [ho.2.1]; exact h.oth.2⟩
    · have ht : (s.two 0).length = 32 := by
        rcases h.two with h | h
        · rw [h] at h2; simp at h2
        · exact h
      obtain ⟨e1, e2, e3, e4⟩ := (put_cases s 0 v).2.2 h1 h2
      refine ⟨by rw [e1]; simp, by rw [e2]; right; omega, by rw [e2]; intro e5; rw [e5] at h1; simp at h1, by rw [e1, e2, e3]; simp; omega, by rw [e1]; simp, hn, by rw [e3, e4]; simp, by rw [ho.2.2]; exact h.fl1, by rw [ho.1]; exact h.oth.1, by rw [ho.2.1]; exact h.oth.2⟩
theorem PI.flag {i : Nat} {s : PSt} (h : PI i s) : s.fl 0 = decide (64 < i) := by
  rw [h.fl]
  have hl := h.len
  have hle := h.le
  have ho := h.one
  by_cases hF : 0 < s.full.length
  · have ht : (s.two 0).length = 32 := by
      rcases h.two with e | e
      · have := h.none e; rw [this] at hF; simp at hF
      · exact e
    have h1 : 0 < (s.one 0).length := by
      rcases Nat.eq_zero_or_pos (s.one 0).length with e | e
      · have := ho (List.eq_nil_of_length_eq_zero e); omega
      · exact e
    rw [decide_eq_true hF, decide_eq_true (by omega)]
  · have ht : (s.two 0).length ≤ 32 := by
      rcases h.two with e | e
      · rw [e]; simp
      · omega
    rw [decide_eq_false hF, decide_eq_false (by omega)]
theorem PI.rows {i : Nat} {s : PSt} (h : PI i s) : (flushS s 0).full.length = (i + 31) / 32 := by
  rw [flush_rows]
  have hl := h.len
  have hle := h.le
  have ho := h.one
  by_cases h1 : s.one 0 = []
  · have hi := ho h1
    have h2 : s.two 0 = [] := by
      rcases h.two with e | e
      · exact e
      · omega
    rw [if_pos h1, if_pos h2, h.none h2, hi]; rfl
  · have := List.length_pos_iff.2 h1
    rw [if_neg h1]
    rcases h.two with e | e
    · rw [if_pos e]
      rw [e, h.none e] at hl
      rw [h.none e]
      simp at hl ⊢
      omega
    · rw [if_neg (by intro e2; rw [e2] at e; simp at e)]
      omega
theorem PI.wt {i : Nat} {s : PSt} (h : PI i s) : 32 * s.full.length ≤ i := by
  have := h.len
  omega
theorem PI.had {i : Nat} {s : PSt} (h : PI i s) : (flushS s 0).fl 0 = decide (0 < i) := by
  rw [flush_fl, h.fl]
  have hl := h.len
  by_cases hF : 0 < s.full.length
  · rw [decide_eq_true hF, decide_eq_true (show 0 < i by omega)]; rfl
  · rw [decide_eq_false hF, Bool.false_or]
    by_cases h0 : 0 < i
    · rw [decide_eq_true h0, decide_eq_true (by omega)]
    · rw [decide_eq_false h0, decide_eq_false (by omega)]
end Go.Proofs.Ytalnkhcippcghaa
