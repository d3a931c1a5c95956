/-
  The contract of slices.Clone on []int: a new slice with the same numbers. Conditions: the slice is read whole.
-/
import Derived.Test.YteghenfdncgpeaaOwI
import Derived.ProofKit
import Derived.OpenShut
import Derived.WalkSpells
namespace Go.Proofs.Yteghenfdncgpeaa
open Go.RowKit
theorem cloneInts (a : Option Addr) (xs : List Int) (c : Nat) (w : World) (h : Rd w a xs) (hl : xs.length ≤ 1000000) :
    Calls Try.prog 61 #[.slice a xs.length c] w fun e w' =>
      ∃ v', e = .returned v' ∧ Own w' 3 1 v' xs.length (xs.map (Value.int .i64)) ∧ (∀ k, v'.ownBlock = some k → w.heap.size ≤ k) ∧ Ch [] w w' := by
  obtain ⟨i0, hi0, hz0, hz1, hz2⟩ := info_parts Try.infoInt
  have heq := fun (w : World) (a : Option Addr) (n c : Nat) => Lib.run_eql_slice_nil (P := Try.prog) w 25 3 a n c 0 0 Try.underlying25
  cases a with
  | none =>
    have hx : xs = [] := by
      rcases h with h | ⟨b, o, he, _⟩
      · exact h
      · cases he
    subst hx
    go_enter Try.func61, Try.ntmps61
    go_wp2
    go_ret
    exact ⟨_, rfl, Own.nil _ _ _, by simp [Value.ownBlock], Ch.refl _ _⟩
  | some x =>
    have hsrc := Rd.src (P := Try.prog) (t := 25) Try.underlying25 c h
    go_enter Try.func61, Try.ntmps61
    have hown0 : Own (w.alloc (.cells #[] 3)) 3 1 (.slice (some ⟨w.heap.size, 0, none⟩) 0 0) 0 [] := ⟨rfl, .inr ⟨w.heap.size, 0, 0, #[], rfl, Blk.new _ _ _, Nat.le_refl _, Nat.zero_le _, Nat.le_refl _, fun j u hu => by simp at hu⟩⟩
    have hsrc' := Rd.src (P := Try.prog) (t := 25) Try.underlying25 c (h.below (((Ch.refl [] w).alloc (.cells #[] 3)).below (Nat.le_refl _) (by simp)))
    clear hsrc
    go_wp2_with (at_builtin; refine wpList_append_Own rfl _ _ 25 25 rfl 3 i0 (.int .i64 0) 1 8 Try.underlying25 hi0 hz0 hz1 hz2 rfl _ 0 [] rfl hown0 _ _ _ rfl hsrc' (by unfold maxLen; omega) (by omega) ?_)
    intro v' w2 hown2 hc2 hf2
    go_wp2
    go_ret
    refine ⟨v', rfl, by simpa using hown2, ?_, ((Ch.refl [] w).alloc (.cells #[] 3)).transT hc2 (by simp [Value.ownBlock])⟩
    intro k hk
    rcases hf2 with h2 | h2
    · rw [h2] at hk
      simp [Value.ownBlock] at hk
      omega
    · have := h2 k hk
      omega
theorem cloneI (a : Option Addr) (xs : List Int) (c : Nat) (w : World) (h : Rd w a xs) (hl : xs.length ≤ 1000000) :
    Calls Try.prog 61 #[.slice a xs.length c] w fun e w' => ∃ v', e = .returned v' ∧ OwI w' w.heap.size v' xs ∧ Ch [] w w' :=
  (cloneInts a xs c w h hl).mono fun _ _ ⟨v', h1, h2, h3, h4⟩ => ⟨v', h1, ⟨h2, h3⟩, h4⟩
end Go.Proofs.Yteghenfdncgpeaa
