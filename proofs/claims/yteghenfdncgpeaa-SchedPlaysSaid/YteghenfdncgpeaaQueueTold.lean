/-
  What the statements of layer 11 ask first: 'told' answers true; (*Queue).All. Conditions: none beyond what each theorem names.
-/
import Derived.Test.YteghenfdncgpeaaQueue
import Derived.Test.YteghenfdncgpeaaInts
import Derived.Deep.LoopGhost
namespace Go.Proofs.Yteghenfdncgpeaa
open Go.RowKit
theorem qAll (b : Nat) (v : Value) (xs : List Int) (w : World) (h : QAt w b v xs) (hl : xs.length ≤ 100000) : Calls Try.prog 38 #[.pointer (some ⟨b, 0, none⟩)] w fun e w' =>
    ∃ v', e = .returned v' ∧ Own w' 3 1 v' xs.length (xs.map (Value.int .i64)) ∧ Ch [] w w' := by
  obtain ⟨a, cap, rfl, e1, e2, e3, hrd⟩ := h.2.rd
  clear e1
  have c := h.1.cell 0
  go_enter Try.func38, Try.ntmps38
  go_wp2_with fail
  refine (cloneInts _ xs _ _ hrd (by omega)).mono ?_; rintro e w2 ⟨v', rfl, h5, h6, h7⟩
  go_wp2
  go_ret
  exact ⟨v', rfl, h5, h7⟩
theorem told11 (w : World) : Calls Try.prog 34 #[] w fun e w' => e = .returned (.bool true) ∧ Ch [] w w' := by
  go_enter Try.func34, Try.ntmps34
  go_wp2_with fail
  refine (qNew _).mono ?_; rintro e w1 ⟨rfl, h1, c1⟩
  obtain ⟨b, hb⟩ : ∃ b, w.heap.size = b := ⟨_, rfl⟩
  rw [hb] at h1 ⊢
  have HB := Lib.hid hb
  clear hb
  go_wp2_with fail
  refine (qPut b _ [] _ [1, 2, 3] _ (h1.keep ((Ch.refl [] w1).alloc _) (by simp) (by simp)) (by simp [Value.ownBlock]) (Src_lit Try.underlying25 w1 [_, _, _] 1 3 rfl _ (q_ints [1, 2, 3])) (by decide)).mono ?_
  rintro e w2 ⟨rfl, v2, h2, c2, f2⟩
  have hv2 : ∀ k, v2.ownBlock = some k → b < k := by
    intro k hk
    rcases f2 with f | f
    · rw [f] at hk
      simp [Value.ownBlock] at hk
    · have := f k hk
      have := h1.1.lt
      simp at *
      omega
  go_wp2_with fail
  refine (qGet b v2 _ 2 9 2 _ h2 hv2 (by decide) (by decide)).mono ?_
  rintro e w3 ⟨v3, v4, rfl, o3, h3, f3, c3⟩
  obtain ⟨a3, cap3, rfl, e1, e2, e3, r3⟩ := o3.rd
  clear e1
  go_wp2_with fail
  refine (ints_same _ _ [1, 2] _ _ _ (r3.below (((Ch.refl [] w3).alloc _).below (Nat.le_refl _) (by simp))) (rd_lit w3 [1, 2]) (by decide)).mono ?_; rintro e w4 ⟨rfl, nq, rfl⟩
  have h4 : QAt ((w3.alloc (.cells #[.int .i64 1, .int .i64 2] 3)).drewN nq) b v4 [3] := QAt.keep h3 (((Ch.refl [] w3).alloc _).drewN nq) (by simp) (by simp)
  go_wp2_with fail
  refine (qLen b v4 [3] _ h4).mono ?_; rintro e w5 ⟨rfl, rfl⟩
  rw [show (([3] : List Int).length : Int) = 1 from rfl]
  go_wp2_with fail
  refine (qAll b v4 [3] _ h4 (by decide)).mono ?_; rintro e w6 ⟨v6, rfl, o6, c6⟩
  obtain ⟨a6, cap6, rfl, e1, e2, e3, r6⟩ := o6.rd
  go_wp2_with fail
  refine (ints_same _ _ [3] _ _ _ (r6.below (((Ch.refl [] w6).alloc _).below (Nat.le_refl _) (by simp))) (rd_lit w6 [3]) (by decide)).mono ?_; rintro e w7 ⟨rfl, nq7, rfl⟩
  go_wp2
  go_ret
  have hC : Ch [b] w w3 := (c1.mono (by simp)).transT ((((Ch.refl [b] w1).alloc _).transT c2 (by intro q hq; simp [Value.ownBlock] at hq; subst hq; exact .inl (by simp))).trans c3) (by simp)
  exact ⟨rfl, (((((hC.mono (T := []) (by intro q hq; simp at hq; subst hq; exact .inr (by have := HB.out; omega))).alloc _).drewN nq).trans c6).alloc _).drewN nq7⟩
end Go.Proofs.Yteghenfdncgpeaa
