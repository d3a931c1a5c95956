/-
  What the statements of layer 19 ask first: 'told' answers true. Conditions: none.
-/
import Derived.Test.YtalnkhcippcghaaBarrier2
namespace Go.Proofs.Ytalnkhcippcghaa
open Go.RowKit
set_option maxRecDepth 100000 in
theorem told19 (w : World) : Calls Try.prog 30 #[] w fun e w' => e = .returned (.bool true) ∧ Ch [] w w' := by
  go_enter Try.func30, Try.ntmps30
  go_wp2_with fail
  refine (barNew _).mono ?_; rintro e w1 ⟨rfl, h1, c1⟩
  obtain ⟨b, hb⟩ : ∃ b, w.heap.size = b := ⟨_, rfl⟩
  rw [hb] at h1 ⊢
  have HB := Lib.hid hb
  clear hb
  go_wp2_with fail
  refine (barPut b 0 [] 5 0 _ h1 (by decide) (by decide)).mono ?_; rintro e w2 ⟨rfl, h2, c2⟩
  go_wp2_with fail
  refine (barPut b 1 _ 5 6 _ h2 (by decide) (by decide)).mono ?_; rintro e w3 ⟨rfl, h3, c3⟩
  go_wp2_with fail
  refine (barPutZero b 2 _ _ h3 (by decide)).mono ?_; rintro e w4 ⟨rfl, c4⟩
  have h4 : BarAt w4 b 2 [5, 0, 5, 6] := h3.keep c4 (by simp)
  go_wp2_with fail
  refine (barAll b 2 [5, 0, 5, 6] _ h4).mono ?_; rintro e w5 ⟨v5, rfl, o5, f5, c5⟩
  have h5 := h4.keep c5 (by simp)
  go_wp2_with fail
  refine (barLen b 2 _ _ h5).mono ?_; rintro e w6 ⟨rfl, rfl⟩
  obtain ⟨g, off, cap, rfl, _, _, hcell, _⟩ := o5.cellsOf (by decide)
  have d1 : w6.cell? ⟨g, off + 2, none⟩ = some (.int .i64 5) := hcell 2 _ rfl
  have d2 : w6.cell? ⟨g, off + 2 + 1, none⟩ = some (.int .i64 6) := hcell 3 _ rfl
  have hF := barFlush b 2 [5, 0, 5, 6] w6 h5
  rw [show ([5, 0, 5, 6] : List Int).foldl tell [] = [5, 6] by decide] at hF
  clear hcell
  go_wp2_with fail
  refine hF.mono ?_; rintro e w7 ⟨v7, rfl, o7, h7, c7⟩
  obtain ⟨a7, cap7, rfl, _, _, r7⟩ := o7.form
  rw [show ([5, 6] : List Int).length = 2 from rfl]
  clear hF
  go_wp2_with fail
  refine (ints_same _ _ [5, 6] _ _ _ (r7.keep ((Ch.refl [] w7).alloc _) (by simp)) (rd_lit w7 [5, 6]) (by decide)).mono ?_; rintro e w8 ⟨rfl, nq, rfl⟩
  have h8 : BarAt ((w7.alloc (.cells #[.int .i64 5, .int .i64 6] 3)).drewN nq) b 0 [] := h7.keep (((Ch.refl [] w7).alloc _).drewN nq) (by simp)
  go_wp2_with fail
  refine (barLen b 0 [] _ h8).mono ?_; rintro e w9 ⟨rfl, rfl⟩
  go_wp2
  go_ret
  have hC : Ch [b] w w7 := (((((c1.mono (by simp)).trans c2).trans c3).trans (c4.mono (by simp))).trans (c5.mono (by simp))).trans c7
  exact ⟨rfl, ((hC.mono (T := []) (by intro q hq; simp at hq; subst hq; exact .inr (by have := HB.out; omega))).alloc _).drewN nq⟩
end Go.Proofs.Ytalnkhcippcghaa
