/-
  Lists by 32 places; what the statements of layer 14 ask first: told answers true. Conditions: none.
-/
import Derived.Test.YtaafdhohiekakaaWait2
import Derived.Test.YtaafdhohiekakaaRng
import Derived.Deep.LoopGhost
namespace Go.Proofs.Ytaafdhohiekakaa
open Go.RowKit
/-- 32 lists by their places. -/
def LsOf (G : Nat → List Int) : List (List Int) := (List.range 32).map G
theorem LsOf_len (G : Nat → List Int) : (LsOf G).length = 32 := by simp [LsOf]
theorem gL_LsOf (G : Nat → List Int) (i : Nat) (h : i < 32) : gL (LsOf G) i = G i := by simp [gL, LsOf, List.getD_eq_getElem?_getD, h]
theorem gL_LsOf_out (G : Nat → List Int) (i : Nat) (h : ¬ i < 32) : gL (LsOf G) i = [] := by simp [gL, LsOf, List.getD_eq_getElem?_getD, h]
theorem LsOf_set (G : Nat → List Int) (i : Nat) (L : List Int) : (LsOf G).set i L = LsOf (fun j => if j = i then L else G j) := by
  apply List.ext_getElem
  · simp [LsOf]
  · intro j h1 h2
    simp only [LsOf, List.getElem_set, List.getElem_map, List.getElem_range]
    by_cases h : i = j
    · subst h; simp
    · rw [if_neg h, if_neg (fun e => h e.symm)]
theorem LsOf_congr {G H : Nat → List Int} (h : ∀ i, i < 32 → G i = H i) : LsOf G = LsOf H := by
  unfold LsOf
  exact List.map_congr_left fun i hi => h i (List.mem_range.1 hi)
theorem rep_LsOf : List.replicate 32 ([] : List Int) = LsOf fun _ => [] := by decide
theorem lens_bound (G : Nat → List Int) (m : Nat) (h : ∀ i, i < 32 → (G i).length ≤ m) : ∀ i, (gL (LsOf G) i).length ≤ m := fun i => by
  by_cases hi : i < 32
  · rw [gL_LsOf G i hi]; exact h i hi
  · rw [gL_LsOf_out G i hi]; simp
set_option maxRecDepth 100000 in
theorem told14 (w : World) : Calls Try.prog 10 #[] w fun e w' => e = .returned (.bool true) ∧ Ch [] w w' := by
  go_enter Try.func10, Try.ntmps10
  go_wp2_with fail
  refine (waitNew _).mono ?_; rintro e w1 ⟨rfl, h1, c1⟩
  obtain ⟨b, hb⟩ : ∃ b, w.heap.size = b := ⟨_, rfl⟩
  rw [hb, rep_LsOf] at h1
  rw [hb]
  have HB := Lib.hid hb
  obtain ⟨vs, hvs⟩ : ∃ vs, List.replicate 32 (Value.slice none 0 0) = vs := ⟨_, rfl⟩
  rw [hvs] at h1
  have hbk : blocksOf vs = [] := by rw [← hvs]; decide
  clear hb hvs
  have hW := waitWait b vs _ 5 0 w1 h1 (by decide) (fun k hk => by rw [gL_LsOf _ _ hk]; simp) (lens_bound _ _ (by simp))
  rw [gL_LsOf _ 0 (by decide), LsOf_set] at hW
  go_wp2_with fail
  refine hW.mono ?_; rintro e w2 ⟨rfl, vs2, h2, c2, k2⟩
  clear hW
  obtain ⟨G2, hG2⟩ : ∃ G2, (fun j => if j = 0 then ([] : List Int) ++ [5] else []) = G2 := ⟨_, rfl⟩
  have g0 : gL (LsOf G2) 0 = [5] := by rw [gL_LsOf _ 0 (by decide), ← hG2]; rfl
  have gb : ∀ i, (gL (LsOf G2) i).length ≤ 100000 := lens_bound _ _ (fun i _ => by rw [← hG2]; simp only []; split <;> simp)
  have gl : LsOf (fun j => if j = 0 then ([] : List Int) else G2 j) = LsOf fun _ => [] := LsOf_congr fun i _ => by rw [← hG2]; simp only []; split <;> rfl
  rw [hG2] at h2
  have HG := Lib.hid g0
  have HGB := Lib.hid gb
  have HGL := Lib.hid gl
  clear hG2 g0 gb gl
  go_wp2_with fail
  refine (waitWaitIn b vs2 _ 5 1 0 _ h2 (by decide) (by decide) (by rw [HG.out]; simp) (fun k hk => by omega) HGB.out).mono ?_; rintro e w3 ⟨rfl, rfl⟩
  go_wp2_with fail
  refine (waitWaitNo b 32 6 _ (by decide)).mono ?_; rintro e w4 ⟨rfl, rfl⟩
  go_wp2_with fail
  have hK := waitWake b vs2 _ 0 5 [] w4 h2 (by decide) HG.out (by simp)
  rw [LsOf_set, HGL.out] at hK
  refine hK.mono ?_; rintro e w5 ⟨rfl, vs5, h5, c5, k5⟩
  go_wp2_with fail
  have hLen := waitLen b vs5 _ w5 h5 (fun k hk => by
    have : ∀ k, k ≤ 32 → lensOf (LsOf fun _ => ([] : List Int)) k = 0 := by decide
    rw [this k hk]; omega)
  rw [show lensOf (LsOf fun _ => ([] : List Int)) 32 = 0 by decide] at hLen
  refine hLen.mono ?_; rintro e w6 ⟨rfl, rfl⟩
  go_wp2
  go_ret
  have a2 := h2.1.above
  refine ⟨rfl, (c1.transT c2 ?_).transT c5 ?_⟩
  · intro k hk
    rw [hbk] at hk
    simp at hk
    subst hk
    exact .inr (by have := HB.out; omega)
  · intro k hk
    simp only [List.mem_cons] at hk
    rcases hk with rfl | hk
    · exact .inr (by have := HB.out; omega)
    · exact .inr (by have := a2 k hk; have := HB.out; omega)
end Go.Proofs.Ytaafdhohiekakaa
