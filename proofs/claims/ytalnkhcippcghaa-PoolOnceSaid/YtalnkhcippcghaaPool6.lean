/-
  Contracts of package pool: Put. Conditions: none beyond what each theorem names.
-/
import Derived.Test.YtalnkhcippcghaaPool5
namespace Go.Proofs.Ytalnkhcippcghaa
open Go.RowKit
theorem updN_at {α : Type} (f : Nat → α) (i : Nat) (v : α) : updN f i v i = v := by simp [updN]
theorem updN_ne {α : Type} (f : Nat → α) {i j : Nat} (v : α) (h : j ≠ i) : updN f i v j = f j := by simp [updN, h]
section
variable {w w2 : World} {B p : Nat} {vs vf ve : Value} {X F E : List Nat} {O T : Nat → Nat} {Fl : Nat → Bool} {C : Nat → List Int} {S : List Nat}
theorem PoolAt.le (h : PoolAt w p vs vf ve X O T Fl F E C) {i x : Nat} (hx : X[i]? = some x) : (C (O i)).length ≤ 32 ∧ (C (T i)).length ≤ 32 := by
  have hi := (List.getElem?_eq_some_iff.1 hx).1
  exact ⟨(h.one i hi).choose_spec.2.1, (h.two i hi).choose_spec.2.1⟩
theorem poolPutArg (i x : Nat) (h : PoolAt w p vs vf ve X O T Fl F E C) (hx : X[i]? = some x) : Calls Try.prog 35 #[.pointer (some ⟨p, 0, none⟩), .int .i64 i, .int .i64 0] w fun e w' => e = .returned (.int .i64 1) ∧ w' = w := by
  have ha := atIn i x h hx
  unfold ptrV at ha
  clear h
  go_enter Try.func35, Try.ntmps35
  go_wp2_with fail
  refine ha.mono ?_; rintro e w1 ⟨rfl, rfl⟩
  go_wp2_with fail
  go_ret
  exact ⟨rfl, rfl⟩
theorem poolPutA (i x : Nat) (v : Int) (h : PoolAt w p vs vf ve X O T Fl F E C) (hx : X[i]? = some x) (hv : v ≠ 0) (hl : (C (O i)).length < 32) :
    Calls Try.prog 35 #[.pointer (some ⟨p, 0, none⟩), .int .i64 i, .int .i64 v] w fun e w' => e = .returned (.int .i64 0) ∧ PoolAt w' p vs vf ve X O T Fl F E (updN C (O i) (C (O i) ++ [v])) ∧ Ch [O i] w w' := by
  have ha := atIn i x h hx
  have hi := (List.getElem?_eq_some_iff.1 hx).1
  have hb := h.one i hi
  have h1 := bufLen (O i) (C (O i)) w hb
  have h2 := bufPut (O i) (C (O i)) v w hb hl
  have d0 := (h.pr i x hx).cell 0
  obtain ⟨n, hn⟩ : ∃ n, (C (O i)).length = n := ⟨_, rfl⟩
  obtain ⟨o, ho⟩ : ∃ o, O i = o := ⟨_, rfl⟩
  rw [hn] at h1 hl
  rw [ho] at h1 h2 d0 hb ⊢
  have n32 : ((n : Int) == 32) = false := by rw [beq_eq_false_iff_ne]; omega
  have v0 : (v == 0) = false := by rw [beq_eq_false_iff_ne]; exact hv
  unfold ptrV at ha
  clear hn ho hv
  go_enter Try.func35, Try.ntmps35
  go_wp2_with fail
  refine ha.mono ?_; rintro e w1 ⟨rfl, rfl⟩
  clear ha
  go_wp2_with fail
  refine h1.mono ?_; rintro e w1 ⟨rfl, rfl⟩
  go_wp2_with fail
  refine h1.mono ?_; rintro e w1 ⟨rfl, rfl⟩
  clear h1
  go_wp2_with fail
  refine h2.mono ?_; rintro e w2 ⟨rfl, b2, c2⟩
  have hfin := h.buf hb b2 c2
  clear h2 h hb b2
  go_wp2_with fail
  go_ret
  exact ⟨rfl, hfin, c2⟩
theorem poolPutB (i x : Nat) (v : Int) (h : PoolAt w p vs vf ve X O T Fl F E C) (hx : X[i]? = some x) (hv : v ≠ 0) (hl : (C (O i)).length = 32) (hl2 : (C (T i)).length < 32) :
    Calls Try.prog 35 #[.pointer (some ⟨p, 0, none⟩), .int .i64 i, .int .i64 v] w fun e w' => e = .returned (.int .i64 0) ∧ PoolAt w' p vs vf ve X (updN O i (T i)) (updN T i (O i)) Fl F E (updN C (T i) (C (T i) ++ [v])) ∧ Ch [x, T i] w w' := by
  have ha := atIn i x h hx
  have hi := (List.getElem?_eq_some_iff.1 hx).1
  have h1 := bufLen (O i) (C (O i)) w (h.one i hi)
  have e0 := (h.pr i x hx).cell 0
  obtain ⟨n, hn⟩ : ∃ n, (C (T i)).length = n := ⟨_, rfl⟩
  obtain ⟨o, ho⟩ : ∃ o, O i = o := ⟨_, rfl⟩
  obtain ⟨t, ht⟩ : ∃ t, T i = t := ⟨_, rfl⟩
  rw [hl, ho] at h1
  rw [hn] at hl2
  rw [ho] at e0 ⊢
  rw [ht]
  have n32 : ((n : Int) == 32) = false := by rw [beq_eq_false_iff_ne]; omega
  have v0 : (v == 0) = false := by rw [beq_eq_false_iff_ne]; exact hv
  unfold ptrV at ha
  clear hv hl
  go_enter Try.func35, Try.ntmps35
  go_wp2_with fail
  refine ha.mono ?_; rintro e w1 ⟨rfl, rfl⟩
  clear ha
  go_wp2_with fail
  refine h1.mono ?_; rintro e w1 ⟨rfl, rfl⟩
  clear h1
  go_upto_region 5 with fail
  have hd := h.ch ((Ch.refl [] w1).drewN 1)
  obtain ⟨W9, hW9⟩ : ∃ W9, w1.drewN 1 = W9 := ⟨_, rfl⟩
  have cd : Ch [] w1 W9 := by rw [← hW9]; exact (Ch.refl [] w1).drewN 1
  rw [hW9] at hd
  have d0 := (hd.pr i x hx).cell 0
  have d1 := (hd.pr i x hx).cell 1
  have q0 := (hd.pr i x hx).frozen 0
  rw [ho] at d0
  rw [ht] at d1
  obtain ⟨L, hL⟩ : ∃ L : World → Prop, ∀ w', L w' ↔ (w'.cell? ⟨x, 0, none⟩ = some (.pointer (some ⟨o, 0, none⟩)) ∧ w'.cell? ⟨x, 1, none⟩ = some (.pointer (some ⟨t, 0, none⟩))) := ⟨_, fun _ => Iff.rfl⟩
  have hS1 : ∀ y : { w' : World // L w' }, y.1.cell? ⟨x, 0, none⟩ = some (.pointer (some ⟨o, 0, none⟩)) := fun y => ((hL _).1 y.2).1
  have hS2 : ∀ y : { w' : World // L w' }, y.1.cell? ⟨x, 1, none⟩ = some (.pointer (some ⟨t, 0, none⟩)) := fun y => ((hL _).1 y.2).2
  have hS0 : L W9 := (hL _).2 ⟨d0, d1⟩
  have hSA : Nonempty { w' : World // L w' } := ⟨⟨_, hS0⟩⟩
  clear hL
  refine wp_region_plan (Cls L) [0, 2, 3, 4, 5, 9] (.pures [1, 6, 7, 8] (.reads [0, 2, 3, 4, 5, 9] (.pures [10, 11] (.only 12 (.pures [13, 14] (.only 15 .done)))))) (by kernel_rfl) (by kernel_rfl) (fun _ _ _ _ _ h => h) ?_
  simp only [Plan.pures, Plan.reads, Plan.only, List.foldr_cons, List.foldr_nil]
  rw [hW9]
  clear hW9
  iterate 4 (refine wpPlan_pure (fun K hK => ?_); simp only [List.getD_cons_zero, List.getD_cons_succ]; go_simp; refine hK _ ?_; clear hK K)
  iterate 6 (refine wpPlan_readS hS0 (fun K hK => ?_); simp only [List.getD_cons_zero, List.getD_cons_succ]; go_simp; refine hK _ ?_; clear hK K)
  iterate 2 (refine wpPlan_pure (fun K hK => ?_); simp only [List.getD_cons_zero, List.getD_cons_succ]; go_simp; refine hK _ ?_; clear hK K)
  obtain ⟨R1, R2⟩ := hd.setO hx (b := t) (by rw [← ht]; exact hd.two i hi)
  refine wpPlan_only (fun K hK => ?_)
  simp only [List.getD_cons_zero, List.getD_cons_succ]
  go_simp
  refine hK _ _ (by simp) ?_
  clear hK K hS0 hS1 hS2 hSA d0 d1 q0
  iterate 2 (refine wpPlan_pure (fun K hK => ?_); simp only [List.getD_cons_zero, List.getD_cons_succ]; go_simp; refine hK _ ?_; clear hK K)
  unfold ptrV at R1 R2
  have d1 := (R1.pr i x hx).cell 1
  have q1 := (R1.pr i x hx).frozen 1
  obtain ⟨R3, R4⟩ := R1.setT hx (b := o) ((hd.rest (hd.pr i x hx) R2 (.inr rfl)).2.2.2.1 o _ (by rw [← ho]; exact hd.one i hi))
  refine wpPlan_only (fun K hK => ?_)
  simp only [List.getD_cons_zero, List.getD_cons_succ]
  go_simp
  refine hK _ _ (by simp) ?_
  clear hK K d1 q1
  refine wpPlan_done ?_
  unfold ptrV at R3 R4
  have cs := (cd.mono (T := [x]) (by simp)).trans (R2.trans R4)
  obtain ⟨W2, hW2⟩ : ∃ W2, (W9.setCell ⟨x, 0, none⟩ (.pointer (some ⟨t, 0, none⟩))).setCell ⟨x, 1, none⟩ (.pointer (some ⟨o, 0, none⟩)) = W2 := ⟨_, rfl⟩
  rw [hW2] at R3 cs ⊢
  have e0 := (R3.pr i x hx).cell 0
  have hbt := R3.one i hi
  rw [updN_at] at e0 hbt
  unfold ptrV at e0
  rw [ht] at hn
  have h1 := bufLen t (C t) W2 hbt
  have h2 := bufPut t (C t) v W2 hbt (by omega)
  rw [hn] at h1
  clear hW2 R1 R2 R4 hd h cd hn ho ht
  go_wp2_with fail
  refine h1.mono ?_; rintro e w3 ⟨rfl, rfl⟩
  clear h1
  go_wp2_with fail
  refine h2.mono ?_; rintro e w4 ⟨rfl, b4, c4⟩
  have hfin := R3.buf hbt b4 c4
  have cc := (cs.mono (T := [x, t]) (by simp)).trans (c4.mono (by simp))
  clear h2 R3 hbt b4
  go_wp2_with fail
  go_ret
  exact ⟨rfl, hfin, cc⟩
end
end Go.Proofs.Ytalnkhcippcghaa
