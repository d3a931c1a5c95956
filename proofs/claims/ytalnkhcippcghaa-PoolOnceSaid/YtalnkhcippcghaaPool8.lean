/-
  Contracts of package pool: Get. Conditions: none beyond what each theorem names.
-/
import Derived.Test.YtalnkhcippcghaaPool7
namespace Go.Proofs.Ytalnkhcippcghaa
open Go.RowKit
section
variable {w w2 : World} {B p : Nat} {vs vf ve : Value} {X F E : List Nat} {O T : Nat → Nat} {Fl : Nat → Bool} {C : Nat → List Int} {S : List Nat}
theorem poolGetA (i x : Nat) (ys : List Int) (v : Int) (h : PoolAt w p vs vf ve X O T Fl F E C) (hx : X[i]? = some x) (hl : C (O i) = ys ++ [v]) :
    Calls Try.prog 38 #[.pointer (some ⟨p, 0, none⟩), .int .i64 i] w fun e w' => e = .returned (.tuple #[.int .i64 v, .bool true]) ∧ PoolAt w' p vs vf ve X O T Fl F E (updN C (O i) ys) ∧ Ch [O i] w w' := by
  have ha := atIn i x h hx
  have hi := (List.getElem?_eq_some_iff.1 hx).1
  have hb := h.one i hi
  rw [hl] at hb
  have h1 := bufLen (O i) (ys ++ [v]) w hb
  have h2 := bufGet (O i) ys v w hb
  have d0 := (h.pr i x hx).cell 0
  have c1 := h.top.cell 1
  obtain ⟨a, cap, rfl, _⟩ := h.fu.form
  obtain ⟨m, hm⟩ : ∃ m, F.length = m := ⟨_, rfl⟩
  rw [hm] at c1 h ⊢
  obtain ⟨n, hn⟩ : ∃ n, (ys ++ [v]).length = n + 1 := ⟨ys.length, by simp⟩
  obtain ⟨o, ho⟩ : ∃ o, O i = o := ⟨_, rfl⟩
  rw [hn] at h1
  rw [ho] at h1 h2 d0 hb ⊢
  have n32 : ((n : Int) + 1 == 0) = false := by rw [beq_eq_false_iff_ne]; omega
  unfold ptrV at ha
  have hnn : n ≤ 32 := by have := hb.choose_spec.2.1; omega
  have h1' : Calls Try.prog 19 #[.pointer (some ⟨o, 0, none⟩)] w fun e w' => e = .returned (.int .i64 ((n : Int) + 1)) ∧ w' = w := h1.mono (by rintro e w' ⟨rfl, rfl⟩; exact ⟨by push_cast; rfl, rfl⟩)
  clear hn ho hl hm h1
  go_enter Try.func38, Try.ntmps38
  go_wp2_with fail
  refine ha.mono ?_; rintro e w1 ⟨rfl, rfl⟩
  clear ha
  go_wp2_with fail
  refine h1'.mono ?_; rintro e w1 ⟨rfl, rfl⟩
  go_wp2_with fail
  refine h1'.mono ?_; rintro e w1 ⟨rfl, rfl⟩
  clear h1'
  go_wp2_with fail
  refine h2.mono ?_; rintro e w2 ⟨rfl, b2, c2⟩
  have hfin := h.buf hb b2 c2
  clear h2 h hb b2
  go_wp2_with fail
  go_ret2
  exact ⟨rfl, hfin, c2⟩
theorem poolGetB (i x : Nat) (ys : List Int) (v : Int) (h : PoolAt w p vs vf ve X O T Fl F E C) (hx : X[i]? = some x) (hl0 : C (O i) = []) (hl : C (T i) = ys ++ [v]) :
    Calls Try.prog 38 #[.pointer (some ⟨p, 0, none⟩), .int .i64 i] w fun e w' => e = .returned (.tuple #[.int .i64 v, .bool true]) ∧ PoolAt w' p vs vf ve X (updN O i (T i)) (updN T i (O i)) Fl F E (updN C (T i) ys) ∧ Ch [x, T i] w w' := by
  obtain ⟨a, cap, rfl, _⟩ := h.fu.form
  obtain ⟨m, hm⟩ : ∃ m, F.length = m := ⟨_, rfl⟩
  rw [hm] at h ⊢
  clear hm
  have ha := atIn i x h hx
  have hi := (List.getElem?_eq_some_iff.1 hx).1
  have hb := h.one i hi
  rw [hl0] at hb
  have h1 := bufLen (O i) [] w hb
  have e0 := (h.pr i x hx).cell 0
  obtain ⟨o, ho⟩ : ∃ o, O i = o := ⟨_, rfl⟩
  obtain ⟨t, ht⟩ : ∃ t, T i = t := ⟨_, rfl⟩
  rw [List.length_nil, ho] at h1
  rw [ho] at e0 ⊢
  rw [ht] at hl ⊢
  unfold ptrV at ha
  clear hb
  go_enter Try.func38, Try.ntmps38
  go_wp2_with fail
  refine ha.mono ?_; rintro e w1 ⟨rfl, rfl⟩
  clear ha
  go_wp2_with fail
  refine h1.mono ?_; rintro e w1 ⟨rfl, rfl⟩
  clear h1
  go_upto_region 5 with fail
  have hd := h.ch ((Ch.refl [] w1).drewN 1)
  obtain ⟨W9, hW9⟩ : ∃ W9, w1.drewN 1 = W9 := ⟨_, rfl⟩
  have cd : Ch [] w1 W9 := by rw [← hW9]; exact (Ch.refl [] w1).drewN 1
  rw [hW9] at hd
  have d0 := (hd.pr i x hx).cell 0
  have d1 := (hd.pr i x hx).cell 1
  have q0 := (hd.pr i x hx).frozen 0
  rw [ho] at d0
  rw [ht] at d1
  obtain ⟨L, hL⟩ : ∃ L : World → Prop, ∀ w', L w' ↔ (w'.cell? ⟨x, 0, none⟩ = some (.pointer (some ⟨o, 0, none⟩)) ∧ w'.cell? ⟨x, 1, none⟩ = some (.pointer (some ⟨t, 0, none⟩))) := ⟨_, fun _ => Iff.rfl⟩
  have hS1 : ∀ y : { w' : World // L w' }, y.1.cell? ⟨x, 0, none⟩ = some (.pointer (some ⟨o, 0, none⟩)) := fun y => ((hL _).1 y.2).1
  have hS2 : ∀ y : { w' : World // L w' }, y.1.cell? ⟨x, 1, none⟩ = some (.pointer (some ⟨t, 0, none⟩)) := fun y => ((hL _).1 y.2).2
  have hS0 : L W9 := (hL _).2 ⟨d0, d1⟩
  have hSA : Nonempty { w' : World // L w' } := ⟨⟨_, hS0⟩⟩
  clear hL
  refine wp_region_plan (Cls L) [0, 2, 3, 4, 5, 9] (.pures [1, 6, 7, 8] (.reads [0, 2, 3, 4, 5, 9] (.pures [10, 11] (.only 12 (.pures [13, 14] (.only 15 .done)))))) (by kernel_rfl) (by kernel_rfl) (fun _ _ _ _ _ h => h) ?_
  simp only [Plan.pures, Plan.reads, Plan.only, List.foldr_cons, List.foldr_nil]
  rw [hW9]
  clear hW9
  iterate 4 (refine wpPlan_pure (fun K hK => ?_); simp only [List.getD_cons_zero, List.getD_cons_succ]; go_simp; refine hK _ ?_; clear hK K)
  iterate 6 (refine wpPlan_readS hS0 (fun K hK => ?_); simp only [List.getD_cons_zero, List.getD_cons_succ]; go_simp; refine hK _ ?_; clear hK K)
  iterate 2 (refine wpPlan_pure (fun K hK => ?_); simp only [List.getD_cons_zero, List.getD_cons_succ]; go_simp; refine hK _ ?_; clear hK K)
  obtain ⟨R1, R2⟩ := hd.setO hx (b := t) (by rw [← ht]; exact hd.two i hi)
  refine wpPlan_only (fun K hK => ?_)
  simp only [List.getD_cons_zero, List.getD_cons_succ]
  go_simp
  refine hK _ _ (by simp) ?_
  clear hK K hS0 hS1 hS2 hSA d0 d1 q0
  iterate 2 (refine wpPlan_pure (fun K hK => ?_); simp only [List.getD_cons_zero, List.getD_cons_succ]; go_simp; refine hK _ ?_; clear hK K)
  unfold ptrV at R1 R2
  have d1 := (R1.pr i x hx).cell 1
  have q1 := (R1.pr i x hx).frozen 1
  obtain ⟨R3, R4⟩ := R1.setT hx (b := o) ((hd.rest (hd.pr i x hx) R2 (.inr rfl)).2.2.2.1 o _ (by rw [← ho]; exact hd.one i hi))
  refine wpPlan_only (fun K hK => ?_)
  simp only [List.getD_cons_zero, List.getD_cons_succ]
  go_simp
  refine hK _ _ (by simp) ?_
  clear hK K d1 q1
  refine wpPlan_done ?_
  unfold ptrV at R3 R4
  have cs := (cd.mono (T := [x]) (by simp)).trans (R2.trans R4)
  obtain ⟨W2, hW2⟩ : ∃ W2, (W9.setCell ⟨x, 0, none⟩ (.pointer (some ⟨t, 0, none⟩))).setCell ⟨x, 1, none⟩ (.pointer (some ⟨o, 0, none⟩)) = W2 := ⟨_, rfl⟩
  rw [hW2] at R3 cs ⊢
  have e0 := (R3.pr i x hx).cell 0
  have hbt := R3.one i hi
  rw [updN_at] at e0 hbt
  rw [hl] at hbt
  unfold ptrV at e0
  have c1 := R3.top.cell 1
  have h1 := bufLen t (ys ++ [v]) W2 hbt
  have h2 := bufGet t ys v W2 hbt
  obtain ⟨n, hn⟩ : ∃ n, (ys ++ [v]).length = n + 1 := ⟨ys.length, by simp⟩
  rw [hn] at h1
  have n32 : ((n : Int) + 1 == 0) = false := by rw [beq_eq_false_iff_ne]; omega
  have h1' : Calls Try.prog 19 #[.pointer (some ⟨t, 0, none⟩)] W2 fun e w' => e = .returned (.int .i64 ((n : Int) + 1)) ∧ w' = W2 := h1.mono (by rintro e w' ⟨rfl, rfl⟩; exact ⟨by push_cast; rfl, rfl⟩)
  have hnn : n ≤ 32 := by have := hbt.choose_spec.2.1; omega
  clear hW2 R1 R2 R4 hd h cd ho ht hl hn h1 hl0
  go_wp2_with fail
  refine h1'.mono ?_; rintro e w3 ⟨rfl, rfl⟩
  clear h1'
  go_wp2_with fail
  refine h2.mono ?_; rintro e w4 ⟨rfl, b4, c4⟩
  have hfin := R3.buf hbt b4 c4
  have cc := (cs.mono (T := [x, t]) (by simp)).trans (c4.mono (by simp))
  clear h2 R3 hbt b4
  go_wp2_with fail
  go_ret2
  exact ⟨rfl, hfin, cc⟩
theorem poolGetC (i x : Nat) (h : PoolAt w p vs vf ve X O T Fl [] E C) (hx : X[i]? = some x) (hl0 : C (O i) = []) (hl : C (T i) = []) :
    Calls Try.prog 38 #[.pointer (some ⟨p, 0, none⟩), .int .i64 i] w fun e w' => e = .returned (.tuple #[.int .i64 0, .bool false]) ∧ PoolAt w' p vs vf ve X (updN O i (T i)) (updN T i (O i)) Fl [] E C ∧ Ch [x] w w' := by
  obtain ⟨a, cap, rfl, _⟩ := h.fu.form
  rw [List.length_nil] at h ⊢
  have ha := atIn i x h hx
  have hi := (List.getElem?_eq_some_iff.1 hx).1
  have hb := h.one i hi
  rw [hl0] at hb
  have h1 := bufLen (O i) [] w hb
  have e0 := (h.pr i x hx).cell 0
  obtain ⟨o, ho⟩ : ∃ o, O i = o := ⟨_, rfl⟩
  obtain ⟨t, ht⟩ : ∃ t, T i = t := ⟨_, rfl⟩
  rw [List.length_nil, ho] at h1
  rw [ho] at e0 ⊢
  rw [ht] at hl ⊢
  unfold ptrV at ha
  clear hb
  go_enter Try.func38, Try.ntmps38
  go_wp2_with fail
  refine ha.mono ?_; rintro e w1 ⟨rfl, rfl⟩
  clear ha
  go_wp2_with fail
  refine h1.mono ?_; rintro e w1 ⟨rfl, rfl⟩
  clear h1
  go_upto_region 5 with fail
  have hd := h.ch ((Ch.refl [] w1).drewN 1)
  obtain ⟨W9, hW9⟩ : ∃ W9, w1.drewN 1 = W9 := ⟨_, rfl⟩
  have cd : Ch [] w1 W9 := by rw [← hW9]; exact (Ch.refl [] w1).drewN 1
  rw [hW9] at hd
  have d0 := (hd.pr i x hx).cell 0
  have d1 := (hd.pr i x hx).cell 1
  have q0 := (hd.pr i x hx).frozen 0
  rw [ho] at d0
  rw [ht] at d1
  obtain ⟨L, hL⟩ : ∃ L : World → Prop, ∀ w', L w' ↔ (w'.cell? ⟨x, 0, none⟩ = some (.pointer (some ⟨o, 0, none⟩)) ∧ w'.cell? ⟨x, 1, none⟩ = some (.pointer (some ⟨t, 0, none⟩))) := ⟨_, fun _ => Iff.rfl⟩
  have hS1 : ∀ y : { w' : World // L w' }, y.1.cell? ⟨x, 0, none⟩ = some (.pointer (some ⟨o, 0, none⟩)) := fun y => ((hL _).1 y.2).1
  have hS2 : ∀ y : { w' : World // L w' }, y.1.cell? ⟨x, 1, none⟩ = some (.pointer (some ⟨t, 0, none⟩)) := fun y => ((hL _).1 y.2).2
  have hS0 : L W9 := (hL _).2 ⟨d0, d1⟩
  have hSA : Nonempty { w' : World // L w' } := ⟨⟨_, hS0⟩⟩
  clear hL
  refine wp_region_plan (Cls L) [0, 2, 3, 4, 5, 9] (.pures [1, 6, 7, 8] (.reads [0, 2, 3, 4, 5, 9] (.pures [10, 11] (.only 12 (.pures [13, 14] (.only 15 .done)))))) (by kernel_rfl) (by kernel_rfl) (fun _ _ _ _ _ h => h) ?_
  simp only [Plan.pures, Plan.reads, Plan.only, List.foldr_cons, List.foldr_nil]
  rw [hW9]
  clear hW9
  iterate 4 (refine wpPlan_pure (fun K hK => ?_); simp only [List.getD_cons_zero, List.getD_cons_succ]; go_simp; refine hK _ ?_; clear hK K)
  iterate 6 (refine wpPlan_readS hS0 (fun K hK => ?_); simp only [List.getD_cons_zero, List.getD_cons_succ]; go_simp; refine hK _ ?_; clear hK K)
  iterate 2 (refine wpPlan_pure (fun K hK => ?_); simp only [List.getD_cons_zero, List.getD_cons_succ]; go_simp; refine hK _ ?_; clear hK K)
  obtain ⟨R1, R2⟩ := hd.setO hx (b := t) (by rw [← ht]; exact hd.two i hi)
  refine wpPlan_only (fun K hK => ?_)
  simp only [List.getD_cons_zero, List.getD_cons_succ]
  go_simp
  refine hK _ _ (by simp) ?_
  clear hK K hS0 hS1 hS2 hSA d0 d1 q0
  iterate 2 (refine wpPlan_pure (fun K hK => ?_); simp only [List.getD_cons_zero, List.getD_cons_succ]; go_simp; refine hK _ ?_; clear hK K)
  unfold ptrV at R1 R2
  have d1 := (R1.pr i x hx).cell 1
  have q1 := (R1.pr i x hx).frozen 1
  obtain ⟨R3, R4⟩ := R1.setT hx (b := o) ((hd.rest (hd.pr i x hx) R2 (.inr rfl)).2.2.2.1 o _ (by rw [← ho]; exact hd.one i hi))
  refine wpPlan_only (fun K hK => ?_)
  simp only [List.getD_cons_zero, List.getD_cons_succ]
  go_simp
  refine hK _ _ (by simp) ?_
  clear hK K d1 q1
  refine wpPlan_done ?_
  unfold ptrV at R3 R4
  have cs := (cd.mono (T := [x]) (by simp)).trans (R2.trans R4)
  obtain ⟨W2, hW2⟩ : ∃ W2, (W9.setCell ⟨x, 0, none⟩ (.pointer (some ⟨t, 0, none⟩))).setCell ⟨x, 1, none⟩ (.pointer (some ⟨o, 0, none⟩)) = W2 := ⟨_, rfl⟩
  rw [hW2] at R3 cs ⊢
  have e0 := (R3.pr i x hx).cell 0
  have hbt := R3.one i hi
  rw [updN_at] at e0 hbt
  rw [hl] at hbt
  unfold ptrV at e0
  have c1 := R3.top.cell 1
  have h1 := bufLen t [] W2 hbt
  have h2 := bufGetEmpty t W2 hbt
  rw [List.length_nil] at h1
  clear hW2 R1 R2 R4 hd h cd ho ht hl hl0
  go_wp2_with fail
  refine h1.mono ?_; rintro e w3 ⟨rfl, rfl⟩
  clear h1
  go_wp2_with fail
  refine h2.mono ?_; rintro e w4 ⟨rfl, rfl⟩
  go_wp2_with fail
  go_ret2
  exact ⟨rfl, R3, cs⟩
end
end Go.Proofs.Ytalnkhcippcghaa
