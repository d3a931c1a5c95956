/-
  Contracts of package pool: Put where both buffers are full. Conditions: none beyond what each theorem names.
-/
import Derived.Test.YtalnkhcippcghaaPool6
namespace Go.Proofs.Ytalnkhcippcghaa
open Go.RowKit
theorem updN_upd {α : Type} (f : Nat → α) (i : Nat) (u v : α) : updN (updN f i u) i v = updN f i v := by
  funext k
  unfold updN
  by_cases h : k = i <;> simp [h]
section
variable {w w2 : World} {B p : Nat} {vs vf ve : Value} {X F E : List Nat} {O T : Nat → Nat} {Fl : Nat → Bool} {C : Nat → List Int} {S : List Nat}
theorem PB.setO (h : PB B p vs vf ve X O T F E) (i : Nat) {b : Nat} (hb : B ≤ b) : PB B p vs vf ve X (updN O i b) T F E := ⟨h.p, h.x, fun j hj => by
  unfold updN
  by_cases e : j = i
  · rw [if_pos e]; exact hb
  · rw [if_neg e]; exact h.o j hj, h.t, h.f, h.e, h.vs, h.vf, h.ve⟩
theorem PB.setT (h : PB B p vs vf ve X O T F E) (i : Nat) {b : Nat} (hb : B ≤ b) : PB B p vs vf ve X O (updN T i b) F E := ⟨h.p, h.x, h.o, fun j hj => by
  unfold updN
  by_cases e : j = i
  · rw [if_pos e]; exact hb
  · rw [if_neg e]; exact h.t j hj, h.f, h.e, h.vs, h.vf, h.ve⟩
/-- What Put leaves where both buffers were full: b is the new first one. -/
def PutC (w : World) (B p b : Nat) (vs : Value) (X : List Nat) (O T : Nat → Nat) (Fl : Nat → Bool) (F E : List Nat) (C : Nat → List Int) (w' : World) : Prop := ∃ vf' ve', PoolAt w' p vs vf' ve' X O T Fl F E C ∧ PB B p vs vf' ve' X O T F E ∧ Fr B w w'
set_option maxHeartbeats 1000000 in
theorem poolPutOld (i x b : Nat) (v : Int) (h : PoolAt w p vs vf ve X O T Fl F (E ++ [b]) C) (hb : PB B p vs vf ve X O T F (E ++ [b])) (hB : B ≤ w.heap.size) (hx : X[i]? = some x) (hv : v ≠ 0) (hl : (C (O i)).length = 32) (hl2 : (C (T i)).length = 32) (hlF : F.length ≤ 1000) (hlE : E.length ≤ 1000) (hCb : C b = []) :
    Calls Try.prog 35 #[.pointer (some ⟨p, 0, none⟩), .int .i64 i, .int .i64 v] w fun e w' => e = .returned (.int .i64 0) ∧ PutC w B p b vs X (updN O i b) (updN T i (O i)) (updN Fl i true) (F ++ [T i]) E (updN C b [v]) w' := by
  have hbB : B ≤ b := hb.e b (by simp)
  have ha := atIn i x h hx
  have hi := (List.getElem?_eq_some_iff.1 hx).1
  have h1 := bufLen (O i) (C (O i)) w (h.one i hi)
  have e0 := (h.pr i x hx).cell 0
  have hxB := hb.x x (List.mem_of_getElem? hx)
  have hoB := hb.o i hi
  have htB := hb.t i hi
  obtain ⟨o, ho⟩ : ∃ o, O i = o := ⟨_, rfl⟩
  obtain ⟨t, ht⟩ : ∃ t, T i = t := ⟨_, rfl⟩
  rw [hl, ho] at h1
  rw [ho] at e0 hoB ⊢
  rw [ht] at hl2 htB ⊢
  have v0 : (v == 0) = false := by rw [beq_eq_false_iff_ne]; exact hv
  unfold ptrV at ha
  clear hv hl
  go_enter Try.func35, Try.ntmps35
  go_wp2_with fail
  refine ha.mono ?_; rintro e w1 ⟨rfl, rfl⟩
  clear ha
  go_wp2_with fail
  refine h1.mono ?_; rintro e w1 ⟨rfl, rfl⟩
  clear h1
  go_upto_region 5 with fail
  have hd := h.ch ((Ch.refl [] w1).drewN 1)
  obtain ⟨W9, hW9⟩ : ∃ W9, w1.drewN 1 = W9 := ⟨_, rfl⟩
  have cd : Ch [] w1 W9 := by rw [← hW9]; exact (Ch.refl [] w1).drewN 1
  rw [hW9] at hd
  have d0 := (hd.pr i x hx).cell 0
  have d1 := (hd.pr i x hx).cell 1
  have q0 := (hd.pr i x hx).frozen 0
  rw [ho] at d0
  rw [ht] at d1
  obtain ⟨L, hL⟩ : ∃ L : World → Prop, ∀ w', L w' ↔ (w'.cell? ⟨x, 0, none⟩ = some (.pointer (some ⟨o, 0, none⟩)) ∧ w'.cell? ⟨x, 1, none⟩ = some (.pointer (some ⟨t, 0, none⟩))) := ⟨_, fun _ => Iff.rfl⟩
  have hS1 : ∀ y : { w' : World // L w' }, y.1.cell? ⟨x, 0, none⟩ = some (.pointer (some ⟨o, 0, none⟩)) := fun y => ((hL _).1 y.2).1
  have hS2 : ∀ y : { w' : World // L w' }, y.1.cell? ⟨x, 1, none⟩ = some (.pointer (some ⟨t, 0, none⟩)) := fun y => ((hL _).1 y.2).2
  have hS0 : L W9 := (hL _).2 ⟨d0, d1⟩
  have hSA : Nonempty { w' : World // L w' } := ⟨⟨_, hS0⟩⟩
  clear hL
  refine wp_region_plan (Cls L) [0, 2, 3, 4, 5, 9] (.pures [1, 6, 7, 8] (.reads [0, 2, 3, 4, 5, 9] (.pures [10, 11] (.only 12 (.pures [13, 14] (.only 15 .done)))))) (by kernel_rfl) (by kernel_rfl) (fun _ _ _ _ _ h => h) ?_
  simp only [Plan.pures, Plan.reads, Plan.only, List.foldr_cons, List.foldr_nil]
  rw [hW9]
  clear hW9
  iterate 4 (refine wpPlan_pure (fun K hK => ?_); simp only [List.getD_cons_zero, List.getD_cons_succ]; go_simp; refine hK _ ?_; clear hK K)
  iterate 6 (refine wpPlan_readS hS0 (fun K hK => ?_); simp only [List.getD_cons_zero, List.getD_cons_succ]; go_simp; refine hK _ ?_; clear hK K)
  iterate 2 (refine wpPlan_pure (fun K hK => ?_); simp only [List.getD_cons_zero, List.getD_cons_succ]; go_simp; refine hK _ ?_; clear hK K)
  obtain ⟨R1, R2⟩ := hd.setO hx (b := t) (by rw [← ht]; exact hd.two i hi)
  refine wpPlan_only (fun K hK => ?_)
  simp only [List.getD_cons_zero, List.getD_cons_succ]
  go_simp
  refine hK _ _ (by simp) ?_
  clear hK K hS0 hS1 hS2 hSA d0 d1 q0
  iterate 2 (refine wpPlan_pure (fun K hK => ?_); simp only [List.getD_cons_zero, List.getD_cons_succ]; go_simp; refine hK _ ?_; clear hK K)
  unfold ptrV at R1 R2
  have d1 := (R1.pr i x hx).cell 1
  have q1 := (R1.pr i x hx).frozen 1
  obtain ⟨R3, R4⟩ := R1.setT hx (b := o) ((hd.rest (hd.pr i x hx) R2 (.inr rfl)).2.2.2.1 o _ (by rw [← ho]; exact hd.one i hi))
  refine wpPlan_only (fun K hK => ?_)
  simp only [List.getD_cons_zero, List.getD_cons_succ]
  go_simp
  refine hK _ _ (by simp) ?_
  clear hK K d1 q1
  refine wpPlan_done ?_
  unfold ptrV at R3 R4
  have cs := (cd.mono (T := [x]) (by simp)).trans (R2.trans R4)
  obtain ⟨W2, hW2⟩ : ∃ W2, (W9.setCell ⟨x, 0, none⟩ (.pointer (some ⟨t, 0, none⟩))).setCell ⟨x, 1, none⟩ (.pointer (some ⟨o, 0, none⟩)) = W2 := ⟨_, rfl⟩
  rw [hW2] at R3 cs ⊢
  have e0 := (R3.pr i x hx).cell 0
  have hbt := R3.one i hi
  rw [updN_at] at e0 hbt
  unfold ptrV at e0
  have hsw : PB B p vs vf ve X (updN O i t) (updN T i o) F _ := (hb.setO i htB).setT i hoB
  have fr2 : Fr B w1 W2 := Fr.one cs hxB ⟨_, _, h.pr i x hx, by simp⟩
  have hBW : B ≤ W2.heap.size := Nat.le_trans hB cs.size
  have h1 := bufLen t (C t) W2 hbt
  rw [hl2] at h1
  clear hW2 R1 R2 R4 hd h cd ho ht hb cs
  go_wp2_with fail
  refine h1.mono ?_; rintro e w3 ⟨rfl, rfl⟩
  clear h1
  have hg := poolGive i x t R3 hsw hBW hx hbt htB hlF
  unfold ptrV at hg
  go_wp2_with fail
  refine hg.mono ?_; rintro e w4 ⟨rfl, vf', G1, G2, G3⟩
  have fr4 := fr2.trans G3
  clear hg R3 hsw hbt e0 G3 fr2
  have hf := freshOld b G1 G2 hlE
  unfold ptrV at hf
  go_wp2_with fail
  refine hf.mono ?_; rintro e w5 ⟨rfl, hnb, ve', G4, G5, G6⟩
  have fr5 := fr4.trans G6
  have e0 := (G4.pr i x hx).cell 0
  have f0 := (G4.pr i x hx).frozen 0
  obtain ⟨R5, R6⟩ := G4.setO hx (b := b) hnb
  have P5 := G5.setO i hbB
  rw [updN_upd] at R5 P5
  unfold ptrV at R5 R6
  have fr6 := fr5.trans (Fr.one R6 hxB ⟨_, _, G4.pr i x hx, by simp⟩)
  have c0 := (R5.pr i x hx).cell 0
  have hb6 := R5.one i hi
  rw [updN_at] at c0 hb6
  rw [hCb] at hb6
  unfold ptrV at c0
  obtain ⟨W6, hW6⟩ : ∃ W6, w5.setCell ⟨x, 0, none⟩ (.pointer (some ⟨b, 0, none⟩)) = W6 := ⟨_, rfl⟩
  have HW6 := Lib.hid hW6
  rw [hW6] at R5 fr6 c0 hb6
  have h2 := bufPut _ [] v W6 hb6 (by simp)
  obtain ⟨bb, hbb⟩ := hb6.blk
  go_upto_region 9 with fail
  try rw [HW6.out]
  clear hW6 HW6 R6 G4 fr5 e0 f0
  go_wp2_with fail
  refine h2.mono ?_; rintro e w7 ⟨rfl, b7, c7⟩
  have hfin := R5.buf hb6 b7 c7
  have fr7 := fr6.trans (Fr.one c7 hbB ⟨_, _, hbb, by simp⟩)
  clear h2 R5 hb6 b7 c7 fr6 c0
  go_wp2_with fail
  go_ret
  exact ⟨rfl, vf', ve', by simpa using hfin, P5, fr7⟩
/-- The same, with a buffer that is new. -/
def PutN (w : World) (B p i : Nat) (vs : Value) (X : List Nat) (O T : Nat → Nat) (Fl : Nat → Bool) (F : List Nat) (C : Nat → List Int) (v : Int) (w' : World) : Prop := ∃ b, w.heap.size ≤ b ∧ PutC w B p b vs X (updN O i b) T Fl F [] (updN C b [v]) w'
set_option maxHeartbeats 1000000 in
theorem poolPutNew (i x : Nat) (v : Int) (h : PoolAt w p vs vf ve X O T Fl F [] C) (hb : PB B p vs vf ve X O T F []) (hB : B ≤ w.heap.size) (hx : X[i]? = some x) (hv : v ≠ 0) (hl : (C (O i)).length = 32) (hl2 : (C (T i)).length = 32) (hlF : F.length ≤ 1000) :
    Calls Try.prog 35 #[.pointer (some ⟨p, 0, none⟩), .int .i64 i, .int .i64 v] w fun e w' => e = .returned (.int .i64 0) ∧ PutN w B p i vs X O (updN T i (O i)) (updN Fl i true) (F ++ [T i]) C v w' := by
  have ha := atIn i x h hx
  have hi := (List.getElem?_eq_some_iff.1 hx).1
  have h1 := bufLen (O i) (C (O i)) w (h.one i hi)
  have e0 := (h.pr i x hx).cell 0
  have hxB := hb.x x (List.mem_of_getElem? hx)
  have hoB := hb.o i hi
  have htB := hb.t i hi
  obtain ⟨o, ho⟩ : ∃ o, O i = o := ⟨_, rfl⟩
  obtain ⟨t, ht⟩ : ∃ t, T i = t := ⟨_, rfl⟩
  rw [hl, ho] at h1
  rw [ho] at e0 hoB ⊢
  rw [ht] at hl2 htB ⊢
  have v0 : (v == 0) = false := by rw [beq_eq_false_iff_ne]; exact hv
  unfold ptrV at ha
  clear hv hl
  go_enter Try.func35, Try.ntmps35
  go_wp2_with fail
  refine ha.mono ?_; rintro e w1 ⟨rfl, rfl⟩
  clear ha
  go_wp2_with fail
  refine h1.mono ?_; rintro e w1 ⟨rfl, rfl⟩
  clear h1
  go_upto_region 5 with fail
  have hd := h.ch ((Ch.refl [] w1).drewN 1)
  obtain ⟨W9, hW9⟩ : ∃ W9, w1.drewN 1 = W9 := ⟨_, rfl⟩
  have cd : Ch [] w1 W9 := by rw [← hW9]; exact (Ch.refl [] w1).drewN 1
  rw [hW9] at hd
  have d0 := (hd.pr i x hx).cell 0
  have d1 := (hd.pr i x hx).cell 1
  have q0 := (hd.pr i x hx).frozen 0
  rw [ho] at d0
  rw [ht] at d1
  obtain ⟨L, hL⟩ : ∃ L : World → Prop, ∀ w', L w' ↔ (w'.cell? ⟨x, 0, none⟩ = some (.pointer (some ⟨o, 0, none⟩)) ∧ w'.cell? ⟨x, 1, none⟩ = some (.pointer (some ⟨t, 0, none⟩))) := ⟨_, fun _ => Iff.rfl⟩
  have hS1 : ∀ y : { w' : World // L w' }, y.1.cell? ⟨x, 0, none⟩ = some (.pointer (some ⟨o, 0, none⟩)) := fun y => ((hL _).1 y.2).1
  have hS2 : ∀ y : { w' : World // L w' }, y.1.cell? ⟨x, 1, none⟩ = some (.pointer (some ⟨t, 0, none⟩)) := fun y => ((hL _).1 y.2).2
  have hS0 : L W9 := (hL _).2 ⟨d0, d1⟩
  have hSA : Nonempty { w' : World // L w' } := ⟨⟨_, hS0⟩⟩
  clear hL
  refine wp_region_plan (Cls L) [0, 2, 3, 4, 5, 9] (.pures [1, 6, 7, 8] (.reads [0, 2, 3, 4, 5, 9] (.pures [10, 11] (.only 12 (.pures [13, 14] (.only 15 .done)))))) (by kernel_rfl) (by kernel_rfl) (fun _ _ _ _ _ h => h) ?_
  simp only [Plan.pures, Plan.reads, Plan.only, List.foldr_cons, List.foldr_nil]
  rw [hW9]
  clear hW9
  iterate 4 (refine wpPlan_pure (fun K hK => ?_); simp only [List.getD_cons_zero, List.getD_cons_succ]; go_simp; refine hK _ ?_; clear hK K)
  iterate 6 (refine wpPlan_readS hS0 (fun K hK => ?_); simp only [List.getD_cons_zero, List.getD_cons_succ]; go_simp; refine hK _ ?_; clear hK K)
  iterate 2 (refine wpPlan_pure (fun K hK => ?_); simp only [List.getD_cons_zero, List.getD_cons_succ]; go_simp; refine hK _ ?_; clear hK K)
  obtain ⟨R1, R2⟩ := hd.setO hx (b := t) (by rw [← ht]; exact hd.two i hi)
  refine wpPlan_only (fun K hK => ?_)
  simp only [List.getD_cons_zero, List.getD_cons_succ]
  go_simp
  refine hK _ _ (by simp) ?_
  clear hK K hS0 hS1 hS2 hSA d0 d1 q0
  iterate 2 (refine wpPlan_pure (fun K hK => ?_); simp only [List.getD_cons_zero, List.getD_cons_succ]; go_simp; refine hK _ ?_; clear hK K)
  unfold ptrV at R1 R2
  have d1 := (R1.pr i x hx).cell 1
  have q1 := (R1.pr i x hx).frozen 1
  obtain ⟨R3, R4⟩ := R1.setT hx (b := o) ((hd.rest (hd.pr i x hx) R2 (.inr rfl)).2.2.2.1 o _ (by rw [← ho]; exact hd.one i hi))
  refine wpPlan_only (fun K hK => ?_)
  simp only [List.getD_cons_zero, List.getD_cons_succ]
  go_simp
  refine hK _ _ (by simp) ?_
  clear hK K d1 q1
  refine wpPlan_done ?_
  unfold ptrV at R3 R4
  have cs := (cd.mono (T := [x]) (by simp)).trans (R2.trans R4)
  obtain ⟨W2, hW2⟩ : ∃ W2, (W9.setCell ⟨x, 0, none⟩ (.pointer (some ⟨t, 0, none⟩))).setCell ⟨x, 1, none⟩ (.pointer (some ⟨o, 0, none⟩)) = W2 := ⟨_, rfl⟩
  rw [hW2] at R3 cs ⊢
  have e0 := (R3.pr i x hx).cell 0
  have hbt := R3.one i hi
  rw [updN_at] at e0 hbt
  unfold ptrV at e0
  have hsw : PB B p vs vf ve X (updN O i t) (updN T i o) F _ := (hb.setO i htB).setT i hoB
  have fr2 : Fr B w1 W2 := Fr.one cs hxB ⟨_, _, h.pr i x hx, by simp⟩
  have hBW : B ≤ W2.heap.size := Nat.le_trans hB cs.size
  have h1 := bufLen t (C t) W2 hbt
  rw [hl2] at h1
  clear hW2 R1 R2 R4 hd h cd ho ht hb cs
  go_wp2_with fail
  refine h1.mono ?_; rintro e w3 ⟨rfl, rfl⟩
  clear h1
  have hg := poolGive i x t R3 hsw hBW hx hbt htB hlF
  unfold ptrV at hg
  go_wp2_with fail
  refine hg.mono ?_; rintro e w4 ⟨rfl, vf', G1, G2, G3⟩
  have fr4 := fr2.trans G3
  clear hg R3 hsw hbt e0 G3 fr2
  have hf := freshNew G1
  have hsz : w1.heap.size ≤ w4.heap.size := by
    obtain ⟨S', cS, _⟩ := fr4
    exact cS.size
  obtain ⟨b, hbd⟩ : ∃ b, w4.heap.size = b := ⟨_, rfl⟩
  rw [hbd] at hf hsz
  have hbB : B ≤ b := by omega
  clear hbd
  unfold ptrV at hf
  go_wp2_with fail
  refine hf.mono ?_; rintro e w5 ⟨rfl, G4, hnb0, G6⟩
  have fr5 := fr4.trans (Fr.still G6)
  have hCb : updN C b [] b = [] := updN_at _ _ _
  have hnb : BufAt w5 b (updN C b [] b) := by rw [hCb]; exact hnb0
  have G5 := G2
  have e0 := (G4.pr i x hx).cell 0
  have f0 := (G4.pr i x hx).frozen 0
  obtain ⟨R5, R6⟩ := G4.setO hx (b := b) hnb
  have P5 := G5.setO i hbB
  rw [updN_upd] at R5 P5
  unfold ptrV at R5 R6
  have fr6 := fr5.trans (Fr.one R6 hxB ⟨_, _, G4.pr i x hx, by simp⟩)
  have c0 := (R5.pr i x hx).cell 0
  have hb6 := R5.one i hi
  rw [updN_at] at c0 hb6
  rw [hCb] at hb6
  unfold ptrV at c0
  obtain ⟨W6, hW6⟩ : ∃ W6, w5.setCell ⟨x, 0, none⟩ (.pointer (some ⟨b, 0, none⟩)) = W6 := ⟨_, rfl⟩
  have HW6 := Lib.hid hW6
  rw [hW6] at R5 fr6 c0 hb6
  have h2 := bufPut _ [] v W6 hb6 (by simp)
  obtain ⟨bb, hbb⟩ := hb6.blk
  go_upto_region 9 with fail
  try rw [HW6.out]
  clear hW6 HW6 R6 G4 fr5 e0 f0
  go_wp2_with fail
  refine h2.mono ?_; rintro e w7 ⟨rfl, b7, c7⟩
  have hfin := R5.buf hb6 b7 c7
  have fr7 := fr6.trans (Fr.one c7 hbB ⟨_, _, hbb, by simp⟩)
  clear h2 R5 hb6 b7 c7 fr6 c0
  go_wp2_with fail
  go_ret
  rw [updN_upd] at hfin
  exact ⟨rfl, b, hsz, vf', ve, by simpa using hfin, P5, fr7⟩
end
end Go.Proofs.Ytalnkhcippcghaa
