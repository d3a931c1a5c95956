/-
  Contracts of package pool: Get that takes a full buffer from all. Conditions: none beyond what each theorem names.
-/
import Derived.Test.YtalnkhcippcghaaPool8
namespace Go.Proofs.Ytalnkhcippcghaa
open Go.RowKit
section
variable {w w2 : World} {B p : Nat} {vs vf ve : Value} {X F E : List Nat} {O T : Nat → Nat} {Fl : Nat → Bool} {C : Nat → List Int} {S : List Nat}
theorem PtS.at {e : TypeId} {a : Option Addr} {n cap i b : Nat} {ns : List Nat} (h : PtS w e (.slice a n cap) ns) (hb : ns[i]? = some b) : ∃ g o, a = some ⟨g, o, none⟩ ∧ w.cell? ⟨g, o + i, none⟩ = some (ptrV b) := by
  obtain ⟨a', cap', hv, _, _, hc⟩ := h.form
  simp only [Value.slice.injEq] at hv
  obtain ⟨rfl, _, rfl⟩ := hv
  exact hc i b hb
/-- What Get leaves where a full one was taken from all. -/
def GetD (w : World) (B p : Nat) (vs : Value) (X : List Nat) (O T : Nat → Nat) (Fl : Nat → Bool) (F E : List Nat) (C : Nat → List Int) (w' : World) : Prop := ∃ vf' ve', PoolAt w' p vs vf' ve' X O T Fl F E C ∧ PB B p vs vf' ve' X O T F E ∧ Fr B w w'
set_option maxHeartbeats 1000000 in
theorem poolGetD (i x b : Nat) (ys : List Int) (v : Int) (h : PoolAt w p vs vf ve X O T Fl (F ++ [b]) E C) (hpb : PB B p vs vf ve X O T (F ++ [b]) E) (hB : B ≤ w.heap.size) (hx : X[i]? = some x) (hl0 : C (O i) = []) (hl : C (T i) = []) (hCb : C b = ys ++ [v]) (hlF : F.length ≤ 1000) (hlE : E.length ≤ 1000) :
    Calls Try.prog 38 #[.pointer (some ⟨p, 0, none⟩), .int .i64 i] w fun e w' => e = .returned (.tuple #[.int .i64 v, .bool true]) ∧ GetD w B p vs X (updN O i b) (updN T i (O i)) Fl F (E ++ [T i]) (updN C b ys) w' := by
  obtain ⟨a, cap, rfl, zf1, zf2, hcf⟩ := h.fu.form
  obtain ⟨a2, cap2, rfl, _⟩ := h.em.form
  obtain ⟨m, hm⟩ : ∃ m, F.length = m := ⟨_, rfl⟩
  obtain ⟨k, hk⟩ : ∃ k, E.length = k := ⟨_, rfl⟩
  have hm1 : (F ++ [b]).length = m + 1 := by simp [hm]
  rw [hm1] at h hpb zf1
  rw [hk] at h hpb
  have HM := Lib.hid hm
  have HKE := Lib.hid hk
  have hxB := hpb.x x (List.mem_of_getElem? hx)
  have m0 : decide ((m : Int) + 1 > 0) = true := decide_eq_true (by omega)
  have m00 : (0 : Int) < (m : Int) + 1 := by omega
  clear hm hm1 hk hcf
  have ha := atIn i x h hx
  have hi := (List.getElem?_eq_some_iff.1 hx).1
  have hb := h.one i hi
  rw [hl0] at hb
  have h1 := bufLen (O i) [] w hb
  have e0 := (h.pr i x hx).cell 0
  obtain ⟨o, ho⟩ : ∃ o, O i = o := ⟨_, rfl⟩
  obtain ⟨t, ht⟩ : ∃ t, T i = t := ⟨_, rfl⟩
  rw [List.length_nil, ho] at h1
  rw [ho] at e0 ⊢
  rw [ht] at hl ⊢
  unfold ptrV at ha
  clear hb
  go_enter Try.func38, Try.ntmps38
  go_wp2_with fail
  refine ha.mono ?_; rintro e w1 ⟨rfl, rfl⟩
  clear ha
  go_wp2_with fail
  refine h1.mono ?_; rintro e w1 ⟨rfl, rfl⟩
  clear h1
  go_upto_region 5 with fail
  have hd := h.ch ((Ch.refl [] w1).drewN 1)
  obtain ⟨W9, hW9⟩ : ∃ W9, w1.drewN 1 = W9 := ⟨_, rfl⟩
  have cd : Ch [] w1 W9 := by rw [← hW9]; exact (Ch.refl [] w1).drewN 1
  rw [hW9] at hd
  have d0 := (hd.pr i x hx).cell 0
  have d1 := (hd.pr i x hx).cell 1
  have q0 := (hd.pr i x hx).frozen 0
  rw [ho] at d0
  rw [ht] at d1
  obtain ⟨L, hL⟩ : ∃ L : World → Prop, ∀ w', L w' ↔ (w'.cell? ⟨x, 0, none⟩ = some (.pointer (some ⟨o, 0, none⟩)) ∧ w'.cell? ⟨x, 1, none⟩ = some (.pointer (some ⟨t, 0, none⟩))) := ⟨_, fun _ => Iff.rfl⟩
  have hS1 : ∀ y : { w' : World // L w' }, y.1.cell? ⟨x, 0, none⟩ = some (.pointer (some ⟨o, 0, none⟩)) := fun y => ((hL _).1 y.2).1
  have hS2 : ∀ y : { w' : World // L w' }, y.1.cell? ⟨x, 1, none⟩ = some (.pointer (some ⟨t, 0, none⟩)) := fun y => ((hL _).1 y.2).2
  have hS0 : L W9 := (hL _).2 ⟨d0, d1⟩
  have hSA : Nonempty { w' : World // L w' } := ⟨⟨_, hS0⟩⟩
  clear hL
  refine wp_region_plan (Cls L) [0, 2, 3, 4, 5, 9] (.pures [1, 6, 7, 8] (.reads [0, 2, 3, 4, 5, 9] (.pures [10, 11] (.only 12 (.pures [13, 14] (.only 15 .done)))))) (by kernel_rfl) (by kernel_rfl) (fun _ _ _ _ _ h => h) ?_
  simp only [Plan.pures, Plan.reads, Plan.only, List.foldr_cons, List.foldr_nil]
  rw [hW9]
  clear hW9
  iterate 4 (refine wpPlan_pure (fun K hK => ?_); simp only [List.getD_cons_zero, List.getD_cons_succ]; go_simp; refine hK _ ?_; clear hK K)
  iterate 6 (refine wpPlan_readS hS0 (fun K hK => ?_); simp only [List.getD_cons_zero, List.getD_cons_succ]; go_simp; refine hK _ ?_; clear hK K)
  iterate 2 (refine wpPlan_pure (fun K hK => ?_); simp only [List.getD_cons_zero, List.getD_cons_succ]; go_simp; refine hK _ ?_; clear hK K)
  obtain ⟨R1, R2⟩ := hd.setO hx (b := t) (by rw [← ht]; exact hd.two i hi)
  refine wpPlan_only (fun K hK => ?_)
  simp only [List.getD_cons_zero, List.getD_cons_succ]
  go_simp
  refine hK _ _ (by simp) ?_
  clear hK K hS0 hS1 hS2 hSA d0 d1 q0
  iterate 2 (refine wpPlan_pure (fun K hK => ?_); simp only [List.getD_cons_zero, List.getD_cons_succ]; go_simp; refine hK _ ?_; clear hK K)
  unfold ptrV at R1 R2
  have d1 := (R1.pr i x hx).cell 1
  have q1 := (R1.pr i x hx).frozen 1
  obtain ⟨R3, R4⟩ := R1.setT hx (b := o) ((hd.rest (hd.pr i x hx) R2 (.inr rfl)).2.2.2.1 o _ (by rw [← ho]; exact hd.one i hi))
  refine wpPlan_only (fun K hK => ?_)
  simp only [List.getD_cons_zero, List.getD_cons_succ]
  go_simp
  refine hK _ _ (by simp) ?_
  clear hK K d1 q1
  refine wpPlan_done ?_
  unfold ptrV at R3 R4
  have cs := (cd.mono (T := [x]) (by simp)).trans (R2.trans R4)
  obtain ⟨W2, hW2⟩ : ∃ W2, (W9.setCell ⟨x, 0, none⟩ (.pointer (some ⟨t, 0, none⟩))).setCell ⟨x, 1, none⟩ (.pointer (some ⟨o, 0, none⟩)) = W2 := ⟨_, rfl⟩
  rw [hW2] at R3 cs ⊢
  have e0 := (R3.pr i x hx).cell 0
  have hbt := R3.one i hi
  rw [updN_at] at e0 hbt
  rw [hl] at hbt
  unfold ptrV at e0
  have c1 := R3.top.cell 1
  have hoB : B ≤ o := by rw [← ho]; exact hpb.o i hi
  have htB : B ≤ t := by rw [← ht]; exact hpb.t i hi
  have fr2 : Fr B w1 W2 := Fr.one cs hxB ⟨_, _, h.pr i x hx, by simp⟩
  have h1 := bufLen t [] W2 hbt
  rw [List.length_nil] at h1
  clear hW2 R1 R2 R4 hd h cd ho ht hl0
  go_wp2_with fail
  refine h1.mono ?_; rintro e w3 ⟨rfl, rfl⟩
  clear h1
  go_upto_region 8 with fail
  have h4 := R3.ch ((Ch.refl [] w3).drewN 1)
  have hbt4 : BufAt (w3.drewN 1) t [] := hbt.keep ((Ch.refl [] w3).drewN 1) (by simp)
  have htE : C t = [] := hl
  obtain ⟨W4, hW4⟩ : ∃ W4, w3.drewN 1 = W4 := ⟨_, rfl⟩
  have fr4 : Fr B w1 W4 := fr2.trans (Fr.still (by rw [← hW4]; exact (Ch.refl [] w3).drewN 1))
  have cs4 : Ch [x] w1 W4 := cs.trans (by rw [← hW4]; exact ((Ch.refl [] w3).drewN 1).mono (by simp))
  rw [hW4] at h4 hbt4
  obtain ⟨L, hL⟩ : ∃ L : World → Prop, ∀ w', L w' ↔ (w'.cell? ⟨p, 2, none⟩ = some (.slice a2 k cap2) ∧ w'.cell? ⟨x, 0, none⟩ = some (.pointer (some ⟨t, 0, none⟩))) := ⟨_, fun _ => Iff.rfl⟩
  have hS1 : ∀ y : { w' : World // L w' }, y.1.cell? ⟨p, 2, none⟩ = some (.slice a2 k cap2) := fun y => ((hL _).1 y.2).1
  have hS2 : ∀ y : { w' : World // L w' }, y.1.cell? ⟨x, 0, none⟩ = some (.pointer (some ⟨t, 0, none⟩)) := fun y => ((hL _).1 y.2).2
  have hLk : ∀ w' vs' vf' O' T' Fl', Blk w' p #[vs', vf', .slice a2 k cap2] 81 → Blk w' x #[.pointer (some ⟨t, 0, none⟩), O', T'] 84 → Fl' = () → L w' := fun w' vs' vf' O' T' Fl' h1 h2 _ => (hL _).2 ⟨h1.cell 2, h2.cell 0⟩
  have hpr4 : Blk W4 x #[.pointer (some ⟨t, 0, none⟩), ptrV (updN T i o i), .bool (Fl i)] 84 := by
    have := h4.pr i x hx
    rw [updN_at] at this
    exact this
  have hS0 := hLk W4 _ _ _ _ () h4.top hpr4 rfl
  have hSA : Nonempty { w' : World // L w' } := ⟨⟨_, hS0⟩⟩
  have HLk := Lib.hid hLk
  clear hL hLk cs R3 hbt e0 c1
  refine wp_region_plan (Cls L) [0, 1, 2, 3, 4, 5, 6, 7, 8, 9, 10, 12] (.reads [0, 1, 2, 3, 4, 5, 6, 7, 8] (.only 9 (.only 10 (.pures [11] (.reads [12] (.only 13 .done)))))) (by kernel_rfl) (by kernel_rfl) (fun _ _ _ _ _ h => h) ?_
  simp only [Plan.pures, Plan.reads, Plan.only, List.foldr_cons, List.foldr_nil]
  rw [hW4]
  clear hW4
  iterate 9 (refine wpPlan_readS hS0 (fun K hK => ?_); simp only [List.getD_cons_zero, List.getD_cons_succ]; go_simp; refine hK _ ?_; clear hK K)
  refine wpPlan_onlyU rfl (fun K hK => ?_); simp only [List.getD_cons_zero, List.getD_cons_succ]
  go_simp
  have ca := (Ch.refl [] W4).alloc (.cells #[ptrV t] 23)
  have h5 := h4.ch ca
  have hpr5 := hpr4.keep ca (by simp)
  have hbt5 := hbt4.keep ca (by simp)
  have sP := srcPtr W4 t
  unfold ptrV at ca h5 hpr5 hbt5 sP
  refine hK _ _ (fun _ => Cls.mk (HLk.out _ _ _ _ _ () h5.top hpr5 rfl)) ?_
  clear hK K hS0
  refine wpPlan_onlyU rfl (fun K hK => ?_); simp only [List.getD_cons_zero, List.getD_cons_succ]
  refine wp_appP (.tmp 52) (.tmp 57) rfl (.slice a2 k cap2) E rfl h5.em t _ rfl sP (by omega) (fun v6 w6 hv6 c6 n6 => ?_)
  obtain ⟨r1, _, r3, r4⟩ := h5.rowKeep h5.blkE c6
  have hpr6 := r3 i x hx
  rw [updN_at] at hpr6
  have l6 := HLk.out _ _ _ _ _ () r1 hpr6 rfl
  obtain ⟨a6, cap6, rfl, _⟩ := hv6.form
  obtain ⟨k6, hk6⟩ : ∃ k6, (E ++ [t]).length = k6 := ⟨_, rfl⟩
  rw [hk6] at hv6 n6 ⊢
  clear hk6
  refine hK _ _ (fun _ => Cls.mk l6) ?_
  clear hK K
  refine wpPlan_pure (fun K hK => ?_); simp only [List.getD_cons_zero, List.getD_cons_succ]; go_simp; refine hK _ ?_; clear hK K
  refine wpPlan_readS l6 (fun K hK => ?_); simp only [List.getD_cons_zero, List.getD_cons_succ]; go_simp; refine hK _ ?_; clear hK K
  have p2 := r1.cell 2
  have q2 := r1.frozen 2
  refine wpPlan_only (fun K hK => ?_)
  simp only [List.getD_cons_zero, List.getD_cons_succ]
  go_simp
  refine hK _ _ (by simp) ?_
  clear hK K p2 q2
  refine wpPlan_done ?_
  have R7 := h5.appE c6 hv6 (fun y hy => by
    rcases List.mem_append.1 hy with hy | hy
    · exact h5.bE y hy
    · simp at hy; subst hy; rw [htE]; exact hbt5) (n6.imp id (fun h k hk => by have := h k hk; simpa using this))
  clear hS1 hS2 hSA l6 HLk
  go_upto_region 9 with fail
  obtain ⟨W7, hW7⟩ : ∃ W7, w6.setCell ⟨p, 2, none⟩ (.slice a6 k6 cap6) = W7 := ⟨_, rfl⟩
  have f7 : Fr B w1 W7 := by
    rw [← hW7]
    refine ((fr4.trans (Fr.still ca)).trans ⟨_, c6, fun y hy => ⟨hpb.ve y (by simpa using hy), ?_⟩⟩).trans (Fr.one ((Ch.refl [p] w6).setCell (.inl (by simp)) _) hpb.p ⟨_, _, r1, by simp⟩)
    obtain ⟨cs', hb'⟩ := h5.blkE y hy
    exact ⟨cs', _, hb', by simp⟩
  rw [hW7] at R7
  try rw [hW7]
  have h8 := R7.ch ((Ch.refl [] W7).drewN 1)
  obtain ⟨W8, hW8⟩ : ∃ W8, W7.drewN 1 = W8 := ⟨_, rfl⟩
  have f8 : Fr B w1 W8 := f7.trans (Fr.still (by rw [← hW8]; exact (Ch.refl [] W7).drewN 1))
  rw [hW8] at h8
  obtain ⟨g, o9, rfl, d9⟩ := h8.fu.at (i := m) (b := b) (by rw [← HM.out]; simp)
  unfold ptrV at d9
  obtain ⟨L2, hL2⟩ : ∃ L : World → Prop, ∀ w', L w' ↔ (w'.cell? ⟨p, 1, none⟩ = some (.slice (some ⟨g, o9, none⟩) (m + 1) cap) ∧ w'.cell? ⟨g, o9 + m, none⟩ = some (.pointer (some ⟨b, 0, none⟩))) := ⟨_, fun _ => Iff.rfl⟩
  have hS1 : ∀ y : { w' : World // L2 w' }, y.1.cell? ⟨p, 1, none⟩ = some (.slice (some ⟨g, o9, none⟩) (m + 1) cap) := fun y => ((hL2 _).1 y.2).1
  have hS2 : ∀ y : { w' : World // L2 w' }, y.1.cell? ⟨g, o9 + m, none⟩ = some (.pointer (some ⟨b, 0, none⟩)) := fun y => ((hL2 _).1 y.2).2
  have l8 : L2 W8 := (hL2 _).2 ⟨h8.top.cell 1, d9⟩
  have hSA : Nonempty { w' : World // L2 w' } := ⟨⟨_, l8⟩⟩
  have HL2 := Lib.hid hL2
  have wm : IntKind.i64.wrap (m : Int) = (m : Int) := IntWalk.i64_in _ (by have := HM.out; omega)
  have mcap : (m : Int) ≤ cap := by omega
  have mm : (m : Int) < (m : Int) + 1 := by omega
  have mz : (0 : Int) ≤ m := by omega
  clear hL2
  refine wp_region_plan (Cls L2) [0, 1, 2, 3, 4, 5, 6, 7, 8, 9, 10, 11, 12, 13, 14, 15, 16, 17, 18, 19, 21] (.reads [0, 1, 2, 3, 4, 5, 6, 7, 8, 9, 10, 11, 12, 13, 14, 15, 16, 17, 18] (.only 19 (.pures [20] (.reads [21] (.only 22 .done))))) (by kernel_rfl) (by kernel_rfl) (fun _ _ _ _ _ h => h) ?_
  simp only [Plan.pures, Plan.reads, Plan.only, List.foldr_cons, List.foldr_nil]
  rw [hW8]
  clear hW8
  iterate 19 (refine wpPlan_readS l8 (fun K hK => ?_); simp only [List.getD_cons_zero, List.getD_cons_succ]; go_simp; refine hK _ ?_; clear hK K)
  obtain ⟨R9, Q9⟩ := h8.setO hx (b := b) (h8.bF b (by simp))
  rw [updN_upd] at R9
  have hP8 : PT W8 x := ⟨_, _, h8.pr i x hx, by simp⟩
  have f9 := f8.trans (Fr.one Q9 hxB hP8)
  have p0 := (h8.pr i x hx).cell 0
  have q0 := (h8.pr i x hx).frozen 0
  unfold ptrV at R9 Q9 f9
  have l9 : L2 (W8.setCell ⟨x, 0, none⟩ (.pointer (some ⟨b, 0, none⟩))) := (HL2.out _).2 ⟨R9.top.cell 1, by
    obtain ⟨g', o', e', d'⟩ := R9.fu.at (i := m) (b := b) (by rw [← HM.out]; simp)
    cases e'
    exact d'⟩
  refine wpPlan_only (fun K hK => ?_)
  simp only [List.getD_cons_zero, List.getD_cons_succ]
  go_simp
  refine hK _ _ (fun _ => Cls.mk l9) ?_
  clear hK K p0 q0
  refine wpPlan_pure (fun K hK => ?_); simp only [List.getD_cons_zero, List.getD_cons_succ]; go_simp; refine hK _ ?_; clear hK K
  refine wpPlan_readS l9 (fun K hK => ?_); simp only [List.getD_cons_zero, List.getD_cons_succ]; go_simp; refine hK _ ?_; clear hK K
  have p1 := R9.top.cell 1
  have q1 := R9.top.frozen 1
  refine wpPlan_only (fun K hK => ?_)
  simp only [List.getD_cons_zero, List.getD_cons_succ]
  go_simp
  refine hK _ _ (by simp) ?_
  clear hK K p1 q1
  refine wpPlan_done ?_
  clear hS1 hS2 hSA l8 l9 HL2
  obtain ⟨R10, Q10⟩ := R9.setF (PtS.front R9.fu HM.out) (fun y hy => R9.bF y (List.mem_append_left _ hy)) (fun k' hk' => R9.ap k' hk')
  have f10 := f9.trans (Fr.one Q10 hpb.p ⟨_, _, R9.top, by simp⟩)
  obtain ⟨W11, hW11⟩ : ∃ W, (W8.setCell ⟨x, 0, none⟩ (.pointer (some ⟨b, 0, none⟩))).setCell ⟨p, 1, none⟩ (.slice (some ⟨g, o9, none⟩) m cap) = W := ⟨_, rfl⟩
  rw [hW11] at R10 f10 ⊢
  clear hW11 R9 Q9 Q10 h8 R7 h5 h4 f9 f8 f7 r1 r3 r4 d9 hv6 c6
  have c0 := (R10.pr i x hx).cell 0
  have hb9 := R10.one i hi
  rw [updN_at] at c0 hb9
  rw [hCb] at hb9
  unfold ptrV at c0
  have h2 := bufGet b ys v W11 hb9
  obtain ⟨bb, hbb⟩ := hb9.blk
  have hbB := hpb.f b (by simp)
  go_wp2_with fail
  refine h2.mono ?_; rintro e w12 ⟨rfl, b12, c12⟩
  have hfin := R10.buf hb9 b12 c12
  have f12 := f10.trans (Fr.one c12 hbB ⟨_, _, hbb, by simp⟩)
  clear h2 R10 hb9 b12 c0
  go_wp2_with fail
  go_ret2
  have hsz4 : w1.heap.size ≤ W4.heap.size := cs4.size
  have hve : ∀ y, (Value.slice a6 k6 cap6).ownBlock = some y → B ≤ y := fun y hy => by
    rcases n6 with e | e
    · exact hpb.ve y (by rw [← e]; exact hy)
    · have := e y hy
      simp at this
      omega
  have hP : PB B p vs (.slice (some ⟨g, o9, none⟩) m cap) (.slice a6 k6 cap6) X O T F (E ++ [t]) := ⟨hpb.p, hpb.x, hpb.o, hpb.t, fun y hy => hpb.f y (List.mem_append_left _ hy), fun y hy => by
    rcases List.mem_append.1 hy with hy | hy
    · exact hpb.e y hy
    · rw [List.mem_singleton] at hy; subst hy; exact htB, hpb.vs, fun y hy => hpb.vf y hy, hve⟩
  exact ⟨rfl, _, _, hfin, (hP.setO i hbB).setT i hoB, f12⟩
end
end Go.Proofs.Ytalnkhcippcghaa
