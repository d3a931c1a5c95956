/-
  The walk of the statement SpanKeeps: the law returns true at every input. Conditions: the library's table reads as its text lays it.
-/
import Derived.Test.YtheniiinioggiaaDoorSpanMath
namespace Go.Proofs.YtheniiinioggiaaDoor
open Go.RowKit
def keepP (b m : Nat) : Nat → Bool := fun j => (j % b == 0) || (j % m == 0)
theorem mark_in {U M : Nat → Bool} {n i : Nat} (hi : i < n) (hU : U i = true) : markB U M n (i : Int) = !M i ∧ markM U M n (i : Int) = upd M i true := by
  have e : hasI U n (i : Int) = true := by rw [hasI_in hi]; exact hU
  unfold markB markM setB
  rw [e, if_pos rfl, decide_eq_true (show (0 : Int) ≤ i by omega), decide_eq_true (show (i : Int) < n by omega), Int.toNat_natCast, putS_nat' _ _ _ _ hi]
  exact ⟨rfl, rfl⟩
theorem upd_upd (M : Nat → Bool) (i : Nat) : upd (upd M i true) i true = upd M i true := upd_self (by simp [upd])
theorem upd_at (M : Nat → Bool) (i : Nat) (v : Bool) : upd M i v i = v := by simp [upd]
theorem stay_yes {P : Nat → Bool} {i : Nat} (h : P i = true) (j : Nat) : upd (stayS P i) i true j = stayS P (i + 1) j := by
  have := stay_step P i j
  rw [h] at this
  exact this
theorem stay_no {P : Nat → Bool} {i : Nat} (h : P i = false) (j : Nat) : stayS P i j = stayS P (i + 1) j := by
  have := stay_step P i j
  rw [h] at this
  exact this
set_option maxRecDepth 100000 in
set_option maxHeartbeats 10000000 in
theorem keeps6_walk (a0 a1 a2 a3 : Int) (w : World) (hT : TabW w) :
    Calls Tryd.prog 9 #[.int .i64 a0, .int .i64 a1, .int .i64 a2, .int .i64 a3] w fun e w' => e = .returned (.bool true) ∧ Below w.heap.size w w' := by
  obtain ⟨c, hc, hcl⟩ := umod a0 16 (by decide) (by decide)
  obtain ⟨n, hn, hn1, hn2⟩ := sls_in (k := (c : Int)) (by omega) (by omega)
  obtain ⟨k, hk, hkl⟩ := umod a1 ((n : Int) + 1) (by omega) (by omega)
  obtain ⟨b0, hb0, hb0l⟩ := umod a2 5 (by decide) (by decide)
  obtain ⟨m0, hm0, hm0l⟩ := umod a3 5 (by decide) (by decide)
  have hN := spNew 5 c n w (sz_pos (by omega) (by omega)) (by omega) hn hn2
  obtain ⟨b, hb⟩ : ∃ b, b0 + 1 = b := ⟨_, rfl⟩
  obtain ⟨m, hm⟩ : ∃ m, m0 + 1 = m := ⟨_, rfl⟩
  have hbq : (1 : Int) + (b0 : Int) = (b : Int) := by omega
  have hmq : (1 : Int) + (m0 : Int) = (m : Int) := by omega
  have HBW : Hid (wrap64 ((1 : Int) + (b0 : Int)) = (b : Int)) := Lib.hid (by rw [hbq]; exact IntWalk.wrap64_in _ (by omega))
  have HMW : Hid (wrap64 ((1 : Int) + (m0 : Int)) = (m : Int)) := Lib.hid (by rw [hmq]; exact IntWalk.wrap64_in _ (by omega))
  have b1 : 0 < b := by omega
  have m1 : 0 < m := by omega
  have b3 : ¬ (b : Int) = 0 := by omega
  have m3 : ¬ (m : Int) = 0 := by omega
  have b4 : ((b : Int) == 0) = false := by rw [beq_eq_false_iff_ne]; omega
  have m4 : ((m : Int) == 0) = false := by rw [beq_eq_false_iff_ne]; omega
  have b5 : ¬ b = 0 := by omega
  have m5 : ¬ m = 0 := by omega
  have HC := Lib.hid hc
  have HK := Lib.hid hk
  have HB0 := Lib.hid hb0
  have HM0 := Lib.hid hm0
  have HBQ := Lib.hid hbq
  have HMQ := Lib.hid hmq
  have nn0 : ((n : Int) + 1 == 0) = false := by rw [beq_eq_false_iff_ne]; omega
  have nn00 : ¬ (n : Int) + 1 = 0 := by omega
  clear hc hk hn hb0 hm0 hb hm hbq hmq
  go_enter Tryd.func9, Tryd.ntmps9
  go_wp2_with fail
  try rw [HC.out]
  refine hN.mono ?_; rintro e w1 ⟨s, D, rfl, h1⟩
  clear hN
  go_wp2_with fail
  refine (spSlots h1).mono ?_; rintro e w2 ⟨rfl, rfl⟩
  go_upto_region 7 with fail
  rw [HK.out, HB0.out, HM0.out, HBW.out, HMW.out]
  have hst : SpD w w2 s 5 c n D (under 0) (stayS (keepP b m) 0) 0 := h1.congr (fun j _ => by simp [none_, under]) (fun j _ => by simp [none_, stayS])
  clear h1 HC HK HB0 HM0 HBW HMW HBQ HMQ
  go_wp2_with fail
  go_loopw [14, 15] (fun s14 s15 wr => ∃ (i : Nat) (v : Value) (fr : Nat), s15 = .int .i64 i ∧ i ≤ k ∧ fr ≤ i ∧ v = s14 ∧ SpD w wr s 5 c n D (under i) (stayS (keepP b m) i) fr ∧ OwD wr w.heap.size D v (els (notS (keepP b m)) i)) (fun _ s15 _ => k - (intOf s15).toNat)
  case atStart => exact ⟨0, .slice none 0 0, 0, rfl, by omega, by omega, rfl, hst, OwD.nil _ _ _⟩
  case round =>
    clear hst
    obtain ⟨i, v, fr, rfl, hik, hfr, rfl, hst, hO⟩ := hrel
    by_cases hlt : i < k
    · have hin : i < n := by omega
      have t1 : decide ((i : Int) < k) = true := decide_eq_true (by omega)
      obtain ⟨rb, hrb⟩ : ∃ r, i % b = r := ⟨_, rfl⟩
      obtain ⟨rm, hrm⟩ : ∃ r, i % m = r := ⟨_, rfl⟩
      have x1 : (i : Int) % (b : Int) = (rb : Int) := by rw [← hrb, Int.natCast_emod]
      have x1t : (i : Int).tmod (b : Int) = (rb : Int) := by rw [Int.tmod_eq_emod_of_nonneg (by omega)]; exact x1
      have y1 : (i : Int) % (m : Int) = (rm : Int) := by rw [← hrm, Int.natCast_emod]
      have y1t : (i : Int).tmod (m : Int) = (rm : Int) := by rw [Int.tmod_eq_emod_of_nonneg (by omega)]; exact y1
      by_cases hb0 : rb = 0
      · subst hb0
        replace x1 : (i : Int) % (b : Int) = 0 := x1
        replace x1t : (i : Int).tmod (b : Int) = 0 := x1t
        have hP : keepP b m i = true := by unfold keepP; rw [hrb]; rfl
        have hQ : notS (keepP b m) i = false := by unfold notS; rw [hP]; rfl
        have HE := Lib.hid (show els (notS (keepP b m)) (i + 1) = els (notS (keepP b m)) i by rw [els_succ, hQ]; simp)
        by_cases hm0 : rm = 0
        · subst hm0
          replace y1 : (i : Int) % (m : Int) = 0 := y1
          replace y1t : (i : Int).tmod (m : Int) = 0 := y1t
          clear hrb hrm
          have x1 := spAllocYes true i hst hT (nxt_under hin hfr) (by omega)
          go_wp2_with fail
          refine x1.mono ?_; rintro e w2 ⟨rfl, h2, c2⟩
          clear x1
          have o2 := hO.step c2 (fun k hk => .inl hk)
          clear hst hO c2
          have h2 : SpD w w2 s 5 c n D (under (i + 1)) (if true then upd (stayS (keepP b m) i) i true else stayS (keepP b m) i) i := h2.congr (fun j _ => put_under n i hin j) (fun j _ => by
            simp only [putS_nat' _ _ _ _ hin] <;> rfl)
          simp only [if_true, Bool.false_eq_true, if_false] at h2
          go_upto_region 13 with fail
          have h3 := h2.still ((Ch.refl [] w2).drewN 1)
          have o3 : OwD (w2.drewN 1) w.heap.size D v (els (notS (keepP b m)) i) := o2.step ((Ch.refl [] w2).drewN 1) (by simp)
          clear h2 o2
          obtain ⟨W3, hW3⟩ : ∃ W3, w2.drewN 1 = W3 := ⟨_, rfl⟩
          obtain ⟨L, hLL⟩ : ∃ L : World → Prop, ∀ w', L w' ↔ True := ⟨fun _ => True, fun _ => Iff.rfl⟩
          have hS0 : ∀ w', L w' := fun w' => (hLL _).2 trivial
          have hSA : Nonempty { w' : World // L w' } := ⟨⟨w, hS0 w⟩⟩
          clear hLL
          refine wp_region_plan (Cls L) (List.range 14) (.reads [0, 1, 2, 3, 4, 5, 6, 8, 9, 10, 11] (.only 7 (.reads [12, 13] .done))) (by kernel_rfl) (by kernel_rfl) (fun _ _ _ _ _ h => h) ?_
          simp only [Plan.reads, Plan.only, List.foldr_cons, List.foldr_nil]
          rw [hW3] at h3 o3 ⊢
          clear hW3
          iterate 11 (refine wpPlan_readS (hS0 W3) (fun K hK => ?_); simp only [List.getD_cons_zero, List.getD_cons_succ]; go_simp; refine hK _ ?_; clear hK K)
          refine wpPlan_only (fun K hK => ?_)
          simp only [List.getD_cons_zero, List.getD_cons_succ]
          go_simp
          have x1 := spMark (i : Int) h3
          rw [(mark_in hin (by simp [under])).1, (mark_in hin (by simp [under])).2, upd_at] at x1
          refine x1.mono ?_; rintro e w4 ⟨rfl, h4, c4⟩
          have o4 := o3.step c4 (fun k hk => .inl hk)
          clear x1 h3 o3 c4
          refine hK _ _ (fun _ => Cls.mk (hS0 _)) ?_
          clear hK K
          iterate 2 (refine wpPlan_readS (hS0 w4) (fun K hK => ?_); simp only [List.getD_cons_zero, List.getD_cons_succ]; go_simp; refine hK _ ?_; clear hK K)
          refine wpPlan_done ?_
          clear hS0 hSA
          rw [upd_upd] at h4
          have h4 := h4.congr (U2 := under (i + 1)) (M2 := stayS (keepP b m) (i + 1)) (fun _ _ => rfl) (fun j _ => (stay_yes hP j))
          rw [← HE.out] at o4
          go_wp2_with fail
          go_roundw
          case rel => exact ⟨i + 1, v, i, by go_num, by omega, by omega, rfl, h4, o4⟩
          case measure => simp [intOf]; omega
        · have y2 : ((rm : Int) == 0) = false := by rw [beq_eq_false_iff_ne]; omega
          have y3 : ((rm : Int) != 0) = true := by rw [bne_iff_ne]; omega
          clear hrb hrm
          have x1 := spAllocYes true i hst hT (nxt_under hin hfr) (by omega)
          go_wp2_with fail
          refine x1.mono ?_; rintro e w2 ⟨rfl, h2, c2⟩
          clear x1
          have o2 := hO.step c2 (fun k hk => .inl hk)
          clear hst hO c2
          have h2 : SpD w w2 s 5 c n D (under (i + 1)) (if true then upd (stayS (keepP b m) i) i true else stayS (keepP b m) i) i := h2.congr (fun j _ => put_under n i hin j) (fun j _ => by
            simp only [putS_nat' _ _ _ _ hin] <;> rfl)
          simp only [if_true, Bool.false_eq_true, if_false] at h2
          go_upto_region 13 with fail
          have h3 := h2.still ((Ch.refl [] w2).drewN 1)
          have o3 : OwD (w2.drewN 1) w.heap.size D v (els (notS (keepP b m)) i) := o2.step ((Ch.refl [] w2).drewN 1) (by simp)
          clear h2 o2
          obtain ⟨W3, hW3⟩ : ∃ W3, w2.drewN 1 = W3 := ⟨_, rfl⟩
          obtain ⟨L, hLL⟩ : ∃ L : World → Prop, ∀ w', L w' ↔ True := ⟨fun _ => True, fun _ => Iff.rfl⟩
          have hS0 : ∀ w', L w' := fun w' => (hLL _).2 trivial
          have hSA : Nonempty { w' : World // L w' } := ⟨⟨w, hS0 w⟩⟩
          clear hLL
          refine wp_region_plan (Cls L) (List.range 14) (.reads [0, 1, 2, 3, 4, 5, 6, 8, 9, 10, 11] (.only 7 (.reads [12, 13] .done))) (by kernel_rfl) (by kernel_rfl) (fun _ _ _ _ _ h => h) ?_
          simp only [Plan.reads, Plan.only, List.foldr_cons, List.foldr_nil]
          rw [hW3] at h3 o3 ⊢
          clear hW3
          iterate 11 (refine wpPlan_readS (hS0 W3) (fun K hK => ?_); simp only [List.getD_cons_zero, List.getD_cons_succ]; go_simp; refine hK _ ?_; clear hK K)
          refine wpPlan_only (fun K hK => ?_)
          simp only [List.getD_cons_zero, List.getD_cons_succ]
          go_simp
          refine hK _ _ (fun _ => Cls.mk (hS0 _)) ?_
          clear hK K
          iterate 2 (refine wpPlan_readS (hS0 W3) (fun K hK => ?_); simp only [List.getD_cons_zero, List.getD_cons_succ]; go_simp; refine hK _ ?_; clear hK K)
          refine wpPlan_done ?_
          clear hS0 hSA
          have h4 := h3
          have o4 := o3
          clear h3 o3
          have h4 := h4.congr (U2 := under (i + 1)) (M2 := stayS (keepP b m) (i + 1)) (fun _ _ => rfl) (fun j _ => (stay_yes hP j))
          rw [← HE.out] at o4
          go_wp2_with fail
          go_roundw
          case rel => exact ⟨i + 1, v, i, by go_num, by omega, by omega, rfl, h4, o4⟩
          case measure => simp [intOf]; omega
      · have x2 : ((rb : Int) == 0) = false := by rw [beq_eq_false_iff_ne]; omega
        have x3 : ((rb : Int) != 0) = true := by rw [bne_iff_ne]; omega
        by_cases hm0 : rm = 0
        · subst hm0
          replace y1 : (i : Int) % (m : Int) = 0 := y1
          replace y1t : (i : Int).tmod (m : Int) = 0 := y1t
          have hP : keepP b m i = true := by unfold keepP; rw [hrm]; simp
          have hQ : notS (keepP b m) i = false := by unfold notS; rw [hP]; rfl
          have HE := Lib.hid (show els (notS (keepP b m)) (i + 1) = els (notS (keepP b m)) i by rw [els_succ, hQ]; simp)
          clear hrb hrm
          have x1 := spAllocYes false i hst hT (nxt_under hin hfr) (by omega)
          go_wp2_with fail
          refine x1.mono ?_; rintro e w2 ⟨rfl, h2, c2⟩
          clear x1
          have o2 := hO.step c2 (fun k hk => .inl hk)
          clear hst hO c2
          have h2 : SpD w w2 s 5 c n D (under (i + 1)) (if false then upd (stayS (keepP b m) i) i true else stayS (keepP b m) i) i := h2.congr (fun j _ => put_under n i hin j) (fun j _ => by
            simp only [putS_nat' _ _ _ _ hin] <;> rfl)
          simp only [if_true, Bool.false_eq_true, if_false] at h2
          go_upto_region 13 with fail
          have h3 := h2.still ((Ch.refl [] w2).drewN 1)
          have o3 : OwD (w2.drewN 1) w.heap.size D v (els (notS (keepP b m)) i) := o2.step ((Ch.refl [] w2).drewN 1) (by simp)
          clear h2 o2
          obtain ⟨W3, hW3⟩ : ∃ W3, w2.drewN 1 = W3 := ⟨_, rfl⟩
          obtain ⟨L, hLL⟩ : ∃ L : World → Prop, ∀ w', L w' ↔ True := ⟨fun _ => True, fun _ => Iff.rfl⟩
          have hS0 : ∀ w', L w' := fun w' => (hLL _).2 trivial
          have hSA : Nonempty { w' : World // L w' } := ⟨⟨w, hS0 w⟩⟩
          clear hLL
          refine wp_region_plan (Cls L) (List.range 14) (.reads [0, 1, 2, 3, 4, 5, 6, 8, 9, 10, 11] (.only 7 (.reads [12, 13] .done))) (by kernel_rfl) (by kernel_rfl) (fun _ _ _ _ _ h => h) ?_
          simp only [Plan.reads, Plan.only, List.foldr_cons, List.foldr_nil]
          rw [hW3] at h3 o3 ⊢
          clear hW3
          iterate 11 (refine wpPlan_readS (hS0 W3) (fun K hK => ?_); simp only [List.getD_cons_zero, List.getD_cons_succ]; go_simp; refine hK _ ?_; clear hK K)
          refine wpPlan_only (fun K hK => ?_)
          simp only [List.getD_cons_zero, List.getD_cons_succ]
          go_simp
          have x1 := spMark (i : Int) h3
          rw [(mark_in hin (by simp [under])).1, (mark_in hin (by simp [under])).2, stay_self] at x1
          refine x1.mono ?_; rintro e w4 ⟨rfl, h4, c4⟩
          have o4 := o3.step c4 (fun k hk => .inl hk)
          clear x1 h3 o3 c4
          refine hK _ _ (fun _ => Cls.mk (hS0 _)) ?_
          clear hK K
          iterate 2 (refine wpPlan_readS (hS0 w4) (fun K hK => ?_); simp only [List.getD_cons_zero, List.getD_cons_succ]; go_simp; refine hK _ ?_; clear hK K)
          refine wpPlan_done ?_
          clear hS0 hSA
          have h4 := h4.congr (U2 := under (i + 1)) (M2 := stayS (keepP b m) (i + 1)) (fun _ _ => rfl) (fun j _ => (stay_yes hP j))
          rw [← HE.out] at o4
          go_wp2_with fail
          go_roundw
          case rel => exact ⟨i + 1, v, i, by go_num, by omega, by omega, rfl, h4, o4⟩
          case measure => simp [intOf]; omega
        · have y2 : ((rm : Int) == 0) = false := by rw [beq_eq_false_iff_ne]; omega
          have y3 : ((rm : Int) != 0) = true := by rw [bne_iff_ne]; omega
          have hP : keepP b m i = false := by unfold keepP; rw [hrb, hrm]; simp; omega
          have hQ : notS (keepP b m) i = true := by unfold notS; rw [hP]; rfl
          have HE := Lib.hid (show els (notS (keepP b m)) (i + 1) = els (notS (keepP b m)) i ++ [(i : Int)] by rw [els_succ, hQ]; simp)
          clear hrb hrm
          have x1 := spAllocYes false i hst hT (nxt_under hin hfr) (by omega)
          go_wp2_with fail
          refine x1.mono ?_; rintro e w2 ⟨rfl, h2, c2⟩
          clear x1
          have o2 := hO.step c2 (fun k hk => .inl hk)
          clear hst hO c2
          have h2 : SpD w w2 s 5 c n D (under (i + 1)) (if false then upd (stayS (keepP b m) i) i true else stayS (keepP b m) i) i := h2.congr (fun j _ => put_under n i hin j) (fun j _ => by
            simp only [putS_nat' _ _ _ _ hin] <;> rfl)
          simp only [if_true, Bool.false_eq_true, if_false] at h2
          go_upto_region 13 with fail
          have h3 := h2.still ((Ch.refl [] w2).drewN 1)
          have o3 : OwD (w2.drewN 1) w.heap.size D v (els (notS (keepP b m)) i) := o2.step ((Ch.refl [] w2).drewN 1) (by simp)
          clear h2 o2
          obtain ⟨W3, hW3⟩ : ∃ W3, w2.drewN 1 = W3 := ⟨_, rfl⟩
          obtain ⟨L, hLL⟩ : ∃ L : World → Prop, ∀ w', L w' ↔ True := ⟨fun _ => True, fun _ => Iff.rfl⟩
          have hS0 : ∀ w', L w' := fun w' => (hLL _).2 trivial
          have hSA : Nonempty { w' : World // L w' } := ⟨⟨w, hS0 w⟩⟩
          clear hLL
          refine wp_region_plan (Cls L) (List.range 14) (.reads [0, 1, 2, 3, 4, 5, 6, 8, 9, 10, 11] (.only 7 (.reads [12, 13] .done))) (by kernel_rfl) (by kernel_rfl) (fun _ _ _ _ _ h => h) ?_
          simp only [Plan.reads, Plan.only, List.foldr_cons, List.foldr_nil]
          rw [hW3] at h3 o3 ⊢
          clear hW3
          iterate 11 (refine wpPlan_readS (hS0 W3) (fun K hK => ?_); simp only [List.getD_cons_zero, List.getD_cons_succ]; go_simp; refine hK _ ?_; clear hK K)
          refine wpPlan_only (fun K hK => ?_)
          simp only [List.getD_cons_zero, List.getD_cons_succ]
          go_simp
          refine hK _ _ (fun _ => Cls.mk (hS0 _)) ?_
          clear hK K
          iterate 2 (refine wpPlan_readS (hS0 W3) (fun K hK => ?_); simp only [List.getD_cons_zero, List.getD_cons_succ]; go_simp; refine hK _ ?_; clear hK K)
          refine wpPlan_done ?_
          clear hS0 hSA
          have h4 := h3
          have o4 := o3
          clear h3 o3
          have h4 : SpD w W3 s 5 c n D (under (i + 1)) (stayS (keepP b m) (i + 1)) i := h4.congr (fun _ _ => rfl) (fun j _ => stay_no hP j)
          obtain ⟨X, hX⟩ : ∃ X, els (notS (keepP b m)) i = X := ⟨_, rfl⟩
          have hXl : X.length ≤ 300 := by rw [← hX, els_len]; have := cnt_le (notS (keepP b m)) i; omega
          rw [hX] at o4
          have HE2 := Lib.hid (show els (notS (keepP b m)) (i + 1) = X ++ [(i : Int)] by rw [HE.out, hX])
          clear hX HE
          obtain ⟨a14, c14, rfl, z1, z2, rd⟩ := o4.1.form
          obtain ⟨l, hl⟩ : ∃ l, X.length = l := ⟨_, rfl⟩
          rw [hl] at o4 z1 hXl ⊢
          have HXL := Lib.hid hl
          clear hl rd
          have ca := (Ch.refl [] W3).alloc (.cells #[.int .i64 (i : Int)] 3)
          have o5 := o4.still ca
          have h5 := h4.still ca
          have hB5 := h5.ch.size
          clear h4 o4 ca
          go_wp2_with (at_builtin; refine wpList_app rfl (.tmp 103) (.tmp 105) rfl w.heap.size _ X rfl o5.1 hB5 _ [(i : Int)] rfl (srcOne W3 (i : Int)) (by have := HXL.out; simp; omega) ?_)
          intro v' w6 hv' c6 n6
          have h6 := OwD.turn h5 o5 c6
          have o6 := OwD.new hv' n6 o5.2 (fun k hk => (h5.bd k hk).2)
          rw [← HE2.out] at o6
          clear h5 o5 c6 n6 hv'
          go_wp2_with fail
          go_roundw
          case rel => exact ⟨i + 1, v', i, by go_num, by omega, by omega, rfl, h6, o6⟩
          case measure => simp [intOf]; omega
    · obtain rfl : k = i := by omega
      have t1 : decide ((k : Int) < k) = false := decide_eq_false (by omega)
      have HP := Lib.hid (gone_stay (keepP b m) n k (by omega))
      have HC1 := Lib.hid (cnt_stay (keepP b m) n k (by omega))
      obtain ⟨P, hPP⟩ : ∃ P, keepP b m = P := ⟨_, rfl⟩
      rw [hPP] at hst hO HP HC1
      clear hPP
      have hcn := cnt_not P k
      have hel := els_len (notS P) k
      obtain ⟨X, hX⟩ : ∃ X, els (notS P) k = X := ⟨_, rfl⟩
      obtain ⟨g, hg⟩ : ∃ g, cnt (notS P) k = g := ⟨_, rfl⟩
      obtain ⟨q, hq⟩ : ∃ q, cnt P k = q := ⟨_, rfl⟩
      rw [hg] at hel hcn
      rw [hq] at hcn HC1
      rw [hX] at hel hO HP
      have HX := Lib.hid hX
      have HG := Lib.hid hg
      have HQ := Lib.hid hq
      have hk0 : (k : Int) - g = q := by omega
      have hqq : ((q : Int) != (q : Int)) = false := by simp
      clear hX hg hq
      obtain ⟨a14, c14, rfl, z1, z2, rd⟩ := hO.1.form
      rw [hel] at hO z1 ⊢
      have HEL := Lib.hid hel
      clear hel
      go_wp2_with fail
      refine (spSweep hst hT).mono ?_; rintro e w3 ⟨v3, rfl, o3, h3, c3⟩
      rw [HP.out] at o3
      have hO3 := hO.step c3 (fun k hk => .inl hk)
      obtain ⟨a3, q3, rfl, z3, z4, rd3⟩ := o3.form
      rw [HEL.out]
      clear hst hO c3 o3 rd
      have l4 := hO3.ls
      have hI := ints_same a3 a14 X q3 c14 w3 rd3 l4.rd (by have := HEL.out; unfold maxLen; omega)
      rw [HEL.out] at hI
      go_wp2_with fail
      refine hI.mono ?_; rintro e w4 ⟨rfl, nq, rfl⟩
      have h4 := h3.still ((Ch.refl [] w3).drewN nq)
      have o4 := hO3.still ((Ch.refl [] w3).drewN nq)
      obtain ⟨W4, hW4⟩ : ∃ W4, w3.drewN nq = W4 := ⟨_, rfl⟩
      rw [hW4] at h4 o4 ⊢
      clear hI hW4 h3 hO3 rd3 l4 z3 z4
      have x1 := spLive h4
      rw [HC1.out] at x1
      go_wp2_with fail
      refine x1.mono ?_; rintro e w5 ⟨rfl, rfl⟩
      clear x1
      have hst : SpD w w5 s 5 c n D (backS P k 0) none_ 0 := h4.congr (fun j _ => back_zero P k j) (fun _ _ => rfl)
      clear h4
      go_wp2_with fail
      go_loopw [18] (fun s18 wr => ∃ (i fr : Nat), s18 = .int .i64 i ∧ i ≤ g ∧ Hid (cnt (notS P) fr ≤ i) ∧ fr ≤ k ∧ SpD w wr s 5 c n D (backS P k i) none_ fr ∧ OwD wr w.heap.size D (.slice a14 g c14) X) (fun s18 _ => g - (intOf s18).toNat)
      case atStart => exact ⟨0, 0, rfl, by omega, Lib.hid (by rw [cnt_zero]; exact Nat.le_refl _), by omega, hst, o4⟩
      case round =>
        clear hst o4
        obtain ⟨i, fr, rfl, hig, hfr, hfk, hst, hO⟩ := hrel
        by_cases hlt : i < g
        · have t2 : decide ((i : Int) < g) = true := decide_eq_true (by omega)
          obtain ⟨p, p1, p2, p3, p4, _⟩ := mem_take (notS P) k i (by rw [HG.out]; exact hlt)
          obtain ⟨n1, n2⟩ := back_nxt (n := n) (by omega) p2 p3 p4 hfr.out
          have hb : ∀ j, putS (backS P k i) n p true j = backS P k (i + 1) j := back_step (by omega) p2 p3 p4
          obtain ⟨ba, oa, rfl, hcell⟩ := hO.ls.at (i := i) (by rw [HEL.out]; exact hlt)
          have hget : gI X i = (p : Int) := by
            rw [gI_at X i (by rw [HEL.out]; exact hlt)]
            have h1 : (els (notS P) k)[i]? = some (p : Int) := by simp [els, p1]
            rw [HX.out] at h1
            obtain ⟨h2, h3⟩ := List.getElem?_eq_some_iff.1 h1
            exact h3
          have x1 := spAllocYes false p hst hT n1 (by omega)
          have HG2 := Lib.hid hget
          have HN2 := Lib.hid n2
          have HBS := Lib.hid hb
          clear n1 n2 hb p1 p3 p4 hfr hcell hget
          go_wp2_with fail
          refine x1.mono ?_; rintro e w6 ⟨rfl, h6, c6⟩
          have o6 := hO.step c6 (fun k hk => .inl hk)
          have h6 : SpD w w6 s 5 c n D (backS P k (i + 1)) none_ p := h6.congr (fun j _ => HBS.out j) (fun _ _ => rfl)
          clear x1 hst hO c6 HBS
          obtain ⟨ba', oa', e7, hcell⟩ := o6.ls.at (i := i) (by rw [HEL.out]; exact hlt)
          cases e7
          have d1 := hcell i (by rw [HEL.out]; exact hlt)
          rw [HG2.out] at d1
          have pp : ((p : Int) != (p : Int)) = false := by simp
          clear hcell
          go_wp2_with fail
          go_roundw
          case rel => exact ⟨i + 1, p, by go_num, by omega, HN2, by omega, h6, o6⟩
          case measure => simp [intOf]; omega
        · obtain rfl : g = i := by omega
          have t2 : decide ((g : Int) < g) = false := decide_eq_false (by omega)
          have hst2 : SpD w _ s 5 c n D (under k) none_ fr := hst.congr (fun j _ => by rw [← HG.out]; exact back_all P k j) (fun _ _ => rfl)
          clear hst hO hfr hk0 hcn
          go_wp2_with fail
          go_loopw [21] (fun s21 wr => ∃ (i fr : Nat), s21 = .int .i64 i ∧ i ≤ n ∧ fr ≤ i ∧ SpD w wr s 5 c n D (under i) none_ fr) (fun s21 _ => n - (intOf s21).toNat)
          case atStart => exact ⟨k, fr, rfl, by omega, hfk, hst2⟩
          case round =>
            clear hst2
            obtain ⟨i, fr, rfl, hin, hfr, hst⟩ := hrel
            have x0 := spSlots hst
            by_cases hlt : i < n
            · have t3 : decide ((i : Int) < n) = true := decide_eq_true (by omega)
              have x1 := spAllocYes false i hst hT (nxt_under hlt hfr) (by omega)
              go_wp2_with fail
              refine x0.mono ?_; rintro e w7 ⟨rfl, rfl⟩
              clear x0
              go_wp2_with fail
              refine x1.mono ?_; rintro e w8 ⟨rfl, h8, c8⟩
              have h8 : SpD w w8 s 5 c n D (under (i + 1)) none_ i := h8.congr (fun j _ => put_under n i hlt j) (fun _ _ => rfl)
              have ii : ((i : Int) != (i : Int)) = false := by simp
              clear x1 hst c8
              go_wp2_with fail
              go_roundw
              case rel => exact ⟨i + 1, i, by go_num, by omega, by omega, h8⟩
              case measure => simp [intOf]; omega
            · obtain rfl : n = i := by omega
              have t3 : decide ((n : Int) < n) = false := decide_eq_false (by omega)
              have x1 := spAllocNo true hst hT (full_under n fr)
              go_wp2_with fail
              refine x0.mono ?_; rintro e w7 ⟨rfl, rfl⟩
              clear x0
              go_wp2_with fail
              refine x1.mono ?_; rintro e w8 ⟨rfl, rfl⟩
              have h8 := hst.still ((Ch.refl [] w7).drewN 1)
              obtain ⟨W8, hW8⟩ : ∃ W8, w7.drewN 1 = W8 := ⟨_, rfl⟩
              rw [hW8] at h8 ⊢
              clear x1 hst hW8
              go_wp2_with fail
              refine (told6 _ (h8.tab hT)).mono ?_; rintro e w9 ⟨rfl, c9⟩
              have h9 := h8.still c9
              clear h8 c9
              have x1 := spFull h9 hT
              rw [full_under] at x1
              go_wp2_with fail
              refine x1.mono ?_; rintro e w10 ⟨rfl, rfl⟩
              have h10 := h9.still ((Ch.refl [] w9).drewN 1)
              obtain ⟨W10, hW10⟩ : ∃ W10, w9.drewN 1 = W10 := ⟨_, rfl⟩
              rw [hW10] at h10 ⊢
              clear x1 h9 hW10
              have x1 := spLive h10
              rw [cnt_under] at x1
              go_wp2_with fail
              refine x1.mono ?_; rintro e w11 ⟨rfl, rfl⟩
              clear x1
              have x1 := spSlots h10
              go_wp2_with fail
              refine x1.mono ?_; rintro e w12 ⟨rfl, rfl⟩
              clear x1
              have hend := h10.ch.below (Nat.le_refl _) (by simp)
              clear h10
              go_wp2_with fail
              go_ret
              exact ⟨rfl, hend⟩
end Go.Proofs.YtheniiinioggiaaDoor
