/-
  The walk of the statement SpanAddrs: the law returns true at every input. Conditions: the library's table reads as its text lays it.
-/
import Derived.Test.YtheniiinioggiaaDoorSpanMath
namespace Go.Proofs.YtheniiinioggiaaDoor
open Go.RowKit
theorem slots_fit {k : Int} (h : 0 ≤ k) (h' : k < 16) : sls k * sz k ≤ pgs k * 64 := by
  have : k = 0 ∨ k = 1 ∨ k = 2 ∨ k = 3 ∨ k = 4 ∨ k = 5 ∨ k = 6 ∨ k = 7 ∨ k = 8 ∨ k = 9 ∨ k = 10 ∨ k = 11 ∨ k = 12 ∨ k = 13 ∨ k = 14 ∨ k = 15 := by omega
  rcases this with rfl | rfl | rfl | rfl | rfl | rfl | rfl | rfl | rfl | rfl | rfl | rfl | rfl | rfl | rfl | rfl <;> decide
section
variable {w0 w w2 : World} {s n fr : Nat} {f k : Int} {U M : Nat → Bool} {D : List Nat}
theorem spAddrNo (i : Int) (h : SpD w0 w s f k n D U M fr) (hi : i < 0 ∨ (n : Int) ≤ i) : Calls Tryd.prog 40 #[.pointer (some ⟨s, 0, none⟩), .int .i64 i] w fun e w' => e = .returned (.int .i64 0) ∧ w' = w := by
  obtain ⟨bu, bm, Gu, Gm, h1, _⟩ := h
  exact spanAddrNo i h1 hi
theorem spAddrYes (i : Nat) (h : SpD w0 w s f k n D U M fr) (hi : i < n) : Calls Tryd.prog 40 #[.pointer (some ⟨s, 0, none⟩), .int .i64 i] w fun e w' => e = .returned (.int .i64 (f * 64 + i * sz k)) ∧ Ch [] w w' := by
  obtain ⟨bu, bm, Gu, Gm, h1, _⟩ := h
  exact spanAddrYes i h1 hi
theorem spAtNo (x : Int) (h : SpD w0 w s f k n D U M fr) (hx : x < f * 64) : Calls Tryd.prog 38 #[.pointer (some ⟨s, 0, none⟩), .int .i64 x] w fun e w' => e = .returned (.tuple #[.int .i64 0, .bool false]) ∧ w' = w := by
  obtain ⟨bu, bm, Gu, Gm, h1, _⟩ := h
  exact spanAtNo x h1 hx
theorem spAtYes (x : Int) (d z g : Nat) (h : SpD w0 w s f k n D U M fr) (hx : x = f * 64 + d) (hzz : sz k = (z : Int)) (hd : d ≤ 1000000000) (hr : d % z = 0) (hg : d / z = g) (hgn : g < n) : Calls Tryd.prog 38 #[.pointer (some ⟨s, 0, none⟩), .int .i64 x] w fun e w' => e = .returned (.tuple #[.int .i64 g, .bool true]) ∧ Ch [] w w' := by
  obtain ⟨bu, bm, Gu, Gm, h1, _⟩ := h
  subst hx
  have := spanAtIn d z 0 g h1 hzz hd hr hg
  rw [if_pos ⟨rfl, hgn⟩] at this
  exact this
theorem spAtOut (x : Int) (d z : Nat) (h : SpD w0 w s f k n D U M fr) (hx : x = f * 64 + d) (hzz : sz k = (z : Int)) (hd : d ≤ 1000000000) (hr : d % z ≠ 0 ∨ n ≤ d / z) : Calls Tryd.prog 38 #[.pointer (some ⟨s, 0, none⟩), .int .i64 x] w fun e w' => e = .returned (.tuple #[.int .i64 0, .bool false]) ∧ Ch [] w w' := by
  obtain ⟨bu, bm, Gu, Gm, h1, _⟩ := h
  subst hx
  have := spanAtIn d z _ _ h1 hzz hd rfl rfl
  rw [if_neg (by omega)] at this
  exact this
end
theorem pgs_nat (k : Int) : ∃ p : Nat, pgs k = (p : Int) ∧ p ≤ 4 := by
  have := pgs_bd k
  exact ⟨(pgs k).toNat, by omega, by omega⟩
set_option maxRecDepth 100000 in
set_option maxHeartbeats 4000000 in
theorem addrs6_walk (a0 a1 a2 : Int) (w : World) (hT : TabW w) :
    Calls Tryd.prog 11 #[.int .i64 a0, .int .i64 a1, .int .i64 a2] w fun e w' => e = .returned (.bool true) ∧ Below w.heap.size w w' := by
  obtain ⟨u, hu, hul⟩ := umod a2 600 (by decide) (by decide)
  obtain ⟨c, hc, hcl⟩ := umod a0 16 (by decide) (by decide)
  obtain ⟨p, hp, hpl⟩ := umod a1 1000 (by decide) (by decide)
  obtain ⟨n, hn, hn1, hn2⟩ := sls_in (k := (c : Int)) (by omega) (by omega)
  obtain ⟨f, hf⟩ : ∃ f : Nat, p + 1 = f := ⟨_, rfl⟩
  have hfq : (1 : Int) + (p : Int) = (f : Int) := by omega
  have hf0 : 1 ≤ f ∧ f ≤ 1000 := by omega
  have hN := spNew f c n w (sz_pos (by omega) (by omega)) (by omega) hn hn2
  have hRS := fun w => rsize_any (c : Int) w
  have hRP := fun w => rpages_any (c : Int) w
  have hfit := slots_fit (k := (c : Int)) (by omega) (by omega)
  have hz0 := sz_pos (k := (c : Int)) (by omega) (by omega)
  have hz1 := (sz_bd (c : Int)).2
  obtain ⟨pg, hpg, hpg4⟩ := pgs_nat (c : Int)
  obtain ⟨z, hz⟩ : ∃ z : Nat, sz (c : Int) = (z : Int) := ⟨(sz (c : Int)).toNat, by omega⟩
  rw [hz, hpg, hn] at hfit
  rw [hz] at hz0 hz1
  simp only [hz] at hRS
  simp only [hpg] at hRP
  obtain ⟨m, hm⟩ : ∃ m, m + 1 = n := ⟨n - 1, by omega⟩
  obtain ⟨q, hq⟩ : ∃ q : Nat, m * z = q := ⟨_, rfl⟩
  have hq2 : q + z ≤ pg * 64 := by
    have : n * z ≤ pg * 64 := by exact_mod_cast hfit
    rw [← hm, Nat.succ_mul, hq] at this
    exact this
  have hqi : (m : Int) * (z : Int) = (q : Int) := by rw [← hq]; push_cast; rfl
  have m1 : (n : Int) - 1 = (m : Int) := by omega
  have t9 : decide ((f : Int) * 64 + (q : Int) + (z : Int) ≤ ((f : Int) + (pg : Int)) * 64) = true := decide_eq_true (by omega)
  have HQ := Lib.hid hqi
  have HZ := Lib.hid hz
  have HC := Lib.hid hc
  have HP := Lib.hid hp
  have HU := Lib.hid hu
  have HF := Lib.hid hfq
  have HFW := Lib.hid (show wrap64 (f : Int) = f from IntWalk.wrap64_in _ (by omega))
  have HRS := Lib.hid hRS
  have HRP := Lib.hid hRP
  have zz : ((z : Int) == 0) = false := by rw [beq_eq_false_iff_ne]; omega
  have zn : ¬ z = 0 := by omega
  have zni : ¬ (z : Int) = 0 := by omega
  have wf : IntKind.i64.wrap ((f : Int) * 64) = (f : Int) * 64 := IntWalk.i64_in _ (by omega)
  clear hc hp hu hn hf hfq hRS hRP hfit hq hqi hz hpg hm
  go_enter Tryd.func11, Tryd.ntmps11
  go_wp2_with fail
  try rw [HC.out]
  try rw [HP.out]
  rw [HF.out]
  rw [HFW.out]
  refine hN.mono ?_; rintro e w1 ⟨s, D, rfl, h1⟩
  clear hN
  go_wp2_with fail
  refine (HRS.out w1).mono ?_; rintro e w2 ⟨rfl, c2⟩
  have h2 := h1.still c2
  clear h1 c2 HRS
  go_wp2_with fail
  by_cases hu64 : u < 64
  · obtain ⟨x, hx⟩ : ∃ x : Int, (f : Int) * 64 - 64 + (u : Int) = x := ⟨_, rfl⟩
    have HX : Hid (wrap64 ((f : Int) * 64 - 64 + wrap64 ((IntKind.u64.wrap a2).tmod 600)) = x) := Lib.hid (by rw [HU.out, IntWalk.wrap64_in _ (by omega)]; exact hx)
    have hat := spAtNo x h2 (by omega)
    replace hat := hat.mono (R' := fun e w' => e = .returned (.tuple #[.int .i64 0, .bool false]) ∧ Ch [] w2 w') (by rintro e w' ⟨rfl, rfl⟩; exact ⟨rfl, Ch.refl _ _⟩)
    have t1 : decide (x ≥ (f : Int) * 64) = false := decide_eq_false (by omega)
    have t2 : ¬ (f : Int) * 64 ≤ x := by omega
    clear hx
    go_upto_region 7 with fail
    rw [HX.out]
    refine hat.mono ?_; rintro e w3 ⟨rfl, c3⟩
    have h3 := h2.still c3
    clear hat h2 c3
    go_upto_region 8 with fail
    have h5 := h3.still ((Ch.refl [] w3).drewN 1)
    have x1 := spSlots h5
    obtain ⟨L, hLL⟩ : ∃ L : World → Prop, ∀ w', L w' ↔ True := ⟨fun _ => True, fun _ => Iff.rfl⟩
    have hS0 : L (w3.drewN 1) := (hLL _).2 trivial
    have hSA : Nonempty { w' : World // L w' } := ⟨⟨_, hS0⟩⟩
    clear hLL h3
    refine wp_region_plan (Cls L) (List.range 25) (.reads [0, 1, 2, 3, 4, 5, 6, 7, 8, 9, 10, 11, 12, 13, 14, 15, 16, 17, 18, 19, 20] (.only 21 (.reads [22, 23, 24] .done))) (by kernel_rfl) (by kernel_rfl) (fun _ _ _ _ _ h => h) ?_
    simp only [Plan.reads, Plan.only, List.foldr_cons, List.foldr_nil]
    iterate 21 (refine wpPlan_readS hS0 (fun K hK => ?_); simp only [List.getD_cons_zero, List.getD_cons_succ]; go_simp; refine hK _ ?_; clear hK K)
    refine wpPlan_only (fun K hK => ?_)
    simp only [List.getD_cons_zero, List.getD_cons_succ]
    go_simp
    try (refine x1.mono ?_; rintro e w6 ⟨rfl, rfl⟩)
    refine hK _ _ (fun _ => Cls.mk hS0) ?_
    clear hK K x1
    iterate 3 (refine wpPlan_readS hS0 (fun K hK => ?_); simp only [List.getD_cons_zero, List.getD_cons_succ]; go_simp; refine hK _ ?_; clear hK K)
    refine wpPlan_done ?_
    clear hS0 hSA
    obtain ⟨W5, hW5⟩ : ∃ W5, w3.drewN 1 = W5 := ⟨_, rfl⟩
    rw [hW5] at h5 ⊢
    clear hW5
    have h3 := h5
    clear h5
    go_wp2_with fail
    refine (told6 _ (h3.tab hT)).mono ?_; rintro e w4 ⟨rfl, c4⟩
    have h4 := h3.still c4
    clear h3 c4
    have x1 := spSlots h4
    go_wp2_with fail
    refine x1.mono ?_; rintro e w6 ⟨rfl, rfl⟩
    clear x1
    have x1 := spAddrYes m h4 (by omega)
    rw [HZ.out, HQ.out] at x1
    go_wp2_with fail
    refine x1.mono ?_; rintro e w7 ⟨rfl, c7⟩
    have h7 := h4.still c7
    clear x1 h4 c7
    go_wp2_with fail
    refine (HRP.out w7).mono ?_; rintro e w8 ⟨rfl, c8⟩
    have h8 := h7.still c8
    clear h7 c8
    have x1 := spSlots h8
    go_wp2_with fail
    refine x1.mono ?_; rintro e w9 ⟨rfl, rfl⟩
    clear x1
    have x1 := spAddrNo (n : Int) h8 (.inr (by omega))
    go_wp2_with fail
    refine x1.mono ?_; rintro e w10 ⟨rfl, rfl⟩
    clear x1
    have hend := h8.ch.below (Nat.le_refl _) (by simp)
    clear h8
    go_wp2_with fail
    go_ret
    exact ⟨rfl, hend⟩
  · obtain ⟨d, hd⟩ : ∃ d : Nat, u = 64 + d := ⟨u - 64, by omega⟩
    obtain ⟨x, hx⟩ : ∃ x : Int, (f : Int) * 64 + (d : Int) = x := ⟨_, rfl⟩
    have HX : Hid (wrap64 ((f : Int) * 64 - 64 + wrap64 ((IntKind.u64.wrap a2).tmod 600)) = x) := Lib.hid (by rw [HU.out, IntWalk.wrap64_in _ (by omega)]; omega)
    have t1 : decide (x ≥ (f : Int) * 64) = true := decide_eq_true (by omega)
    have t2 : (f : Int) * 64 ≤ x := by omega
    have xd : x - (f : Int) * 64 = (d : Int) := by omega
    obtain ⟨r, hr⟩ : ∃ r, d % z = r := ⟨_, rfl⟩
    obtain ⟨g, hg⟩ : ∃ g, d / z = g := ⟨_, rfl⟩
    have e1 : (d : Int) % (z : Int) = (r : Int) := by rw [← hr, Int.natCast_emod]
    have e1t : (d : Int).tmod (z : Int) = (r : Int) := by rw [Int.tmod_eq_emod_of_nonneg (by omega)]; exact e1
    have e2 : (d : Int) / (z : Int) = (g : Int) := by rw [← hg, Int.natCast_ediv]
    have e2t : (d : Int).tdiv (z : Int) = (g : Int) := by rw [← hg]; rfl
    have wd : IntKind.i64.wrap (d : Int) = (d : Int) := IntWalk.i64_in _ (by omega)
    have hgd : g ≤ d := by rw [← hg]; exact Nat.div_le_self d z
    have wg : IntKind.i64.wrap (g : Int) = (g : Int) := IntWalk.i64_in _ (by omega)
    have hdm := Nat.div_add_mod d z
    rw [hg, hr] at hdm
    by_cases hr0 : r = 0
    · by_cases hgn : g < n
      · have hat := spAtYes x d z g h2 hx.symm HZ.out (by omega) (by omega) hg hgn
        subst hr0
        replace e1 : (d : Int) % (z : Int) = 0 := e1
        replace e1t : (d : Int).tmod (z : Int) = 0 := e1t
        have t3 : decide ((g : Int) < n) = true := decide_eq_true (by omega)
        have hgz : (f : Int) * 64 + (g : Int) * (z : Int) = x := by
          rw [← hx, ← hdm, Nat.add_zero, Nat.mul_comm]
          push_cast
          rfl
        have HG := Lib.hid hgz
        clear hx hgz hdm hr hg
        go_upto_region 7 with fail
        rw [HX.out]
        refine hat.mono ?_; rintro e w3 ⟨rfl, c3⟩
        have h3 := h2.still c3
        clear hat h2 c3
        go_upto_region 8 with fail
        have h5 := h3.still ((Ch.refl [] w3).drewN 1)
        have x1 := spSlots h5
        obtain ⟨L, hLL⟩ : ∃ L : World → Prop, ∀ w', L w' ↔ True := ⟨fun _ => True, fun _ => Iff.rfl⟩
        have hS0 : L (w3.drewN 1) := (hLL _).2 trivial
        have hSA : Nonempty { w' : World // L w' } := ⟨⟨_, hS0⟩⟩
        clear hLL h3
        refine wp_region_plan (Cls L) (List.range 25) (.reads [0, 1, 2, 3, 4, 5, 6, 7, 8, 9, 10, 11, 12, 13, 14, 15, 16, 17, 18, 19, 20] (.only 21 (.reads [22, 23, 24] .done))) (by kernel_rfl) (by kernel_rfl) (fun _ _ _ _ _ h => h) ?_
        simp only [Plan.reads, Plan.only, List.foldr_cons, List.foldr_nil]
        iterate 21 (refine wpPlan_readS hS0 (fun K hK => ?_); simp only [List.getD_cons_zero, List.getD_cons_succ]; go_simp; refine hK _ ?_; clear hK K)
        refine wpPlan_only (fun K hK => ?_)
        simp only [List.getD_cons_zero, List.getD_cons_succ]
        go_simp
        try (refine x1.mono ?_; rintro e w6 ⟨rfl, rfl⟩)
        refine hK _ _ (fun _ => Cls.mk hS0) ?_
        clear hK K x1
        iterate 3 (refine wpPlan_readS hS0 (fun K hK => ?_); simp only [List.getD_cons_zero, List.getD_cons_succ]; go_simp; refine hK _ ?_; clear hK K)
        refine wpPlan_done ?_
        clear hS0 hSA
        obtain ⟨W5, hW5⟩ : ∃ W5, w3.drewN 1 = W5 := ⟨_, rfl⟩
        rw [hW5] at h5 ⊢
        clear hW5
        have h3 := h5
        clear h5
        go_wp2_with fail
        refine (told6 _ (h3.tab hT)).mono ?_; rintro e w4 ⟨rfl, c4⟩
        have h4 := h3.still c4
        clear h3 c4
        go_wp2_with fail
        have x1 := spAddrYes g h4 hgn
        rw [HZ.out, HG.out] at x1
        go_wp2_with fail
        refine x1.mono ?_; rintro e w5 ⟨rfl, c5⟩
        have h5 := h4.still c5
        clear x1 h4 c5
        have h4 := h5
        clear h5
        have x1 := spSlots h4
        go_wp2_with fail
        refine x1.mono ?_; rintro e w6 ⟨rfl, rfl⟩
        clear x1
        have x1 := spAddrYes m h4 (by omega)
        rw [HZ.out, HQ.out] at x1
        go_wp2_with fail
        refine x1.mono ?_; rintro e w7 ⟨rfl, c7⟩
        have h7 := h4.still c7
        clear x1 h4 c7
        go_wp2_with fail
        refine (HRP.out w7).mono ?_; rintro e w8 ⟨rfl, c8⟩
        have h8 := h7.still c8
        clear h7 c8
        have x1 := spSlots h8
        go_wp2_with fail
        refine x1.mono ?_; rintro e w9 ⟨rfl, rfl⟩
        clear x1
        have x1 := spAddrNo (n : Int) h8 (.inr (by omega))
        go_wp2_with fail
        refine x1.mono ?_; rintro e w10 ⟨rfl, rfl⟩
        clear x1
        have hend := h8.ch.below (Nat.le_refl _) (by simp)
        clear h8
        go_wp2_with fail
        go_ret
        exact ⟨rfl, hend⟩
      · have hat := spAtOut x d z h2 hx.symm HZ.out (by omega) (.inr (by omega))
        subst hr0
        replace e1 : (d : Int) % (z : Int) = 0 := e1
        replace e1t : (d : Int).tmod (z : Int) = 0 := e1t
        have t3 : decide ((g : Int) < n) = false := decide_eq_false (by omega)
        clear hx hdm hr hg
        go_upto_region 7 with fail
        rw [HX.out]
        refine hat.mono ?_; rintro e w3 ⟨rfl, c3⟩
        have h3 := h2.still c3
        clear hat h2 c3
        go_upto_region 8 with fail
        have h5 := h3.still ((Ch.refl [] w3).drewN 1)
        have x1 := spSlots h5
        obtain ⟨L, hLL⟩ : ∃ L : World → Prop, ∀ w', L w' ↔ True := ⟨fun _ => True, fun _ => Iff.rfl⟩
        have hS0 : L (w3.drewN 1) := (hLL _).2 trivial
        have hSA : Nonempty { w' : World // L w' } := ⟨⟨_, hS0⟩⟩
        clear hLL h3
        refine wp_region_plan (Cls L) (List.range 25) (.reads [0, 1, 2, 3, 4, 5, 6, 7, 8, 9, 10, 11, 12, 13, 14, 15, 16, 17, 18, 19, 20] (.only 21 (.reads [22, 23, 24] .done))) (by kernel_rfl) (by kernel_rfl) (fun _ _ _ _ _ h => h) ?_
        simp only [Plan.reads, Plan.only, List.foldr_cons, List.foldr_nil]
        iterate 21 (refine wpPlan_readS hS0 (fun K hK => ?_); simp only [List.getD_cons_zero, List.getD_cons_succ]; go_simp; refine hK _ ?_; clear hK K)
        refine wpPlan_only (fun K hK => ?_)
        simp only [List.getD_cons_zero, List.getD_cons_succ]
        go_simp
        try (refine x1.mono ?_; rintro e w6 ⟨rfl, rfl⟩)
        refine hK _ _ (fun _ => Cls.mk hS0) ?_
        clear hK K x1
        iterate 3 (refine wpPlan_readS hS0 (fun K hK => ?_); simp only [List.getD_cons_zero, List.getD_cons_succ]; go_simp; refine hK _ ?_; clear hK K)
        refine wpPlan_done ?_
        clear hS0 hSA
        obtain ⟨W5, hW5⟩ : ∃ W5, w3.drewN 1 = W5 := ⟨_, rfl⟩
        rw [hW5] at h5 ⊢
        clear hW5
        have h3 := h5
        clear h5
        go_wp2_with fail
        refine (told6 _ (h3.tab hT)).mono ?_; rintro e w4 ⟨rfl, c4⟩
        have h4 := h3.still c4
        clear h3 c4
        have x1 := spSlots h4
        go_wp2_with fail
        refine x1.mono ?_; rintro e w6 ⟨rfl, rfl⟩
        clear x1
        have x1 := spAddrYes m h4 (by omega)
        rw [HZ.out, HQ.out] at x1
        go_wp2_with fail
        refine x1.mono ?_; rintro e w7 ⟨rfl, c7⟩
        have h7 := h4.still c7
        clear x1 h4 c7
        go_wp2_with fail
        refine (HRP.out w7).mono ?_; rintro e w8 ⟨rfl, c8⟩
        have h8 := h7.still c8
        clear h7 c8
        have x1 := spSlots h8
        go_wp2_with fail
        refine x1.mono ?_; rintro e w9 ⟨rfl, rfl⟩
        clear x1
        have x1 := spAddrNo (n : Int) h8 (.inr (by omega))
        go_wp2_with fail
        refine x1.mono ?_; rintro e w10 ⟨rfl, rfl⟩
        clear x1
        have hend := h8.ch.below (Nat.le_refl _) (by simp)
        clear h8
        go_wp2_with fail
        go_ret
        exact ⟨rfl, hend⟩
    · have hat := spAtOut x d z h2 hx.symm HZ.out (by omega) (.inl (by omega))
      have t3 : ((r : Int) == 0) = false := by rw [beq_eq_false_iff_ne]; omega
      clear hx hdm hr hg
      go_upto_region 7 with fail
      rw [HX.out]
      refine hat.mono ?_; rintro e w3 ⟨rfl, c3⟩
      have h3 := h2.still c3
      clear hat h2 c3
      go_upto_region 8 with fail
      have h5 := h3.still ((Ch.refl [] w3).drewN 1)
      have x1 := spSlots h5
      obtain ⟨L, hLL⟩ : ∃ L : World → Prop, ∀ w', L w' ↔ True := ⟨fun _ => True, fun _ => Iff.rfl⟩
      have hS0 : L (w3.drewN 1) := (hLL _).2 trivial
      have hSA : Nonempty { w' : World // L w' } := ⟨⟨_, hS0⟩⟩
      clear hLL h3
      refine wp_region_plan (Cls L) (List.range 25) (.reads [0, 1, 2, 3, 4, 5, 6, 7, 8, 9, 10, 11, 12, 13, 14, 15, 16, 17, 18, 19, 20] (.only 21 (.reads [22, 23, 24] .done))) (by kernel_rfl) (by kernel_rfl) (fun _ _ _ _ _ h => h) ?_
      simp only [Plan.reads, Plan.only, List.foldr_cons, List.foldr_nil]
      iterate 21 (refine wpPlan_readS hS0 (fun K hK => ?_); simp only [List.getD_cons_zero, List.getD_cons_succ]; go_simp; refine hK _ ?_; clear hK K)
      refine wpPlan_only (fun K hK => ?_)
      simp only [List.getD_cons_zero, List.getD_cons_succ]
      go_simp
      try (refine x1.mono ?_; rintro e w6 ⟨rfl, rfl⟩)
      refine hK _ _ (fun _ => Cls.mk hS0) ?_
      clear hK K x1
      iterate 3 (refine wpPlan_readS hS0 (fun K hK => ?_); simp only [List.getD_cons_zero, List.getD_cons_succ]; go_simp; refine hK _ ?_; clear hK K)
      refine wpPlan_done ?_
      clear hS0 hSA
      obtain ⟨W5, hW5⟩ : ∃ W5, w3.drewN 1 = W5 := ⟨_, rfl⟩
      rw [hW5] at h5 ⊢
      clear hW5
      have h3 := h5
      clear h5
      go_wp2_with fail
      refine (told6 _ (h3.tab hT)).mono ?_; rintro e w4 ⟨rfl, c4⟩
      have h4 := h3.still c4
      clear h3 c4
      have x1 := spSlots h4
      go_wp2_with fail
      refine x1.mono ?_; rintro e w6 ⟨rfl, rfl⟩
      clear x1
      have x1 := spAddrYes m h4 (by omega)
      rw [HZ.out, HQ.out] at x1
      go_wp2_with fail
      refine x1.mono ?_; rintro e w7 ⟨rfl, c7⟩
      have h7 := h4.still c7
      clear x1 h4 c7
      go_wp2_with fail
      refine (HRP.out w7).mono ?_; rintro e w8 ⟨rfl, c8⟩
      have h8 := h7.still c8
      clear h7 c8
      have x1 := spSlots h8
      go_wp2_with fail
      refine x1.mono ?_; rintro e w9 ⟨rfl, rfl⟩
      clear x1
      have x1 := spAddrNo (n : Int) h8 (.inr (by omega))
      go_wp2_with fail
      refine x1.mono ?_; rintro e w10 ⟨rfl, rfl⟩
      clear x1
      have hend := h8.ch.below (Nat.le_refl _) (by simp)
      clear h8
      go_wp2_with fail
      go_ret
      exact ⟨rfl, hend⟩
end Go.Proofs.YtheniiinioggiaaDoor
