/-
  Contracts of package span: New, Addr, At, Alloc. Conditions: none beyond what each theorem names.
-/
import Derived.Test.YtheniiinioggiaaDoorSpan
namespace Go.Proofs.YtheniiinioggiaaDoor
open Go.RowKit
theorem sls_in {k : Int} (h : 0 ≤ k) (h' : k < 16) : ∃ n : Nat, sls k = (n : Int) ∧ 1 ≤ n ∧ n ≤ 256 := by
  have : k = 0 ∨ k = 1 ∨ k = 2 ∨ k = 3 ∨ k = 4 ∨ k = 5 ∨ k = 6 ∨ k = 7 ∨ k = 8 ∨ k = 9 ∨ k = 10 ∨ k = 11 ∨ k = 12 ∨ k = 13 ∨ k = 14 ∨ k = 15 := by omega
  refine ⟨(sls k).toNat, ?_, ?_, ?_⟩ <;> (rcases this with rfl | rfl | rfl | rfl | rfl | rfl | rfl | rfl | rfl | rfl | rfl | rfl | rfl | rfl | rfl | rfl <;> decide)
theorem sz_range {k : Int} (h : sz k ≠ 0) : (0 ≤ k ∧ k < 16) ∧ 0 < sz k ∧ sz k ≤ 256 := by
  have h1 : 0 ≤ k ∧ k < 16 := by
    refine ⟨?_, ?_⟩ <;> exact Decidable.byContradiction fun hc => h (by unfold sz; rw [if_pos (by omega)])
  have h2 := szL_bd _ (sz_in h1.1 h1.2)
  exact ⟨h1, by omega, h2.2.1⟩
theorem spanNewNo (f k : Int) (w : World) (hno : sz k = 0 ∨ f < 1 ∨ 262144 < f) :
    Calls Tryd.prog 28 #[.int .i64 f, .int .i64 k] w fun e w' => e = .returned (.tuple #[.pointer none, .int .i64 1]) ∧ Ch [] w w' := by
  have hs := size_any k w
  by_cases h0 : sz k = 0
  · rw [h0] at hs
    clear hno h0
    go_enter Tryd.func28, Tryd.ntmps28
    go_wp2_with fail
    refine hs.mono ?_; rintro e w1 ⟨rfl, c1⟩
    clear hs
    go_wp2
    go_ret2
    exact ⟨rfl, c1⟩
  · obtain ⟨z, hz⟩ : ∃ z, sz k = z := ⟨_, rfl⟩
    rw [hz] at hs h0 hno
    have z0 : (z == 0) = false := by rw [beq_eq_false_iff_ne]; exact h0
    clear hz
    by_cases h1 : f < 1
    · have t1 : decide (f < 1) = true := decide_eq_true h1
      go_enter Tryd.func28, Tryd.ntmps28
      go_wp2_with fail
      refine hs.mono ?_; rintro e w1 ⟨rfl, c1⟩
      clear hs
      go_wp2
      go_ret2
      exact ⟨rfl, c1⟩
    · have t1 : decide (f < 1) = false := decide_eq_false h1
      have t2 : decide (f > 262144) = true := decide_eq_true (by omega)
      go_enter Tryd.func28, Tryd.ntmps28
      go_wp2_with fail
      refine hs.mono ?_; rintro e w1 ⟨rfl, c1⟩
      clear hs
      go_wp2
      go_ret2
      exact ⟨rfl, c1⟩
theorem spanNew (f k : Int) (n : Nat) (w : World) (h0 : 0 < sz k) (hf : 1 ≤ f ∧ f ≤ 262144) (hn : sls k = (n : Int)) (hn2 : n ≤ 256) :
    Calls Tryd.prog 28 #[.int .i64 f, .int .i64 k] w fun e w' => ∃ s, e = .returned (.tuple #[.pointer (some ⟨s, 0, none⟩), .int .i64 0]) ∧ SpIn w w' s f k n none_ none_ 0 := by
  have hs := size_any k w
  have hl := fun w => slots_any k w
  have HN := Lib.hid hn
  have H0 := Lib.hid h0
  have z0 : (sz k == 0) = false := by rw [beq_eq_false_iff_ne]; omega
  obtain ⟨z, hz⟩ : ∃ z, sz k = z := ⟨_, rfl⟩
  rw [hz] at hs z0
  have t1 : decide (f < 1) = false := decide_eq_false (by omega)
  have t2 : decide (f > 262144) = false := decide_eq_false (by omega)
  rw [hn] at hl
  have HL := Lib.hid hl
  clear hz hn h0 hl
  go_enter Tryd.func28, Tryd.ntmps28
  go_wp2_with fail
  refine hs.mono ?_; rintro e w1 ⟨rfl, c1⟩
  clear hs
  go_wp2_with fail
  refine (HL.out w1).mono ?_; rintro e w2 ⟨rfl, c2⟩
  go_wp2_with fail
  refine (bitsNew n w2 (by omega)).mono ?_; rintro e w3 ⟨bu, Gu, rfl, u3, lu3, gu3, c3⟩
  go_wp2_with fail
  refine (bitsNew n w3 (by omega)).mono ?_; rintro e w4 ⟨bm, Gm, rfl, u4, lu4, gu4, c4⟩
  go_wp2_with fail
  go_ret2
  have k1 := u3.lt
  have k2 := u3.hi
  have c5 := (Ch.refl [] w4).alloc (.cells #[.int .i64 f, .int .i64 k, .pointer (some ⟨bu, 0, none⟩), .pointer (some ⟨bm, 0, none⟩), .int .i64 0] 72)
  have s3 := (c1.trans c2).size
  have s4 := c3.size
  have s5 := c4.size
  exact ⟨_, rfl, bu, bm, Gu, Gm, ⟨Blk.new _ _ _, (u3.ch c4).ch c5, u4.ch c5, by omega, fun x hx hx2 => by have := k2 x hx; have := gu4 x hx2; omega, HN.out.symm, H0.out, hf, Nat.zero_le _⟩, (((c1.trans c2).trans c3).trans c4).trans c5, by omega, by omega, by omega, fun x hx => by have := gu3 x hx; omega, fun x hx => by have := gu4 x hx; omega⟩
section
variable {w : World} {s n bu bm fr : Nat} {f k : Int} {U M : Nat → Bool} {Gu Gm : List Nat}
theorem spanAllocNo (b : Bool) (h : SpanAt w s f k n bu bm U M Gu Gm fr) (hT : TabW w) (hf : full U n fr = true) :
    Calls Tryd.prog 30 #[.pointer (some ⟨s, 0, none⟩), .bool b] w fun e w' => e = .returned (.tuple #[.int .i64 0, .bool false]) ∧ w' = w.drewN 1 := by
  have hl := spanFull h hT
  rw [hf] at hl
  clear h hf
  go_enter Tryd.func30, Tryd.ntmps30
  go_wp2_with fail
  refine hl.mono ?_; rintro e w' ⟨rfl, rfl⟩
  go_wp2
  go_ret2
  exact ⟨rfl, rfl⟩
theorem spanAllocYes (b : Bool) (j : Nat) (h : SpanAt w s f k n bu bm U M Gu Gm fr) (hT : TabW w) (hj : nxt U n fr false = (j : Int)) (hjn : j ≤ n) :
    Calls Tryd.prog 30 #[.pointer (some ⟨s, 0, none⟩), .bool b] w fun e w' => e = .returned (.tuple #[.int .i64 j, .bool true]) ∧ SpanAt w' s f k n bu bm (putS U n j true) (if b then putS M n j true else M) Gu Gm j ∧ Ch (s :: (bu :: Gu ++ (bm :: Gm))) w w' := by
  have hl := spanFull h hT
  have hf : full U n fr = false := by unfold full; rw [hj]; exact decide_eq_false (by omega)
  rw [hf] at hl
  have cd := ((Ch.refl [] w).drewN 1).drewN 1
  have h2 := h.ch cd
  have hN := bitsNext bu n U Gu false (fr : Int) _ h2.us (hT.ch cd)
  rw [Int.toNat_natCast, hj] at hN
  obtain ⟨L, hL⟩ : ∃ L : World → Prop, ∀ w', L w' ↔ (w'.cell? ⟨s, 2, none⟩ = some (.pointer (some ⟨bu, 0, none⟩)) ∧ w'.cell? ⟨s, 4, none⟩ = some (.int .i64 fr)) := ⟨_, fun _ => Iff.rfl⟩
  have hS1 : ∀ x : { w' : World // L w' }, x.1.cell? ⟨s, 2, none⟩ = some (.pointer (some ⟨bu, 0, none⟩)) := fun x => ((hL _).1 x.2).1
  have hS2 : ∀ x : { w' : World // L w' }, x.1.cell? ⟨s, 4, none⟩ = some (.int .i64 fr) := fun x => ((hL _).1 x.2).2
  have hS0 : L ((w.drewN 1).drewN 1) := (hL _).2 ⟨h2.top.cell 2, h2.top.cell 4⟩
  have hSA : Nonempty { w' : World // L w' } := ⟨⟨_, hS0⟩⟩
  have HJ := Lib.hid hj
  clear h hL hf hj
  go_enter Tryd.func30, Tryd.ntmps30
  go_wp2_with fail
  refine hl.mono ?_; rintro e w' ⟨rfl, rfl⟩
  clear hl
  go_upto_region 3 with fail
  refine wp_region_plan (Cls L) (List.range 10) (.reads [0, 1, 2, 3, 4, 5, 6, 7] (.only 8 (.reads [9] .done))) (by kernel_rfl) (by kernel_rfl) (fun _ _ _ _ _ h => h) ?_
  simp only [Plan.reads, Plan.only, List.foldr_cons, List.foldr_nil]
  iterate 8 (refine wpPlan_readS hS0 (fun K hK => ?_); simp only [List.getD_cons_zero, List.getD_cons_succ]; go_simp; refine hK _ ?_; clear hK K)
  refine wpPlan_only (fun K hK => ?_)
  simp only [List.getD_cons_zero, List.getD_cons_succ]
  go_simp
  refine hN.mono ?_; rintro e w' ⟨rfl, rfl⟩
  refine hK _ _ (fun _ => Cls.mk hS0) ?_
  clear hK K
  iterate 1 (refine wpPlan_readS hS0 (fun K hK => ?_); simp only [List.getD_cons_zero, List.getD_cons_succ]; go_simp; refine hK _ ?_; clear hK K)
  refine wpPlan_done ?_
  clear hS0 hS1 hS2 hSA hN
  obtain ⟨W2, hW2⟩ : ∃ W2, (w.drewN 1).drewN 1 = W2 := ⟨_, rfl⟩
  rw [hW2] at h2 cd ⊢
  clear hW2
  have c0 := h2.top.cell 2
  go_wp2_with fail
  refine (bitsSet bu n U Gu j _ h2.us).mono ?_; rintro e w3 ⟨rfl, s3, c3⟩
  have h3 := h2.turnU s3 c3
  have cc3 : Ch (s :: (bu :: Gu ++ (bm :: Gm))) w w3 := (cd.mono (by simp)).trans (c3.mono (fun x hx => .inl (List.mem_cons_of_mem _ (List.mem_append_left _ hx))))
  clear h2 s3 c3 c0 cd
  have c4 := h3.top.cell 4
  have f4 := h3.top.frozen 4
  have h4 := h3.setFr (fr2 := j) hjn
  have cc4 : Ch (s :: (bu :: Gu ++ (bm :: Gm))) w (w3.setCell ⟨s, 4, none⟩ (.int .i64 j)) := cc3.setCell (.inl (by simp)) _
  cases b
  · go_wp2_with fail
    go_ret2
    exact ⟨rfl, by simpa using h4, cc4⟩
  · obtain ⟨w4, hw4⟩ : ∃ w4, w3.setCell ⟨s, 4, none⟩ (.int .i64 j) = w4 := ⟨_, rfl⟩
    have HW := Lib.hid hw4
    rw [hw4] at h4 cc4
    have m3 := h4.top.cell 3
    go_upto_region 7 with fail
    try rw [HW.out]
    clear hw4 c4 f4 h3 cc3
    go_wp2_with fail
    refine (bitsSet bm n M Gm j _ h4.ms).mono ?_; rintro e w5 ⟨rfl, s5, c5⟩
    have h5 := h4.turnM s5 c5
    clear h4 s5 m3
    go_wp2_with fail
    go_ret2
    exact ⟨rfl, by simpa using h5, cc4.trans (c5.mono (fun x hx => .inl (List.mem_cons_of_mem _ (List.mem_append_right _ hx))))⟩
theorem sweep1 (i : Int) (q : Nat) (h : SpanAt w s f k n bu bm U M Gu Gm fr) (hq : Blk w q #[.pointer (some ⟨s, 0, none⟩)] 45) :
    Calls Tryd.prog 56 #[.int .i64 i, .pointer (some ⟨q, 0, none⟩)] w fun e w' => e = .returned (.bool (hasI M n i)) ∧ w' = w := by
  have c0 := hq.cell 0
  have c3 := h.top.cell 3
  have hl := bitsHas bm n M Gm i w h.ms
  clear h hq
  go_enter Tryd.func56, Tryd.ntmps56
  go_wp2_with fail
  refine hl.mono ?_; rintro e w' ⟨rfl, rfl⟩
  go_wp2
  go_ret
  exact ⟨rfl, rfl⟩
end
end Go.Proofs.YtheniiinioggiaaDoor
