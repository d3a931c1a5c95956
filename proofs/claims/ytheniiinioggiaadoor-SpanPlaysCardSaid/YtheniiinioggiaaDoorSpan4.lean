/-
  Contracts of package span: a receiver that is nobody; Addr and At. Conditions: none beyond what each theorem names.
-/
import Derived.Test.YtheniiinioggiaaDoorSpan3
namespace Go.Proofs.YtheniiinioggiaaDoor
open Go.RowKit
theorem spanSlotsNil (w : World) : Calls Tryd.prog 31 #[.pointer none] w fun e w' => e = .returned (.int .i64 0) ∧ w' = w := by
  go_enter Tryd.func31, Tryd.ntmps31
  go_wp2
  go_ret
  exact ⟨rfl, rfl⟩
theorem spanLiveNil (w : World) : Calls Tryd.prog 34 #[.pointer none] w fun e w' => e = .returned (.int .i64 0) ∧ w' = w := by
  go_enter Tryd.func34, Tryd.ntmps34
  go_wp2
  go_ret
  exact ⟨rfl, rfl⟩
theorem spanUsedNil (i : Int) (w : World) : Calls Tryd.prog 37 #[.pointer none, .int .i64 i] w fun e w' => e = .returned (.bool false) ∧ w' = w := by
  go_enter Tryd.func37, Tryd.ntmps37
  go_wp2
  go_ret
  exact ⟨rfl, rfl⟩
theorem spanMarkNil (i : Int) (w : World) : Calls Tryd.prog 32 #[.pointer none, .int .i64 i] w fun e w' => e = .returned (.bool false) ∧ w' = w := by
  have hl := spanUsedNil i w
  go_enter Tryd.func32, Tryd.ntmps32
  go_wp2_with fail
  refine hl.mono ?_; rintro e w' ⟨rfl, rfl⟩
  go_wp2
  go_ret
  exact ⟨rfl, rfl⟩
theorem spanAtNil (x : Int) (w : World) : Calls Tryd.prog 38 #[.pointer none, .int .i64 x] w fun e w' => e = .returned (.tuple #[.int .i64 0, .bool false]) ∧ w' = w := by
  go_enter Tryd.func38, Tryd.ntmps38
  go_wp2
  go_ret2
  exact ⟨rfl, rfl⟩
theorem spanSweepNil (w : World) : Calls Tryd.prog 33 #[.pointer none] w fun e w' => e = .returned (.slice none 0 0) ∧ Ch [] w w' := by
  go_enter Tryd.func33, Tryd.ntmps33
  go_wp2
  go_ret
  exact ⟨rfl, (Ch.refl [] w).alloc _⟩
theorem spanFullNil (w : World) : Calls Tryd.prog 35 #[.pointer none] w fun e w' => e = .returned (.bool true) ∧ ∃ nq, w' = w.drewN nq := by
  go_enter Tryd.func35, Tryd.ntmps35
  go_upto_region 1 with fail
  go_quiet (fail)
  go_wp2
  go_ret
  exact ⟨rfl, _, rfl⟩
theorem spanAllocNil (b : Bool) (w : World) : Calls Tryd.prog 30 #[.pointer none, .bool b] w fun e w' => e = .returned (.tuple #[.int .i64 0, .bool false]) ∧ ∃ nq, w' = w.drewN nq := by
  have hl := spanFullNil w
  go_enter Tryd.func30, Tryd.ntmps30
  go_wp2_with fail
  refine hl.mono ?_; rintro e w' ⟨rfl, nq, rfl⟩
  go_wp2
  go_ret2
  exact ⟨rfl, _, rfl⟩
section
variable {w : World} {s n bu bm fr : Nat} {f k : Int} {U M : Nat → Bool} {Gu Gm : List Nat}
theorem spanAddrNo (i : Int) (h : SpanAt w s f k n bu bm U M Gu Gm fr) (hi : i < 0 ∨ (n : Int) ≤ i) : Calls Tryd.prog 40 #[.pointer (some ⟨s, 0, none⟩), .int .i64 i] w fun e w' => e = .returned (.int .i64 0) ∧ w' = w := by
  have hl := spanSlots h
  clear h
  by_cases h0 : i < 0
  · have t1 : decide (i < 0) = true := decide_eq_true h0
    clear hl
    go_enter Tryd.func40, Tryd.ntmps40
    go_wp2
    go_ret
    exact ⟨rfl, rfl⟩
  · have t1 : decide (i < 0) = false := decide_eq_false h0
    have t2 : decide (i ≥ (n : Int)) = true := decide_eq_true (by omega)
    go_enter Tryd.func40, Tryd.ntmps40
    go_wp2_with fail
    refine hl.mono ?_; rintro e w' ⟨rfl, rfl⟩
    go_wp2
    go_ret
    exact ⟨rfl, rfl⟩
theorem spanAtNo (x : Int) (h : SpanAt w s f k n bu bm U M Gu Gm fr) (hx : x < f * 64) : Calls Tryd.prog 38 #[.pointer (some ⟨s, 0, none⟩), .int .i64 x] w fun e w' => e = .returned (.tuple #[.int .i64 0, .bool false]) ∧ w' = w := by
  have hl := spanBase h
  have t1 : decide (x < f * 64) = true := decide_eq_true hx
  clear h
  go_enter Tryd.func38, Tryd.ntmps38
  go_wp2_with fail
  refine hl.mono ?_; rintro e w' ⟨rfl, rfl⟩
  go_wp2
  go_ret2
  exact ⟨rfl, rfl⟩
theorem spanAddrYes (i : Nat) (h : SpanAt w s f k n bu bm U M Gu Gm fr) (hi : i < n) : Calls Tryd.prog 40 #[.pointer (some ⟨s, 0, none⟩), .int .i64 i] w fun e w' => e = .returned (.int .i64 (f * 64 + i * sz k)) ∧ Ch [] w w' := by
  have cd := (Ch.refl [] w).drewN 1
  have hl := spanSlots h
  have hb := spanBase (h.ch cd)
  have hz := size_any k (w.drewN 1)
  obtain ⟨hk, z1, z2⟩ := sz_range (Int.ne_of_gt h.sz)
  obtain ⟨n', hn, _, hn2⟩ := sls_in hk.1 hk.2
  have hn3 : n ≤ 256 := by have := h.sl; omega
  obtain ⟨z, hzz⟩ : ∃ z : Nat, sz k = (z : Int) := ⟨(sz k).toNat, by omega⟩
  rw [hzz] at hz z1 z2 ⊢
  obtain ⟨p, hp⟩ : ∃ p : Nat, i * z = p := ⟨_, rfl⟩
  have hpl : p ≤ 256 * 256 := by rw [← hp]; exact Nat.mul_le_mul (by omega) (by omega)
  have hpi : (i : Int) * (z : Int) = (p : Int) := by rw [← hp]; push_cast; rfl
  obtain ⟨f1, f2⟩ := h.fb
  have w8 : IntKind.i64.wrap ((i : Int) * (z : Int)) = (p : Int) := by rw [hpi]; exact IntWalk.i64_in _ (by omega)
  have w9 : IntKind.i64.wrap (f * 64 + (p : Int)) = f * 64 + (p : Int) := IntWalk.i64_in _ (by omega)
  rw [hpi]
  have t1 : decide ((i : Int) < 0) = false := decide_eq_false (by omega)
  have t2 : decide ((i : Int) ≥ (n : Int)) = false := decide_eq_false (by omega)
  obtain ⟨L, hL⟩ : ∃ L : World → Prop, ∀ w', L w' ↔ w'.cell? ⟨s, 1, none⟩ = some (.int .i64 k) := ⟨_, fun _ => Iff.rfl⟩
  have hS1 : ∀ x : { w' : World // L w' }, x.1.cell? ⟨s, 1, none⟩ = some (.int .i64 k) := fun x => (hL _).1 x.2
  have hLk : ∀ w', Ch [] w w' → L w' := fun w' hc => (hL _).2 ((h.ch hc).top.cell 1)
  have hS0 := hLk _ cd
  have hSA : Nonempty { w' : World // L w' } := ⟨⟨_, hS0⟩⟩
  have HLk := Lib.hid hLk
  clear h hL hLk hp hpi hzz hn
  go_enter Tryd.func40, Tryd.ntmps40
  go_wp2_with fail
  refine hl.mono ?_; rintro e w' ⟨rfl, rfl⟩
  clear hl
  go_upto_region 3 with fail
  refine wp_region_plan (Cls L) (List.range 11) (.reads [0, 2, 3, 4, 5, 6] (.only 1 (.only 7 (.reads [8, 9, 10] .done)))) (by kernel_rfl) (by kernel_rfl) (fun _ _ _ _ _ h => h) ?_
  simp only [Plan.reads, Plan.only, List.foldr_cons, List.foldr_nil]
  iterate 6 (refine wpPlan_readS hS0 (fun K hK => ?_); simp only [List.getD_cons_zero, List.getD_cons_succ]; go_simp; refine hK _ ?_; clear hK K)
  refine wpPlan_only (fun K hK => ?_)
  simp only [List.getD_cons_zero, List.getD_cons_succ]
  go_simp
  refine hb.mono ?_; rintro e w2 ⟨rfl, rfl⟩
  refine hK _ _ (fun _ => Cls.mk hS0) ?_
  clear hK K hb
  refine wpPlan_only (fun K hK => ?_)
  simp only [List.getD_cons_zero, List.getD_cons_succ]
  go_simp
  refine hz.mono ?_; rintro e w3 ⟨rfl, c3⟩
  have cc := cd.trans c3
  have l3 := HLk.out _ cc
  refine hK _ _ (fun _ => Cls.mk l3) ?_
  clear hK K hz c3
  iterate 3 (refine wpPlan_readS l3 (fun K hK => ?_); simp only [List.getD_cons_zero, List.getD_cons_succ]; go_simp; refine hK _ ?_; clear hK K)
  refine wpPlan_done ?_
  clear hS0 hS1 hSA l3
  go_wp2
  go_ret
  exact ⟨rfl, cc⟩
theorem spanAtIn (d z r g : Nat) (h : SpanAt w s f k n bu bm U M Gu Gm fr) (hzz : sz k = (z : Int)) (hd : d ≤ 1000000000) (hr : d % z = r) (hg : d / z = g) : Calls Tryd.prog 38 #[.pointer (some ⟨s, 0, none⟩), .int .i64 (f * 64 + d)] w fun e w' => e = .returned (if r = 0 ∧ g < n then .tuple #[.int .i64 g, .bool true] else .tuple #[.int .i64 0, .bool false]) ∧ Ch [] w w' := by
  obtain ⟨R, hR⟩ : ∃ R, (if r = 0 ∧ g < n then Value.tuple #[.int .i64 g, .bool true] else .tuple #[.int .i64 0, .bool false]) = R := ⟨_, rfl⟩
  rw [hR]
  have HR := Lib.hid hR
  clear hR
  have cd := (Ch.refl [] w).drewN 1
  have hb := spanBase h
  have hb2 := spanBase (h.ch cd)
  have hz := size_any k (w.drewN 1)
  have z1 := h.sz
  rw [hzz] at hz z1
  obtain ⟨f1, f2⟩ := h.fb
  have w8 : IntKind.i64.wrap (f * 64 + (d : Int) - f * 64) = (d : Int) := by rw [IntWalk.i64_in _ (by omega)]; omega
  have w9 : (d : Int).tmod (z : Int) = (r : Int) := by rw [← hr]; rfl
  have wa : (d : Int).tdiv (z : Int) = (g : Int) := by rw [← hg]; rfl
  have gd : g ≤ d := by rw [← hg]; exact Nat.div_le_self d z
  have wb : IntKind.i64.wrap (g : Int) = (g : Int) := IntWalk.i64_in _ (by omega)
  have zz : ((z : Int) == 0) = false := by rw [beq_eq_false_iff_ne]; omega
  have zn : ¬ z = 0 := by omega
  have zf : (z = 0) = False := eq_false zn
  have t1 : decide (f * 64 + (d : Int) < f * 64) = false := decide_eq_false (by omega)
  have hsl : ∀ w', Ch [] w w' → Calls Tryd.prog 31 #[.pointer (some ⟨s, 0, none⟩)] w' fun e w'' => e = .returned (.int .i64 n) ∧ w'' = w' := fun w' hc => spanSlots (h.ch hc)
  obtain ⟨L, hL⟩ : ∃ L : World → Prop, ∀ w', L w' ↔ w'.cell? ⟨s, 1, none⟩ = some (.int .i64 k) := ⟨_, fun _ => Iff.rfl⟩
  have hS1 : ∀ x : { w' : World // L w' }, x.1.cell? ⟨s, 1, none⟩ = some (.int .i64 k) := fun x => (hL _).1 x.2
  have hLk : ∀ w', Ch [] w w' → L w' := fun w' hc => (hL _).2 ((h.ch hc).top.cell 1)
  have hS0 := hLk _ cd
  have hSA : Nonempty { w' : World // L w' } := ⟨⟨_, hS0⟩⟩
  have HLk := Lib.hid hLk
  have HSL := Lib.hid hsl
  clear h hL hLk hzz hr hg hsl
  go_enter Tryd.func38, Tryd.ntmps38
  go_wp2_with fail
  refine hb.mono ?_; rintro e w' ⟨rfl, rfl⟩
  clear hb
  go_upto_region 3 with fail
  refine wp_region_plan (Cls L) (List.range 11) (.reads [0, 1, 4, 5, 6, 7] (.only 2 (.reads [3] (.only 8 (.reads [9, 10] .done))))) (by kernel_rfl) (by kernel_rfl) (fun _ _ _ _ _ h => h) ?_
  simp only [Plan.reads, Plan.only, List.foldr_cons, List.foldr_nil]
  iterate 6 (refine wpPlan_readS hS0 (fun K hK => ?_); simp only [List.getD_cons_zero, List.getD_cons_succ]; go_simp; refine hK _ ?_; clear hK K)
  refine wpPlan_only (fun K hK => ?_)
  simp only [List.getD_cons_zero, List.getD_cons_succ]
  go_simp
  refine hb2.mono ?_; rintro e w2 ⟨rfl, rfl⟩
  refine hK _ _ (fun _ => Cls.mk hS0) ?_
  clear hK K hb2
  iterate 1 (refine wpPlan_readS hS0 (fun K hK => ?_); simp only [List.getD_cons_zero, List.getD_cons_succ]; go_simp; refine hK _ ?_; clear hK K)
  refine wpPlan_only (fun K hK => ?_)
  simp only [List.getD_cons_zero, List.getD_cons_succ]
  go_simp
  refine hz.mono ?_; rintro e w3 ⟨rfl, c3⟩
  have cc := cd.trans c3
  have l3 := HLk.out _ cc
  refine hK _ _ (fun _ => Cls.mk l3) ?_
  clear hK K hz c3
  iterate 2 (refine wpPlan_readS l3 (fun K hK => ?_); simp only [List.getD_cons_zero, List.getD_cons_succ]; go_simp; refine hK _ ?_; clear hK K)
  refine wpPlan_done ?_
  clear hS0 hS1 hSA l3
  go_upto_region 4 with fail
  have cc4 := cc.drewN 1
  have l4 := HLk.out _ cc4
  have hSA : Nonempty { w' : World // L w' } := ⟨⟨_, l4⟩⟩
  by_cases hr0 : r = 0
  · subst hr0
    have zr : (((0 : Nat) : Int) != 0) = false := rfl
    have hsl := HSL.out _ cc4
    by_cases hgn : g < n
    · have t2 : decide ((g : Int) ≥ (n : Int)) = false := decide_eq_false (by omega)
      have HIF := Lib.hid hgn
      refine wp_region_plan (Cls L) (List.range 12) (.reads [0, 1, 2, 3, 4, 5, 6, 7, 8] (.only 9 (.reads [10, 11] .done))) (by kernel_rfl) (by kernel_rfl) (fun _ _ _ _ _ h => h) ?_
      simp only [Plan.reads, Plan.only, List.foldr_cons, List.foldr_nil]
      iterate 9 (refine wpPlan_readS l4 (fun K hK => ?_); simp only [List.getD_cons_zero, List.getD_cons_succ]; go_simp; refine hK _ ?_; clear hK K)
      refine wpPlan_only (fun K hK => ?_)
      simp only [List.getD_cons_zero, List.getD_cons_succ]
      go_simp
      refine hsl.mono ?_; rintro e w5 ⟨rfl, rfl⟩
      refine hK _ _ (fun _ => Cls.mk l4) ?_
      clear hK K hsl
      iterate 2 (refine wpPlan_readS l4 (fun K hK => ?_); simp only [List.getD_cons_zero, List.getD_cons_succ]; go_simp; refine hK _ ?_; clear hK K)
      refine wpPlan_done ?_
      clear hSA l4
      go_wp2
      go_ret2
      exact ⟨by first | (have e := HR.out; simp only [HIF.out, and_self, and_true, true_and, if_true, ite_true] at e; rw [← e] <;> rfl) | (rw [← HR.out, if_neg (fun h => HIF.out h.2)] <;> rfl), cc4⟩
    · have t2 : decide ((g : Int) ≥ (n : Int)) = true := decide_eq_true (by omega)
      have HIF := Lib.hid hgn
      refine wp_region_plan (Cls L) (List.range 12) (.reads [0, 1, 2, 3, 4, 5, 6, 7, 8] (.only 9 (.reads [10, 11] .done))) (by kernel_rfl) (by kernel_rfl) (fun _ _ _ _ _ h => h) ?_
      simp only [Plan.reads, Plan.only, List.foldr_cons, List.foldr_nil]
      iterate 9 (refine wpPlan_readS l4 (fun K hK => ?_); simp only [List.getD_cons_zero, List.getD_cons_succ]; go_simp; refine hK _ ?_; clear hK K)
      refine wpPlan_only (fun K hK => ?_)
      simp only [List.getD_cons_zero, List.getD_cons_succ]
      go_simp
      refine hsl.mono ?_; rintro e w5 ⟨rfl, rfl⟩
      refine hK _ _ (fun _ => Cls.mk l4) ?_
      clear hK K hsl
      iterate 2 (refine wpPlan_readS l4 (fun K hK => ?_); simp only [List.getD_cons_zero, List.getD_cons_succ]; go_simp; refine hK _ ?_; clear hK K)
      refine wpPlan_done ?_
      clear hSA l4
      go_wp2
      go_ret2
      exact ⟨by first | (have e := HR.out; simp only [HIF.out, and_self, and_true, true_and, if_true, ite_true] at e; rw [← e] <;> rfl) | (rw [← HR.out, if_neg (fun h => HIF.out h.2)] <;> rfl), cc4⟩
  · have zr : ((r : Int) != 0) = true := by rw [bne_iff_ne]; omega
    have HIF := Lib.hid hr0
    refine wp_region_plan (Cls L) (List.range 12) (.reads [0, 1, 2, 3, 4, 5, 6, 7, 8] (.only 9 (.reads [10, 11] .done))) (by kernel_rfl) (by kernel_rfl) (fun _ _ _ _ _ h => h) ?_
    simp only [Plan.reads, Plan.only, List.foldr_cons, List.foldr_nil]
    iterate 9 (refine wpPlan_readS l4 (fun K hK => ?_); simp only [List.getD_cons_zero, List.getD_cons_succ]; go_simp; refine hK _ ?_; clear hK K)
    refine wpPlan_only (fun K hK => ?_)
    simp only [List.getD_cons_zero, List.getD_cons_succ]
    go_simp
    refine hK _ _ (fun _ => Cls.mk l4) ?_
    clear hK K
    iterate 2 (refine wpPlan_readS l4 (fun K hK => ?_); simp only [List.getD_cons_zero, List.getD_cons_succ]; go_simp; refine hK _ ?_; clear hK K)
    refine wpPlan_done ?_
    clear hSA l4
    go_wp2
    go_ret2
    exact ⟨by rw [← HR.out, if_neg (fun h => HIF.out h.1)] <;> rfl, cc4⟩
end
end Go.Proofs.YtheniiinioggiaaDoor
