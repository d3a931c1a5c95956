/-
  The walk of the statement SchedPlays: the law returns true at every input. Conditions: none beyond how the arguments are read.
-/
import Derived.Test.YteghenfdncgpeaaSchTwo
import Derived.Test.YteghenfdncgpeaaArgs
import Derived.Test.YteghenfdncgpeaaInts
import Derived.Test.YteghenfdncgpeaaPlan
import Derived.Deep.CutBlock
import Derived.Deep.CutRange
import Derived.Says
namespace Go.Proofs.Yteghenfdncgpeaa
open Go.RowKit
theorem kind_eq (x : Int) (n : Nat) (hn : 0 < n) (hl : n < 1000) : ∃ j : Nat, (wrap64 (x.tmod n + n)).tmod n = (j : Int) ∧ j < n := by
  have h1 := Int.tmod_lt_of_pos x (show (0 : Int) < n by omega)
  have h2 : (x.tmod n).natAbs < n := by
    rw [Int.natAbs_tmod]
    exact Nat.mod_lt _ (by simpa using hn)
  have h3 : wrap64 (x.tmod n + n) = x.tmod n + n := IntWalk.wrap64_in _ (by omega)
  rw [h3, Int.tmod_eq_emod_of_nonneg (by omega)]
  have h4 := Int.emod_nonneg (x.tmod n + n) (show (n : Int) ≠ 0 by omega)
  have h5 := Int.emod_lt_of_pos (x.tmod n + n) (show (0 : Int) < n by omega)
  exact ⟨((x.tmod n + n) % n).toNat, by omega, by omega⟩
/-- What an operation of the law has left. -/
def Cut27 (w wx : World) (s x q n b : Nat) (cs : Array Value) : Prop := ∃ S st, totS st n ≤ b ∧ Two w wx S s x n st st ∧ Blk wx q cs 66 ∧ q ∉ S
theorem blk_stay {w w2 : World} {S S2 : List Nat} {q : Nat} {cs : Array Value} {t : TypeId} (hb : Blk w q cs t) (hq : q ∉ S) (hc : Ch S w w2) (hn : ∀ k ∈ S2, k ∈ S ∨ w.heap.size ≤ k) : Blk w2 q cs t ∧ q ∉ S2 :=
  ⟨hb.keep hc hq, fun hm => by
    rcases hn q hm with e | e
    · exact hq e
    · have := hb.lt; omega⟩
set_option maxRecDepth 100000 in
set_option maxHeartbeats 4000000 in
theorem plays27_walk (a0 : Int) (a1 : Option Addr) (len cap : Nat) (F : Nat → Nat → Value) (w : World) (hr : RdS w a1 len 6 F) (ht : ∀ i, i < len → (∃ x, F i 0 = .int .i64 x) ∧ (∃ x, F i 1 = .int .i64 x) ∧ (∃ x, F i 2 = .int .i64 x) ∧ (∃ x, F i 3 = .int .i64 x) ∧ (∃ x, F i 4 = .int .i64 x) ∧ (∃ x, F i 5 = .bool x)) (hm : len ≤ maxLen) :
    Calls Try.prog 15 #[.int .i64 a0, .slice a1 len cap] w fun e w' => e = .returned (.bool true) ∧ Below w.heap.size w w' := by
  unfold maxLen at hm
  by_cases hn0 : a0 < 1 ∨ 64 < a0
  · have hN := schNewArg w a0 hn0
    rcases hn0 with hn0 | hn0
    · have t1 : decide (a0 < 1) = true := decide_eq_true hn0
      go_enter Try.func15, Try.ntmps15
      go_wp2_with fail
      refine hN.mono ?_; rintro e w1 ⟨rfl, rfl⟩
      go_wp2_with fail
      refine (told27 _).mono ?_; rintro e w2 ⟨rfl, c2⟩
      go_wp2_with fail
      go_ret
      exact ⟨rfl, c2.below (Nat.le_refl _) (by simp)⟩
    · have t1 : decide (a0 < 1) = false := decide_eq_false (by omega)
      have t2 : decide (a0 > 64) = true := decide_eq_true hn0
      go_enter Try.func15, Try.ntmps15
      go_wp2_with fail
      refine hN.mono ?_; rintro e w1 ⟨rfl, rfl⟩
      go_wp2_with fail
      refine (told27 _).mono ?_; rintro e w2 ⟨rfl, c2⟩
      go_wp2_with fail
      go_ret
      exact ⟨rfl, c2.below (Nat.le_refl _) (by simp)⟩
  · obtain ⟨n, rfl⟩ : ∃ n : Nat, a0 = n := ⟨a0.toNat, by omega⟩
    have hn1 : 1 ≤ n := by omega
    have hn64 : n ≤ 64 := by omega
    have t1 : decide ((n : Int) < 1) = false := decide_eq_false (by omega)
    have t2 : decide ((n : Int) > 64) = false := decide_eq_false (by omega)
    have t3 : ¬ (n : Int) < 1 := by omega
    have t4 : ¬ (64 : Int) < n := by omega
    have HT := Lib.hid ht
    clear ht hn0
    go_enter Try.func15, Try.ntmps15
    go_wp2_with fail
    refine (sdNew w n hn1 hn64).mono ?_; rintro e w1 hn
    obtain ⟨s, D, rfl, h0⟩ := hn
    go_wp2_with fail
    refine (twNew h0 hn64).mono ?_; rintro e w2 ⟨xx, S0, rfl, hT0⟩
    clear h0 t1 t2 t3 t4
    go_wp2_with fail
    go_loopw [8] (fun s8 wr => ∃ (i : Nat) (S : List Nat) (st : SSt), s8 = .int .i64 i ∧ i ≤ 80 ∧ i ≤ len ∧ totS st n ≤ 300 * i ∧ Two w wr S s xx n st st) (fun s8 _ => 80 - (intOf s8).toNat)
    case atStart => exact ⟨0, S0, _, rfl, by omega, by omega, by
      have e : totS initS n = 0 := by
        show 0 + sumP (fun _ => 0) n = 0
        rw [sumP_zero]
      omega, hT0⟩
    case round =>
      clear hT0
      obtain ⟨i, S, st, rfl, hi80, hil, htot, hT⟩ := hrel
      by_cases hlt : i < len
      · by_cases h80 : i < 80
        · have t1 : decide ((i : Int) < len) = true := decide_eq_true (by omega)
          have t2 : decide ((i : Int) < 80) = true := decide_eq_true (by omega)
          obtain ⟨⟨x0, hx0⟩, ⟨x1, hx1⟩, ⟨x2, hx2⟩, ⟨x3, hx3⟩, ⟨x4, hx4⟩, ⟨x5, hx5⟩⟩ := HT.out i hlt
          obtain ⟨ba, oa, rfl, hcell⟩ := (hr.keep (by decide) hT.ch (by simp)).at hlt
          have d0 := hcell i hlt 0 (by decide)
          have d1 := hcell i hlt 1 (by decide)
          have d2 := hcell i hlt 2 (by decide)
          have d3 := hcell i hlt 3 (by decide)
          have d4 := hcell i hlt 4 (by decide)
          have d5 := hcell i hlt 5 (by decide)
          rw [hx0, Nat.add_zero] at d0
          rw [hx1] at d1
          rw [hx2] at d2
          rw [hx3] at d3
          rw [hx4] at d4
          rw [hx5] at d5
          clear hcell hx0 hx1 hx2 hx3 hx4 hx5
          go_upto_region 11 with fail
          obtain ⟨W1, hW1⟩ : ∃ W1, wr.alloc (.cells #[.int .i64 x0, .int .i64 x1, .int .i64 x2, .int .i64 x3, .int .i64 x4, .bool x5] 66) = W1 := ⟨_, rfl⟩
          obtain ⟨q, hq⟩ : ∃ q, wr.heap.size = q := ⟨_, rfl⟩
          have bq : Blk W1 q #[.int .i64 x0, .int .i64 x1, .int .i64 x2, .int .i64 x3, .int .i64 x4, .bool x5] 66 := by rw [← hW1, ← hq]; exact Blk.new _ _ _
          have hqS : q ∉ S := fun hm => by have := (hT.bd q hm).2; omega
          replace hT : Two w W1 S s xx n st st := hT.still (by rw [← hW1]; exact (Ch.refl [] wr).alloc _)
          have hcom : st.com.length ≤ 80000 := by have := com_tot st n; omega
          have HCOM := Lib.hid hcom
          have e0 := bq.cell 0
          have e1 := bq.cell 1
          have e2 := bq.cell 2
          have e3 := bq.cell 3
          have e4 := bq.cell 4
          have e5 := bq.cell 5
          rw [hW1, hq]
          clear hW1 hq d0 d1 d2 d3 d4 d5 hcom
          obtain ⟨j, hj, hjl⟩ := kind_eq x0 8 (by decide) (by decide)
          replace hj : (wrap64 (x0.tmod 8 + 8)).tmod 8 = (j : Int) := hj
          go_upto_block 2 with fail
          go_cut [10, 11, 12, 13, 14, 15, 67] from 68 to 166 (fun s10 s11 s12 s13 s14 s15 s67 wx => s10 = .bool true ∧ Cut27 w wx s xx q n (300 * (i + 1)) #[.int .i64 x0, .int .i64 x1, .int .i64 x2, .int .i64 x3, .int .i64 x4, .bool x5])
          case first =>
            obtain ⟨J, hJ⟩ : ∃ J : Int, (j : Int) = J := ⟨_, rfl⟩
            try rw [hj]
            rw [hJ]
            have hJ0 : J = 0 ∨ J = 1 ∨ J = 2 ∨ J = 3 ∨ J = 4 ∨ J = 5 ∨ J = 6 ∨ J = 7 := by omega
            clear hj hJ hjl t1 t2
            rcases hJ0 with rfl | rfl | rfl | rfl | rfl | rfl | rfl | rfl
            · obtain ⟨E, hE⟩ : ∃ E, readyE n x1 = E := ⟨_, rfl⟩
              obtain ⟨st5, hst5⟩ : ∃ st5, readyA st n x1 x2 x5 = st5 := ⟨_, rfl⟩
              have htot5 : totS st5 n ≤ 300 * (i + 1) := by have := readyA_tot (st := st) (n := n) (j := x1) (g := x2) (nb := x5); rw [hst5] at this; omega
              have ee : (E == E) = true := by simp
              have HE := Lib.hid hE
              have HST := Lib.hid hst5
              clear hE hst5
              clear e0 e1 e2 e3 e4 e5
              go_upto_region 19 with fail
              have hTd := hT.still ((Ch.refl [] W1).drewN 1)
              have bqd := bq.keep ((Ch.refl [] W1).drewN 1) (by simp)
              obtain ⟨W9, hW9⟩ : ∃ W9, W1.drewN 1 = W9 := ⟨_, rfl⟩
              rw [hW9] at hTd bqd
              obtain ⟨L, hL⟩ : ∃ L : World → Prop, ∀ w', L w' ↔ (w'.cell? ⟨q, 1, none⟩ = some (.int .i64 x1) ∧ w'.cell? ⟨q, 2, none⟩ = some (.int .i64 x2) ∧ w'.cell? ⟨q, 5, none⟩ = some (.bool x5)) := ⟨_, fun _ => Iff.rfl⟩
              have hY1 : ∀ y : { w' : World // L w' }, y.1.cell? ⟨q, 1, none⟩ = some (.int .i64 x1) := fun y => ((hL _).1 y.2).1
              have hY2 : ∀ y : { w' : World // L w' }, y.1.cell? ⟨q, 2, none⟩ = some (.int .i64 x2) := fun y => ((hL _).1 y.2).2.1
              have hY3 : ∀ y : { w' : World // L w' }, y.1.cell? ⟨q, 5, none⟩ = some (.bool x5) := fun y => ((hL _).1 y.2).2.2
              have hLk : ∀ w', Blk w' q #[.int .i64 x0, .int .i64 x1, .int .i64 x2, .int .i64 x3, .int .i64 x4, .bool x5] 66 → L w' := fun w' hb => (hL _).2 ⟨hb.cell 1, hb.cell 2, hb.cell 5⟩
              have HLk := Lib.hid hLk
              have hS0 := hLk _ bqd
              have hSA : Nonempty { w' : World // L w' } := ⟨⟨_, hS0⟩⟩
              clear hL hLk hT bq
              refine wp_region_plan (Cls L) (List.range 18) (.reads [0, 1, 2, 3, 4, 5, 6, 8, 9, 10, 11, 12, 13, 14] (.only 7 (.only 15 (.reads [16, 17] .done)))) (by kernel_rfl) (by kernel_rfl) (fun _ _ _ _ _ h => h) ?_
              simp only [Plan.pures, Plan.reads, Plan.only, List.foldr_cons, List.foldr_nil]
              rw [hW9]
              clear hW9
              iterate 14 (refine wpPlan_readS hS0 (fun K hK => ?_); simp only [List.getD_cons_zero, List.getD_cons_succ]; go_simp; refine hK _ ?_; clear hK K)
              refine wpPlan_only (fun K hK => ?_)
              simp only [List.getD_cons_zero, List.getD_cons_succ]
              go_simp
              refine (twReady hTd HCOM.out).mono ?_; rintro e w5 ⟨rfl, S5, h5, c5, n5⟩
              rw [HE.out]
              rw [HST.out] at h5
              obtain ⟨bq5, hq5⟩ := blk_stay bqd hqS c5 n5
              refine hK _ _ (fun _ => Cls.mk (HLk.out _ bq5)) ?_
              clear hK K hS0 hTd bqd c5 n5
              refine wpPlan_only (fun K hK => ?_)
              simp only [List.getD_cons_zero, List.getD_cons_succ]
              go_simp
              refine (twReadyX h5 HCOM.out).mono ?_; rintro e w6 ⟨rfl, S6, h6, c6, n6⟩
              rw [HE.out]
              rw [HST.out] at h6
              obtain ⟨bq6, hq6⟩ := blk_stay bq5 hq5 c6 n6
              have hl6 := HLk.out _ bq6
              refine hK _ _ (fun _ => Cls.mk hl6) ?_
              clear hK K h5 c6 n6 bq5
              iterate 2 (refine wpPlan_readS hl6 (fun K hK => ?_); simp only [List.getD_cons_zero, List.getD_cons_succ]; go_simp; refine hK _ ?_; clear hK K)
              refine wpPlan_done ?_
              have hfin : Cut27 w w6 s xx q n (300 * (i + 1)) #[.int .i64 x0, .int .i64 x1, .int .i64 x2, .int .i64 x3, .int .i64 x4, .bool x5] := ⟨S6, st5, htot5, h6, bq6, hq6⟩
              clear hY1 hY2 hY3 hSA hl6 HLk h6 bq6
              go_wp2_with fail
              go_meet
              exact ⟨rfl, hfin⟩
            · obtain ⟨E, hE⟩ : ∃ E, readyE n x1 = E := ⟨_, rfl⟩
              obtain ⟨st5, hst5⟩ : ∃ st5, readyA st n x1 x2 x5 = st5 := ⟨_, rfl⟩
              have htot5 : totS st5 n ≤ 300 * (i + 1) := by have := readyA_tot (st := st) (n := n) (j := x1) (g := x2) (nb := x5); rw [hst5] at this; omega
              have ee : (E == E) = true := by simp
              have HE := Lib.hid hE
              have HST := Lib.hid hst5
              clear hE hst5
              clear e0 e1 e2 e3 e4 e5
              go_upto_region 19 with fail
              have hTd := hT.still ((Ch.refl [] W1).drewN 1)
              have bqd := bq.keep ((Ch.refl [] W1).drewN 1) (by simp)
              obtain ⟨W9, hW9⟩ : ∃ W9, W1.drewN 1 = W9 := ⟨_, rfl⟩
              rw [hW9] at hTd bqd
              obtain ⟨L, hL⟩ : ∃ L : World → Prop, ∀ w', L w' ↔ (w'.cell? ⟨q, 1, none⟩ = some (.int .i64 x1) ∧ w'.cell? ⟨q, 2, none⟩ = some (.int .i64 x2) ∧ w'.cell? ⟨q, 5, none⟩ = some (.bool x5)) := ⟨_, fun _ => Iff.rfl⟩
              have hY1 : ∀ y : { w' : World // L w' }, y.1.cell? ⟨q, 1, none⟩ = some (.int .i64 x1) := fun y => ((hL _).1 y.2).1
              have hY2 : ∀ y : { w' : World // L w' }, y.1.cell? ⟨q, 2, none⟩ = some (.int .i64 x2) := fun y => ((hL _).1 y.2).2.1
              have hY3 : ∀ y : { w' : World // L w' }, y.1.cell? ⟨q, 5, none⟩ = some (.bool x5) := fun y => ((hL _).1 y.2).2.2
              have hLk : ∀ w', Blk w' q #[.int .i64 x0, .int .i64 x1, .int .i64 x2, .int .i64 x3, .int .i64 x4, .bool x5] 66 → L w' := fun w' hb => (hL _).2 ⟨hb.cell 1, hb.cell 2, hb.cell 5⟩
              have HLk := Lib.hid hLk
              have hS0 := hLk _ bqd
              have hSA : Nonempty { w' : World // L w' } := ⟨⟨_, hS0⟩⟩
              clear hL hLk hT bq
              refine wp_region_plan (Cls L) (List.range 18) (.reads [0, 1, 2, 3, 4, 5, 6, 8, 9, 10, 11, 12, 13, 14] (.only 7 (.only 15 (.reads [16, 17] .done)))) (by kernel_rfl) (by kernel_rfl) (fun _ _ _ _ _ h => h) ?_
              simp only [Plan.pures, Plan.reads, Plan.only, List.foldr_cons, List.foldr_nil]
              rw [hW9]
              clear hW9
              iterate 14 (refine wpPlan_readS hS0 (fun K hK => ?_); simp only [List.getD_cons_zero, List.getD_cons_succ]; go_simp; refine hK _ ?_; clear hK K)
              refine wpPlan_only (fun K hK => ?_)
              simp only [List.getD_cons_zero, List.getD_cons_succ]
              go_simp
              refine (twReady hTd HCOM.out).mono ?_; rintro e w5 ⟨rfl, S5, h5, c5, n5⟩
              rw [HE.out]
              rw [HST.out] at h5
              obtain ⟨bq5, hq5⟩ := blk_stay bqd hqS c5 n5
              refine hK _ _ (fun _ => Cls.mk (HLk.out _ bq5)) ?_
              clear hK K hS0 hTd bqd c5 n5
              refine wpPlan_only (fun K hK => ?_)
              simp only [List.getD_cons_zero, List.getD_cons_succ]
              go_simp
              refine (twReadyX h5 HCOM.out).mono ?_; rintro e w6 ⟨rfl, S6, h6, c6, n6⟩
              rw [HE.out]
              rw [HST.out] at h6
              obtain ⟨bq6, hq6⟩ := blk_stay bq5 hq5 c6 n6
              have hl6 := HLk.out _ bq6
              refine hK _ _ (fun _ => Cls.mk hl6) ?_
              clear hK K h5 c6 n6 bq5
              iterate 2 (refine wpPlan_readS hl6 (fun K hK => ?_); simp only [List.getD_cons_zero, List.getD_cons_succ]; go_simp; refine hK _ ?_; clear hK K)
              refine wpPlan_done ?_
              have hfin : Cut27 w w6 s xx q n (300 * (i + 1)) #[.int .i64 x0, .int .i64 x1, .int .i64 x2, .int .i64 x3, .int .i64 x4, .bool x5] := ⟨S6, st5, htot5, h6, bq6, hq6⟩
              clear hY1 hY2 hY3 hSA hl6 HLk h6 bq6
              go_wp2_with fail
              go_meet
              exact ⟨rfl, hfin⟩
            · go_wp2_with fail
              refine (twGlobal hT HCOM.out).mono ?_; rintro e w5 ⟨rfl, S5, h5, c5, n5⟩
              obtain ⟨bq5, hq5⟩ := blk_stay bq hqS c5 n5
              obtain ⟨st5, hst5⟩ : ∃ st5, st.setCom (st.com ++ [x2]) = st5 := ⟨_, rfl⟩
              have htot5 : totS st5 n ≤ 300 * (i + 1) := by
                have := com_wt (f := List.length) (st := st) (n := n) (st.com ++ [x2])
                rw [hst5, List.length_append, List.length_singleton, ← totS_wt, ← totS_wt] at this
                omega
              rw [hst5] at h5
              have HST := Lib.hid hst5
              obtain ⟨b5, hb5⟩ : ∃ b5, w5.heap.size = b5 := ⟨_, rfl⟩
              have o6 := OwI.lit w5 b5 [x2] (by omega) (by simp)
              obtain ⟨W6, hW6⟩ : ∃ W6, w5.alloc (.cells #[.int .i64 x2] 3) = W6 := ⟨_, rfl⟩
              have c6 : Ch [] w5 W6 := by rw [← hW6]; exact (Ch.refl [] w5).alloc _
              replace o6 : OwI W6 b5 (.slice (some ⟨b5, 0, none⟩) 1 1) [x2] := by rw [← hW6, ← hb5]; rw [← hb5] at o6; exact o6
              have h6 := h5.still c6
              have hres : ResL W6 S5 (.slice (some ⟨b5, 0, none⟩) 1 1) [x2] := o6.lsF (fun k hk => by have := (h5.bd k hk).2; omega)
              have hG := twGlobalX h6 hres HCOM.out (by simp)
              rw [HST.out] at hG
              have bq6 := bq5.keep c6 (by simp)
              have e2b := bq5.cell 2
              clear h5 c5 n5 hst5 o6 h6 hres e0 e1 e2 e3 e4 e5 hT bq bq5 c6
              go_wp2_with (first | rw [hb5] | rw [hW6])
              refine hG.mono ?_; rintro e w7 ⟨rfl, S7, h7, c7, n7⟩
              obtain ⟨bq7, hq7⟩ := blk_stay bq6 hq5 c7 n7
              have hfin : Cut27 w w7 s xx q n (300 * (i + 1)) #[.int .i64 x0, .int .i64 x1, .int .i64 x2, .int .i64 x3, .int .i64 x4, .bool x5] := ⟨S7, st5, htot5, h7, bq7, hq7⟩
              clear hG h7 c7 n7 bq6 bq7 e2b hW6 hb5
              go_wp2_with fail
              go_meet
              exact ⟨rfl, hfin⟩
            · obtain ⟨V, hV⟩ : ∃ V, pickAV st n x1 x3 x4 = V := ⟨_, rfl⟩
              obtain ⟨B, hB⟩ : ∃ B, pickAB st n x1 x3 x4 = B := ⟨_, rfl⟩
              obtain ⟨st5, hst5⟩ : ∃ st5, pickAS st n x1 x3 x4 = st5 := ⟨_, rfl⟩
              have htot5 : totS st5 n ≤ 300 * (i + 1) := by have := pickAS_tot (st := st) (n := n) (j := x1) (tick := x3) (vic := x4); rw [hst5] at this; omega
              have vv : (V == V) = true := by simp
              have bb : (B == B) = true := by simp
              have HV := Lib.hid hV
              have HB := Lib.hid hB
              have HST := Lib.hid hst5
              clear hV hB hst5
              go_wp2_with fail
              refine (twPick hT HCOM.out).mono ?_; rintro e w5 ⟨rfl, S5, h5, c5, n5⟩
              rw [HV.out, HB.out]
              rw [HST.out] at h5
              obtain ⟨bq5, hq5⟩ := blk_stay bq hqS c5 n5
              have f1 := bq5.cell 1
              have f3 := bq5.cell 3
              have f4 := bq5.cell 4
              clear e0 e1 e2 e3 e4 e5 hT bq c5 n5
              go_wp2_with fail
              refine (twPickX h5 HCOM.out).mono ?_; rintro e w6 ⟨rfl, S6, h6, c6, n6⟩
              rw [HV.out, HB.out]
              rw [HST.out] at h6
              obtain ⟨bq6, hq6⟩ := blk_stay bq5 hq5 c6 n6
              have hfin : Cut27 w w6 s xx q n (300 * (i + 1)) #[.int .i64 x0, .int .i64 x1, .int .i64 x2, .int .i64 x3, .int .i64 x4, .bool x5] := ⟨S6, st5, htot5, h6, bq6, hq6⟩
              clear h5 h6 c6 n6 bq5 bq6 f1 f3 f4
              go_wp2_with fail
              go_meet
              exact ⟨rfl, hfin⟩
            · obtain ⟨V, hV⟩ : ∃ V, pickAV st n x1 x3 x4 = V := ⟨_, rfl⟩
              obtain ⟨B, hB⟩ : ∃ B, pickAB st n x1 x3 x4 = B := ⟨_, rfl⟩
              obtain ⟨st5, hst5⟩ : ∃ st5, pickAS st n x1 x3 x4 = st5 := ⟨_, rfl⟩
              have htot5 : totS st5 n ≤ 300 * (i + 1) := by have := pickAS_tot (st := st) (n := n) (j := x1) (tick := x3) (vic := x4); rw [hst5] at this; omega
              have vv : (V == V) = true := by simp
              have bb : (B == B) = true := by simp
              have HV := Lib.hid hV
              have HB := Lib.hid hB
              have HST := Lib.hid hst5
              clear hV hB hst5
              go_wp2_with fail
              refine (twPick hT HCOM.out).mono ?_; rintro e w5 ⟨rfl, S5, h5, c5, n5⟩
              rw [HV.out, HB.out]
              rw [HST.out] at h5
              obtain ⟨bq5, hq5⟩ := blk_stay bq hqS c5 n5
              have f1 := bq5.cell 1
              have f3 := bq5.cell 3
              have f4 := bq5.cell 4
              clear e0 e1 e2 e3 e4 e5 hT bq c5 n5
              go_wp2_with fail
              refine (twPickX h5 HCOM.out).mono ?_; rintro e w6 ⟨rfl, S6, h6, c6, n6⟩
              rw [HV.out, HB.out]
              rw [HST.out] at h6
              obtain ⟨bq6, hq6⟩ := blk_stay bq5 hq5 c6 n6
              have hfin : Cut27 w w6 s xx q n (300 * (i + 1)) #[.int .i64 x0, .int .i64 x1, .int .i64 x2, .int .i64 x3, .int .i64 x4, .bool x5] := ⟨S6, st5, htot5, h6, bq6, hq6⟩
              clear h5 h6 c6 n6 bq5 bq6 f1 f3 f4
              go_wp2_with fail
              go_meet
              exact ⟨rfl, hfin⟩
            · obtain ⟨V, hV⟩ : ∃ V, pickAV st n x1 x3 x4 = V := ⟨_, rfl⟩
              obtain ⟨B, hB⟩ : ∃ B, pickAB st n x1 x3 x4 = B := ⟨_, rfl⟩
              obtain ⟨st5, hst5⟩ : ∃ st5, pickAS st n x1 x3 x4 = st5 := ⟨_, rfl⟩
              have htot5 : totS st5 n ≤ 300 * (i + 1) := by have := pickAS_tot (st := st) (n := n) (j := x1) (tick := x3) (vic := x4); rw [hst5] at this; omega
              have vv : (V == V) = true := by simp
              have bb : (B == B) = true := by simp
              have HV := Lib.hid hV
              have HB := Lib.hid hB
              have HST := Lib.hid hst5
              clear hV hB hst5
              go_wp2_with fail
              refine (twPick hT HCOM.out).mono ?_; rintro e w5 ⟨rfl, S5, h5, c5, n5⟩
              rw [HV.out, HB.out]
              rw [HST.out] at h5
              obtain ⟨bq5, hq5⟩ := blk_stay bq hqS c5 n5
              have f1 := bq5.cell 1
              have f3 := bq5.cell 3
              have f4 := bq5.cell 4
              clear e0 e1 e2 e3 e4 e5 hT bq c5 n5
              go_wp2_with fail
              refine (twPickX h5 HCOM.out).mono ?_; rintro e w6 ⟨rfl, S6, h6, c6, n6⟩
              rw [HV.out, HB.out]
              rw [HST.out] at h6
              obtain ⟨bq6, hq6⟩ := blk_stay bq5 hq5 c6 n6
              have hfin : Cut27 w w6 s xx q n (300 * (i + 1)) #[.int .i64 x0, .int .i64 x1, .int .i64 x2, .int .i64 x3, .int .i64 x4, .bool x5] := ⟨S6, st5, htot5, h6, bq6, hq6⟩
              clear h5 h6 c6 n6 bq5 bq6 f1 f3 f4
              go_wp2_with fail
              go_meet
              exact ⟨rfl, hfin⟩
            · obtain ⟨E, hE⟩ : ∃ E, dropAV st n x1 = E := ⟨_, rfl⟩
              obtain ⟨st5, hst5⟩ : ∃ st5, dropAS st n x1 = st5 := ⟨_, rfl⟩
              have htot5 : totS st5 n ≤ 300 * (i + 1) := by have := dropAS_tot (st := st) (n := n) (j := x1); rw [hst5] at this; omega
              have ee : (E == E) = true := by simp
              have HE := Lib.hid hE
              have HST := Lib.hid hst5
              clear hE hst5
              clear e0 e1 e2 e3 e4 e5
              go_upto_region 30 with fail
              have hTd := hT.still ((Ch.refl [] W1).drewN 1)
              have bqd := bq.keep ((Ch.refl [] W1).drewN 1) (by simp)
              obtain ⟨W9, hW9⟩ : ∃ W9, W1.drewN 1 = W9 := ⟨_, rfl⟩
              rw [hW9] at hTd bqd
              obtain ⟨L, hL⟩ : ∃ L : World → Prop, ∀ w', L w' ↔ (w'.cell? ⟨q, 1, none⟩ = some (.int .i64 x1) ∧ w'.cell? ⟨q, 2, none⟩ = some (.int .i64 x2) ∧ w'.cell? ⟨q, 5, none⟩ = some (.bool x5)) := ⟨_, fun _ => Iff.rfl⟩
              have hY1 : ∀ y : { w' : World // L w' }, y.1.cell? ⟨q, 1, none⟩ = some (.int .i64 x1) := fun y => ((hL _).1 y.2).1
              have hY2 : ∀ y : { w' : World // L w' }, y.1.cell? ⟨q, 2, none⟩ = some (.int .i64 x2) := fun y => ((hL _).1 y.2).2.1
              have hY3 : ∀ y : { w' : World // L w' }, y.1.cell? ⟨q, 5, none⟩ = some (.bool x5) := fun y => ((hL _).1 y.2).2.2
              have hLk : ∀ w', Blk w' q #[.int .i64 x0, .int .i64 x1, .int .i64 x2, .int .i64 x3, .int .i64 x4, .bool x5] 66 → L w' := fun w' hb => (hL _).2 ⟨hb.cell 1, hb.cell 2, hb.cell 5⟩
              have HLk := Lib.hid hLk
              have hS0 := hLk _ bqd
              have hSA : Nonempty { w' : World // L w' } := ⟨⟨_, hS0⟩⟩
              clear hL hLk hT bq
              refine wp_region_plan (Cls L) (List.range 10) (.reads [0, 1, 2, 4, 5, 6] (.only 3 (.only 7 (.reads [8, 9] .done)))) (by kernel_rfl) (by kernel_rfl) (fun _ _ _ _ _ h => h) ?_
              simp only [Plan.pures, Plan.reads, Plan.only, List.foldr_cons, List.foldr_nil]
              rw [hW9]
              clear hW9
              iterate 6 (refine wpPlan_readS hS0 (fun K hK => ?_); simp only [List.getD_cons_zero, List.getD_cons_succ]; go_simp; refine hK _ ?_; clear hK K)
              refine wpPlan_only (fun K hK => ?_)
              simp only [List.getD_cons_zero, List.getD_cons_succ]
              go_simp
              refine (twDrop hTd HCOM.out).mono ?_; rintro e w5 ⟨rfl, S5, h5, c5, n5⟩
              rw [HE.out]
              rw [HST.out] at h5
              obtain ⟨bq5, hq5⟩ := blk_stay bqd hqS c5 n5
              refine hK _ _ (fun _ => Cls.mk (HLk.out _ bq5)) ?_
              clear hK K hS0 hTd bqd c5 n5
              refine wpPlan_only (fun K hK => ?_)
              simp only [List.getD_cons_zero, List.getD_cons_succ]
              go_simp
              refine (twDropX h5 HCOM.out).mono ?_; rintro e w6 ⟨rfl, S6, h6, c6, n6⟩
              rw [HE.out]
              rw [HST.out] at h6
              obtain ⟨bq6, hq6⟩ := blk_stay bq5 hq5 c6 n6
              have hl6 := HLk.out _ bq6
              refine hK _ _ (fun _ => Cls.mk hl6) ?_
              clear hK K h5 c6 n6 bq5
              iterate 2 (refine wpPlan_readS hl6 (fun K hK => ?_); simp only [List.getD_cons_zero, List.getD_cons_succ]; go_simp; refine hK _ ?_; clear hK K)
              refine wpPlan_done ?_
              have hfin : Cut27 w w6 s xx q n (300 * (i + 1)) #[.int .i64 x0, .int .i64 x1, .int .i64 x2, .int .i64 x3, .int .i64 x4, .bool x5] := ⟨S6, st5, htot5, h6, bq6, hq6⟩
              clear hY1 hY2 hY3 hSA hl6 HLk h6 bq6
              go_wp2_with fail
              go_meet
              exact ⟨rfl, hfin⟩
            · obtain ⟨m, hm0, hml⟩ := umod x2 300 (by decide) (by decide)
              have HM := Lib.hid hm0
              have hm300 : m ≤ 299 := by omega
              clear hm0 hml e0 e1 e2 e3 e4 e5
              go_wp2_with fail
              go_loopw [10, 15] (fun s10 s15 wx => ∃ (k : Nat) (S5 : List Nat) (st5 : SSt), s10 = .bool true ∧ s15 = .int .i64 k ∧ k ≤ m ∧ totS st5 n ≤ 300 * i + k ∧ Two w wx S5 s xx n st5 st5 ∧ Blk wx q #[.int .i64 x0, .int .i64 x1, .int .i64 x2, .int .i64 x3, .int .i64 x4, .bool x5] 66 ∧ q ∉ S5) (fun _ s15 _ => m - (intOf s15).toNat)
              case atStart => exact ⟨0, S, st, rfl, rfl, by omega, by omega, hT, bq, hqS⟩
              case round =>
                clear hT bq htot HCOM hqS
                obtain ⟨k, S5, st5, rfl, rfl, hkm, htot, hT, bq, hqS⟩ := hrel
                have e2 := bq.cell 2
                have hmw := HM.out
                by_cases hlt : k < m
                · have u1 : decide ((k : Int) < m) = true := decide_eq_true (by omega)
                  have u2 : (k : Int) < m := by omega
                  obtain ⟨E, hE⟩ : ∃ E, readyE n x1 = E := ⟨_, rfl⟩
                  obtain ⟨st6, hst6⟩ : ∃ st6, readyA st5 n x1 (k : Int) false = st6 := ⟨_, rfl⟩
                  have htot6 : totS st6 n ≤ 300 * i + (k + 1) := by have := readyA_tot (st := st5) (n := n) (j := x1) (g := (k : Int)) (nb := false); rw [hst6] at this; omega
                  have hcom5 : st5.com.length ≤ 80000 := by have := com_tot st5 n; omega
                  have HCOM5 := Lib.hid hcom5
                  have ee : (E == E) = true := by simp
                  have HE := Lib.hid hE
                  have HST := Lib.hid hst6
                  clear hE hst6 hcom5
                  go_upto_region 16 with fail
                  have hTd := hT.still ((Ch.refl [] wr).drewN 1)
                  have bqd := bq.keep ((Ch.refl [] wr).drewN 1) (by simp)
                  obtain ⟨W9, hW9⟩ : ∃ W9, wr.drewN 1 = W9 := ⟨_, rfl⟩
                  rw [hW9] at hTd bqd
                  obtain ⟨L, hL⟩ : ∃ L : World → Prop, ∀ w', L w' ↔ (w'.cell? ⟨q, 1, none⟩ = some (.int .i64 x1) ∧ w'.cell? ⟨q, 2, none⟩ = some (.int .i64 x2) ∧ w'.cell? ⟨q, 5, none⟩ = some (.bool x5)) := ⟨_, fun _ => Iff.rfl⟩
                  have hY1 : ∀ y : { w' : World // L w' }, y.1.cell? ⟨q, 1, none⟩ = some (.int .i64 x1) := fun y => ((hL _).1 y.2).1
                  have hY2 : ∀ y : { w' : World // L w' }, y.1.cell? ⟨q, 2, none⟩ = some (.int .i64 x2) := fun y => ((hL _).1 y.2).2.1
                  have hY3 : ∀ y : { w' : World // L w' }, y.1.cell? ⟨q, 5, none⟩ = some (.bool x5) := fun y => ((hL _).1 y.2).2.2
                  have hLk : ∀ w', Blk w' q #[.int .i64 x0, .int .i64 x1, .int .i64 x2, .int .i64 x3, .int .i64 x4, .bool x5] 66 → L w' := fun w' hb => (hL _).2 ⟨hb.cell 1, hb.cell 2, hb.cell 5⟩
                  have HLk := Lib.hid hLk
                  have hS0 := hLk _ bqd
                  have hSA : Nonempty { w' : World // L w' } := ⟨⟨_, hS0⟩⟩
                  clear hL hLk hT bq
                  clear e2
                  refine wp_region_plan (Cls L) (List.range 12) (.reads [0, 1, 2, 3, 5, 6, 7, 8] (.only 4 (.only 9 (.reads [10, 11] .done)))) (by kernel_rfl) (by kernel_rfl) (fun _ _ _ _ _ h => h) ?_
                  simp only [Plan.pures, Plan.reads, Plan.only, List.foldr_cons, List.foldr_nil]
                  rw [hW9]
                  clear hW9
                  iterate 8 (refine wpPlan_readS hS0 (fun K hK => ?_); simp only [List.getD_cons_zero, List.getD_cons_succ]; go_simp; refine hK _ ?_; clear hK K)
                  refine wpPlan_only (fun K hK => ?_)
                  simp only [List.getD_cons_zero, List.getD_cons_succ]
                  go_simp
                  refine (twReady hTd HCOM5.out).mono ?_; rintro e w5 ⟨rfl, S6, h5, c5, n5⟩
                  rw [HE.out]
                  rw [HST.out] at h5
                  obtain ⟨bq5, hq5⟩ := blk_stay bqd hqS c5 n5
                  refine hK _ _ (fun _ => Cls.mk (HLk.out _ bq5)) ?_
                  clear hK K hS0 hTd bqd c5 n5
                  refine wpPlan_only (fun K hK => ?_)
                  simp only [List.getD_cons_zero, List.getD_cons_succ]
                  go_simp
                  refine (twReadyX h5 HCOM5.out).mono ?_; rintro e w6 ⟨rfl, S7, h6, c6, n6⟩
                  rw [HE.out]
                  rw [HST.out] at h6
                  obtain ⟨bq6, hq6⟩ := blk_stay bq5 hq5 c6 n6
                  have hl6 := HLk.out _ bq6
                  refine hK _ _ (fun _ => Cls.mk hl6) ?_
                  clear hK K h5 c6 n6 bq5
                  iterate 2 (refine wpPlan_readS hl6 (fun K hK => ?_); simp only [List.getD_cons_zero, List.getD_cons_succ]; go_simp; refine hK _ ?_; clear hK K)
                  refine wpPlan_done ?_
                  clear hY1 hY2 hY3 hSA hl6 HLk
                  go_wp2_with fail
                  go_roundw
                  case rel => exact ⟨k + 1, S7, st6, rfl, by go_num, by omega, htot6, h6, bq6, hq6⟩
                  case measure => simp [intOf]; omega
                · obtain rfl : k = m := by omega
                  have u1 : decide ((k : Int) < k) = false := decide_eq_false (by omega)
                  have hfin : Cut27 w wr s xx q n (300 * (i + 1)) #[.int .i64 x0, .int .i64 x1, .int .i64 x2, .int .i64 x3, .int .i64 x4, .bool x5] := ⟨S5, st5, by omega, hT, bq, hqS⟩
                  clear hT
                  go_wp2_with fail
                  go_meet
                  exact ⟨rfl, hfin⟩
          case rest =>
            obtain ⟨rfl, S5, st5, htot5, h5, bq5, hq5⟩ := hcut
            have hcom5 : st5.com.length ≤ 80000 := by have := com_tot st5 n; omega
            have HCOM5 := Lib.hid hcom5
            obtain ⟨V, hV⟩ : ∃ V, whereV st5 n x2 = V := ⟨_, rfl⟩
            obtain ⟨B, hB⟩ : ∃ B, whereB st5 n x2 = B := ⟨_, rfl⟩
            obtain ⟨T, hTt⟩ : ∃ T, totS st5 n = T := ⟨_, rfl⟩
            have vv : (V != V) = false := by simp
            have bb : (B != B) = false := by simp
            have tt : ((T : Int) != (T : Int)) = false := by simp
            have HV := Lib.hid hV
            have HB := Lib.hid hB
            have HTT := Lib.hid hTt
            have f2 := bq5.cell 2
            clear hV hB hTt hj hjl e0 e1 e2 e3 e4 e5 bq hT hqS hcom5 HCOM htot
            go_wp2_with fail
            refine (twWhere h5 hn64 HCOM5.out).mono ?_; rintro e w6 ⟨rfl, c6⟩
            rw [HV.out, HB.out]
            have h6 := h5.still c6
            have f2b := (bq5.keep c6 (by simp)).cell 2
            clear h5 bq5 c6 f2
            go_wp2_with fail
            refine (twWhereX h6 hn64 HCOM5.out).mono ?_; rintro e w7 ⟨rfl, c7⟩
            rw [HV.out, HB.out]
            have h7 := h6.still c7
            clear h6 c7 f2b
            go_wp2_with fail
            refine (twLen h7 hn64 HCOM5.out).mono ?_; rintro e w8 ⟨rfl, c8⟩
            rw [HTT.out]
            have h8 := h7.still c8
            clear h7 c8
            go_wp2_with fail
            refine (twLenX h8 hn64 HCOM5.out).mono ?_; rintro e w9 ⟨rfl, c9⟩
            rw [HTT.out]
            have h9 := h8.still c9
            clear h8 c9
            go_wp2_with fail
            go_roundw
            case rel => exact ⟨i + 1, S5, st5, by go_num, by omega, by omega, htot5, h9⟩
            case measure => simp [intOf]; omega
        · have t1 : decide ((i : Int) < len) = true := decide_eq_true (by omega)
          have t2 : decide ((i : Int) < 80) = false := decide_eq_false (by omega)
          have hcom : st.com.length ≤ 80000 := by have := com_tot st n; omega
          have HCOM := Lib.hid hcom
          clear hcom
          go_wp2_with fail
          go_loopw [20] (fun s20 wy => ∃ p : Nat, s20 = .int .i64 p ∧ p ≤ n ∧ Two w wy S s xx n st st) (fun s20 _ => n - (intOf s20).toNat)
          case atStart => exact ⟨0, rfl, by omega, hT⟩
          case round =>
            clear hT
            obtain ⟨p, rfl, hpn, hT⟩ := hrel
            obtain ⟨D, vs, Y, h1, h2, h3, h4, h5, h6, h7⟩ := id hT
            by_cases hlt2 : p < n
            · have u1 : decide ((p : Int) < n) = true := decide_eq_true (by omega)
              have u2 : (p : Int) < n := by omega
              have u3 : (0 : Int) ≤ p := by omega
              obtain ⟨y, hy⟩ : ∃ y, Y[p]? = some y := ⟨_, List.getElem?_eq_getElem (by omega)⟩
              obtain ⟨gg, oo, cap', rfl, hcap, hfd⟩ := h2.cells hy
              rw [h3] at hfd h2
              have hl1 := allS_len st p
              have hl2 := h7 p
              have hA1 := fun W hc => sdLocal (h1.still (w2 := W) hc) hlt2
              have hA2 := fun W hc => allRefS (h2.still (w2 := W) hc) hy hl2
              obtain ⟨A, hA⟩ : ∃ A, allS st p = A := ⟨_, rfl⟩
              rw [hA] at hl1 hA1 hA2
              have hAl : A.length ≤ maxLen := by unfold maxLen; omega
              have HA1 := Lib.hid hA1
              have HA2 := Lib.hid hA2
              obtain ⟨L, hL⟩ : ∃ L : World → Prop, ∀ w', L w' ↔ (w'.cell? ⟨xx, 0, none⟩ = some (.slice (some ⟨gg, oo, none⟩) n cap') ∧ w'.cell? ⟨gg, oo + p, none⟩ = some (.pointer (some ⟨y, 0, none⟩))) := ⟨_, fun _ => Iff.rfl⟩
              have hY1 : ∀ y : { w' : World // L w' }, y.1.cell? ⟨xx, 0, none⟩ = some (.slice (some ⟨gg, oo, none⟩) n cap') := fun y => ((hL _).1 y.2).1
              have hY2 : ∀ x : { w' : World // L w' }, x.1.cell? ⟨gg, oo + p, none⟩ = some (.pointer (some ⟨y, 0, none⟩)) := fun x => ((hL _).1 x.2).2
              have hLk : ∀ w', Ch [] wr w' → L w' := fun w' hc => (hL _).2 (hfd w' S st (h2.still hc))
              have HLk := Lib.hid hLk
              clear hL hLk hfd hA1 hA2 hcap hA hl1 hl2 h1 h2 h3 h4 h5 h6 h7
              go_upto_region 38 with fail
              obtain ⟨W9, hW9⟩ : ∃ W9, wr.drewN 1 = W9 := ⟨_, rfl⟩
              have cd : Ch [] wr W9 := by rw [← hW9]; exact (Ch.refl [] wr).drewN 1
              have hS0 := HLk.out _ cd
              have hSA : Nonempty { w' : World // L w' } := ⟨⟨_, hS0⟩⟩
              refine wp_region_plan (Cls L) (List.range 13) (.reads [0, 1, 3, 4, 5, 6, 7, 8, 9] (.only 2 (.only 10 (.only 11 (.reads [12] .done))))) (by kernel_rfl) (by kernel_rfl) (fun _ _ _ _ _ h => h) ?_
              simp only [Plan.pures, Plan.reads, Plan.only, List.foldr_cons, List.foldr_nil]
              rw [hW9]
              clear hW9
              iterate 9 (refine wpPlan_readS hS0 (fun K hK => ?_); simp only [List.getD_cons_zero, List.getD_cons_succ]; go_simp; refine hK _ ?_; clear hK K)
              refine wpPlan_only (fun K hK => ?_)
              simp only [List.getD_cons_zero, List.getD_cons_succ]
              go_simp
              refine (HA1.out W9 cd).mono ?_; rintro e w3 ⟨v3, rfl, o3, c3⟩
              obtain ⟨a3, k3, rfl, _, _, r3⟩ := o3.form
              have cc3 := cd.trans c3
              refine hK _ _ (fun _ => Cls.mk (HLk.out _ cc3)) ?_
              clear hK K hS0 o3 c3
              refine wpPlan_only (fun K hK => ?_)
              simp only [List.getD_cons_zero, List.getD_cons_succ]
              go_simp
              refine (HA2.out w3 cc3).mono ?_; rintro e w4 ⟨v4, rfl, o4, c4⟩
              obtain ⟨a4, k4, rfl, _, _, r4⟩ := o4.form
              have cc4 := cc3.trans c4
              refine hK _ _ (fun _ => Cls.mk (HLk.out _ cc4)) ?_
              have hI := ints_same a3 a4 A k3 k4 w4 (r3.keep c4 (by simp)) r4 hAl
              clear hK K o4 c4 r3 r4 HA1 HA2
              refine wpPlan_only (fun K hK => ?_)
              simp only [List.getD_cons_zero, List.getD_cons_succ]
              go_simp
              refine hI.mono ?_; rintro e w5 ⟨rfl, nq, hw5⟩
              have cc5 : Ch [] wr w5 := by rw [hw5]; exact cc4.trans ((Ch.refl [] w4).drewN nq)
              have hl5 := HLk.out _ cc5
              refine hK _ _ (fun _ => Cls.mk hl5) ?_
              clear hK K hI hw5 cc4 cc3 cd
              refine wpPlan_readS hl5 (fun K hK => ?_); simp only [List.getD_cons_zero, List.getD_cons_succ]; go_simp; refine hK _ ?_; clear hK K
              refine wpPlan_done ?_
              have hfin := hT.still cc5
              clear hY1 hY2 hSA hl5 HLk hT
              go_wp2_with fail
              go_roundw
              case rel => exact ⟨p + 1, by go_num, by omega, hfin⟩
              case measure => simp [intOf]; omega
            · obtain rfl : p = n := by omega
              have u1 : decide ((p : Int) < p) = false := decide_eq_false (by omega)
              obtain ⟨aq, cq, hbq, hLq⟩ := h2.top
              have hcl := HCOM.out
              have hC := fun W hc => sdCommon (h1.still (w2 := W) hc) hcl
              have hN1 := fun W hc => sdLocalNo (-1) (h1.still (w2 := W) hc) (decide_eq_false (by omega))
              have hN2 := fun W hc => sdLocalNo (p : Int) (h1.still (w2 := W) hc) (decide_eq_false (by omega))
              obtain ⟨X, hX⟩ : ∃ X, st.com = X := ⟨_, rfl⟩
              rw [hX] at hbq hLq hcl hC
              obtain ⟨m, hm'⟩ : ∃ m, X.length = m := ⟨_, rfl⟩
              have hXl : X.length ≤ maxLen := by unfold maxLen; omega
              have HI := fun (a3 : Option Addr) (k3 : Nat) (w4 : World) (r3 : Rd w4 a3 X) (hc : Ch [] wr w4) => ints_same a3 aq X k3 cq w4 r3 (hLq.rd.keep hc (by simp)) hXl
              rw [hm'] at hbq HI
              have HM := Lib.hid hm'
              have HC := Lib.hid hC
              have HN1 := Lib.hid hN1
              have HN2 := Lib.hid hN2
              have HI := Lib.hid HI
              obtain ⟨L, hL⟩ : ∃ L : World → Prop, ∀ w', L w' ↔ w'.cell? ⟨xx, 1, none⟩ = some (.slice aq m cq) := ⟨_, fun _ => Iff.rfl⟩
              have hY1 : ∀ y : { w' : World // L w' }, y.1.cell? ⟨xx, 1, none⟩ = some (.slice aq m cq) := fun y => (hL _).1 y.2
              have hLk : ∀ w', Ch [] wr w' → L w' := fun w' hc => (hL _).2 ((hbq.keep hc (by simp)).cell 1)
              have HLk := Lib.hid hLk
              clear hL hLk hcl hC hN1 hN2 hX hm' hXl hbq hLq h1 h2 h3 h4 h5 h6 h7
              go_upto_region 40 with fail
              obtain ⟨W9, hW9⟩ : ∃ W9, wr.drewN 1 = W9 := ⟨_, rfl⟩
              have cd : Ch [] wr W9 := by rw [← hW9]; exact (Ch.refl [] wr).drewN 1
              have hS0 := HLk.out _ cd
              have hSA : Nonempty { w' : World // L w' } := ⟨⟨_, hS0⟩⟩
              refine wp_region_plan (Cls L) (List.range 25) (.only 0 (.reads [1, 2, 4, 5, 6, 7, 8] (.only 3 (.only 9 (.reads [10, 11, 12] (.only 13 (.reads [14, 15, 16, 17, 18, 19] (.only 20 (.reads [21, 22, 23, 24] .done))))))))) (by kernel_rfl) (by kernel_rfl) (fun _ _ _ _ _ h => h) ?_
              simp only [Plan.pures, Plan.reads, Plan.only, List.foldr_cons, List.foldr_nil]
              rw [hW9]
              clear hW9
              refine wpPlan_only (fun K hK => ?_)
              simp only [List.getD_cons_zero, List.getD_cons_succ]
              go_simp
              refine (told27 W9).mono ?_; rintro e w2 ⟨rfl, c2⟩
              have cc2 := cd.trans c2
              have hl2 := HLk.out _ cc2
              refine hK _ _ (fun _ => Cls.mk hl2) ?_
              clear hK K hS0 c2 cd
              iterate 7 (refine wpPlan_readS hl2 (fun K hK => ?_); simp only [List.getD_cons_zero, List.getD_cons_succ]; go_simp; refine hK _ ?_; clear hK K)
              refine wpPlan_only (fun K hK => ?_)
              simp only [List.getD_cons_zero, List.getD_cons_succ]
              go_simp
              refine (HC.out w2 cc2).mono ?_; rintro e w3 ⟨v3, rfl, o3, c3⟩
              obtain ⟨a3, k3, ev3, _, _, _, r3⟩ := o3.rd
              rw [HM.out] at ev3
              subst ev3
              have cc3 := cc2.trans c3
              refine hK _ _ (fun _ => Cls.mk (HLk.out _ cc3)) ?_
              have hI := HI.out a3 k3 w3 r3 cc3
              clear hK K hl2 o3 c3 cc2 r3 HI HC
              refine wpPlan_only (fun K hK => ?_)
              simp only [List.getD_cons_zero, List.getD_cons_succ]
              go_simp
              refine hI.mono ?_; rintro e w4 ⟨rfl, nq, hw4⟩
              have cc4 : Ch [] wr w4 := by rw [hw4]; exact cc3.trans ((Ch.refl [] w3).drewN nq)
              have hl4 := HLk.out _ cc4
              refine hK _ _ (fun _ => Cls.mk hl4) ?_
              clear hK K hI hw4 cc3
              iterate 3 (refine wpPlan_readS hl4 (fun K hK => ?_); simp only [List.getD_cons_zero, List.getD_cons_succ]; go_simp; refine hK _ ?_; clear hK K)
              refine wpPlan_only (fun K hK => ?_)
              simp only [List.getD_cons_zero, List.getD_cons_succ]
              go_simp
              refine (HN1.out w4 cc4).mono ?_; rintro e w5 ⟨rfl, rfl⟩
              refine hK _ _ (fun _ => Cls.mk hl4) ?_
              clear hK K HN1
              iterate 6 (refine wpPlan_readS hl4 (fun K hK => ?_); simp only [List.getD_cons_zero, List.getD_cons_succ]; go_simp; refine hK _ ?_; clear hK K)
              refine wpPlan_only (fun K hK => ?_)
              simp only [List.getD_cons_zero, List.getD_cons_succ]
              go_simp
              refine (HN2.out w5 cc4).mono ?_; rintro e w6 ⟨rfl, rfl⟩
              refine hK _ _ (fun _ => Cls.mk hl4) ?_
              clear hK K HN2
              iterate 4 (refine wpPlan_readS hl4 (fun K hK => ?_); simp only [List.getD_cons_zero, List.getD_cons_succ]; go_simp; refine hK _ ?_; clear hK K)
              refine wpPlan_done ?_
              have hend := (hT.still cc4).ch.below (Nat.le_refl _) (by simp)
              clear hY1 hSA hl4 HLk hT cc4
              go_wp2_with fail
              go_ret
              exact ⟨rfl, hend⟩
      · have t1 : decide ((i : Int) < len) = false := decide_eq_false (by omega)
        have hcom : st.com.length ≤ 80000 := by have := com_tot st n; omega
        have HCOM := Lib.hid hcom
        clear hcom
        go_wp2_with fail
        go_loopw [20] (fun s20 wy => ∃ p : Nat, s20 = .int .i64 p ∧ p ≤ n ∧ Two w wy S s xx n st st) (fun s20 _ => n - (intOf s20).toNat)
        case atStart => exact ⟨0, rfl, by omega, hT⟩
        case round =>
          clear hT
          obtain ⟨p, rfl, hpn, hT⟩ := hrel
          obtain ⟨D, vs, Y, h1, h2, h3, h4, h5, h6, h7⟩ := id hT
          by_cases hlt2 : p < n
          · have u1 : decide ((p : Int) < n) = true := decide_eq_true (by omega)
            have u2 : (p : Int) < n := by omega
            have u3 : (0 : Int) ≤ p := by omega
            obtain ⟨y, hy⟩ : ∃ y, Y[p]? = some y := ⟨_, List.getElem?_eq_getElem (by omega)⟩
            obtain ⟨gg, oo, cap', rfl, hcap, hfd⟩ := h2.cells hy
            rw [h3] at hfd h2
            have hl1 := allS_len st p
            have hl2 := h7 p
            have hA1 := fun W hc => sdLocal (h1.still (w2 := W) hc) hlt2
            have hA2 := fun W hc => allRefS (h2.still (w2 := W) hc) hy hl2
            obtain ⟨A, hA⟩ : ∃ A, allS st p = A := ⟨_, rfl⟩
            rw [hA] at hl1 hA1 hA2
            have hAl : A.length ≤ maxLen := by unfold maxLen; omega
            have HA1 := Lib.hid hA1
            have HA2 := Lib.hid hA2
            obtain ⟨L, hL⟩ : ∃ L : World → Prop, ∀ w', L w' ↔ (w'.cell? ⟨xx, 0, none⟩ = some (.slice (some ⟨gg, oo, none⟩) n cap') ∧ w'.cell? ⟨gg, oo + p, none⟩ = some (.pointer (some ⟨y, 0, none⟩))) := ⟨_, fun _ => Iff.rfl⟩
            have hY1 : ∀ y : { w' : World // L w' }, y.1.cell? ⟨xx, 0, none⟩ = some (.slice (some ⟨gg, oo, none⟩) n cap') := fun y => ((hL _).1 y.2).1
            have hY2 : ∀ x : { w' : World // L w' }, x.1.cell? ⟨gg, oo + p, none⟩ = some (.pointer (some ⟨y, 0, none⟩)) := fun x => ((hL _).1 x.2).2
            have hLk : ∀ w', Ch [] wr w' → L w' := fun w' hc => (hL _).2 (hfd w' S st (h2.still hc))
            have HLk := Lib.hid hLk
            clear hL hLk hfd hA1 hA2 hcap hA hl1 hl2 h1 h2 h3 h4 h5 h6 h7
            go_upto_region 38 with fail
            obtain ⟨W9, hW9⟩ : ∃ W9, wr.drewN 1 = W9 := ⟨_, rfl⟩
            have cd : Ch [] wr W9 := by rw [← hW9]; exact (Ch.refl [] wr).drewN 1
            have hS0 := HLk.out _ cd
            have hSA : Nonempty { w' : World // L w' } := ⟨⟨_, hS0⟩⟩
            refine wp_region_plan (Cls L) (List.range 13) (.reads [0, 1, 3, 4, 5, 6, 7, 8, 9] (.only 2 (.only 10 (.only 11 (.reads [12] .done))))) (by kernel_rfl) (by kernel_rfl) (fun _ _ _ _ _ h => h) ?_
            simp only [Plan.pures, Plan.reads, Plan.only, List.foldr_cons, List.foldr_nil]
            rw [hW9]
            clear hW9
            iterate 9 (refine wpPlan_readS hS0 (fun K hK => ?_); simp only [List.getD_cons_zero, List.getD_cons_succ]; go_simp; refine hK _ ?_; clear hK K)
            refine wpPlan_only (fun K hK => ?_)
            simp only [List.getD_cons_zero, List.getD_cons_succ]
            go_simp
            refine (HA1.out W9 cd).mono ?_; rintro e w3 ⟨v3, rfl, o3, c3⟩
            obtain ⟨a3, k3, rfl, _, _, r3⟩ := o3.form
            have cc3 := cd.trans c3
            refine hK _ _ (fun _ => Cls.mk (HLk.out _ cc3)) ?_
            clear hK K hS0 o3 c3
            refine wpPlan_only (fun K hK => ?_)
            simp only [List.getD_cons_zero, List.getD_cons_succ]
            go_simp
            refine (HA2.out w3 cc3).mono ?_; rintro e w4 ⟨v4, rfl, o4, c4⟩
            obtain ⟨a4, k4, rfl, _, _, r4⟩ := o4.form
            have cc4 := cc3.trans c4
            refine hK _ _ (fun _ => Cls.mk (HLk.out _ cc4)) ?_
            have hI := ints_same a3 a4 A k3 k4 w4 (r3.keep c4 (by simp)) r4 hAl
            clear hK K o4 c4 r3 r4 HA1 HA2
            refine wpPlan_only (fun K hK => ?_)
            simp only [List.getD_cons_zero, List.getD_cons_succ]
            go_simp
            refine hI.mono ?_; rintro e w5 ⟨rfl, nq, hw5⟩
            have cc5 : Ch [] wr w5 := by rw [hw5]; exact cc4.trans ((Ch.refl [] w4).drewN nq)
            have hl5 := HLk.out _ cc5
            refine hK _ _ (fun _ => Cls.mk hl5) ?_
            clear hK K hI hw5 cc4 cc3 cd
            refine wpPlan_readS hl5 (fun K hK => ?_); simp only [List.getD_cons_zero, List.getD_cons_succ]; go_simp; refine hK _ ?_; clear hK K
            refine wpPlan_done ?_
            have hfin := hT.still cc5
            clear hY1 hY2 hSA hl5 HLk hT
            go_wp2_with fail
            go_roundw
            case rel => exact ⟨p + 1, by go_num, by omega, hfin⟩
            case measure => simp [intOf]; omega
          · obtain rfl : p = n := by omega
            have u1 : decide ((p : Int) < p) = false := decide_eq_false (by omega)
            obtain ⟨aq, cq, hbq, hLq⟩ := h2.top
            have hcl := HCOM.out
            have hC := fun W hc => sdCommon (h1.still (w2 := W) hc) hcl
            have hN1 := fun W hc => sdLocalNo (-1) (h1.still (w2 := W) hc) (decide_eq_false (by omega))
            have hN2 := fun W hc => sdLocalNo (p : Int) (h1.still (w2 := W) hc) (decide_eq_false (by omega))
            obtain ⟨X, hX⟩ : ∃ X, st.com = X := ⟨_, rfl⟩
            rw [hX] at hbq hLq hcl hC
            obtain ⟨m, hm'⟩ : ∃ m, X.length = m := ⟨_, rfl⟩
            have hXl : X.length ≤ maxLen := by unfold maxLen; omega
            have HI := fun (a3 : Option Addr) (k3 : Nat) (w4 : World) (r3 : Rd w4 a3 X) (hc : Ch [] wr w4) => ints_same a3 aq X k3 cq w4 r3 (hLq.rd.keep hc (by simp)) hXl
            rw [hm'] at hbq HI
            have HM := Lib.hid hm'
            have HC := Lib.hid hC
            have HN1 := Lib.hid hN1
            have HN2 := Lib.hid hN2
            have HI := Lib.hid HI
            obtain ⟨L, hL⟩ : ∃ L : World → Prop, ∀ w', L w' ↔ w'.cell? ⟨xx, 1, none⟩ = some (.slice aq m cq) := ⟨_, fun _ => Iff.rfl⟩
            have hY1 : ∀ y : { w' : World // L w' }, y.1.cell? ⟨xx, 1, none⟩ = some (.slice aq m cq) := fun y => (hL _).1 y.2
            have hLk : ∀ w', Ch [] wr w' → L w' := fun w' hc => (hL _).2 ((hbq.keep hc (by simp)).cell 1)
            have HLk := Lib.hid hLk
            clear hL hLk hcl hC hN1 hN2 hX hm' hXl hbq hLq h1 h2 h3 h4 h5 h6 h7
            go_upto_region 40 with fail
            obtain ⟨W9, hW9⟩ : ∃ W9, wr.drewN 1 = W9 := ⟨_, rfl⟩
            have cd : Ch [] wr W9 := by rw [← hW9]; exact (Ch.refl [] wr).drewN 1
            have hS0 := HLk.out _ cd
            have hSA : Nonempty { w' : World // L w' } := ⟨⟨_, hS0⟩⟩
            refine wp_region_plan (Cls L) (List.range 25) (.only 0 (.reads [1, 2, 4, 5, 6, 7, 8] (.only 3 (.only 9 (.reads [10, 11, 12] (.only 13 (.reads [14, 15, 16, 17, 18, 19] (.only 20 (.reads [21, 22, 23, 24] .done))))))))) (by kernel_rfl) (by kernel_rfl) (fun _ _ _ _ _ h => h) ?_
            simp only [Plan.pures, Plan.reads, Plan.only, List.foldr_cons, List.foldr_nil]
            rw [hW9]
            clear hW9
            refine wpPlan_only (fun K hK => ?_)
            simp only [List.getD_cons_zero, List.getD_cons_succ]
            go_simp
            refine (told27 W9).mono ?_; rintro e w2 ⟨rfl, c2⟩
            have cc2 := cd.trans c2
            have hl2 := HLk.out _ cc2
            refine hK _ _ (fun _ => Cls.mk hl2) ?_
            clear hK K hS0 c2 cd
            iterate 7 (refine wpPlan_readS hl2 (fun K hK => ?_); simp only [List.getD_cons_zero, List.getD_cons_succ]; go_simp; refine hK _ ?_; clear hK K)
            refine wpPlan_only (fun K hK => ?_)
            simp only [List.getD_cons_zero, List.getD_cons_succ]
            go_simp
            refine (HC.out w2 cc2).mono ?_; rintro e w3 ⟨v3, rfl, o3, c3⟩
            obtain ⟨a3, k3, ev3, _, _, _, r3⟩ := o3.rd
            rw [HM.out] at ev3
            subst ev3
            have cc3 := cc2.trans c3
            refine hK _ _ (fun _ => Cls.mk (HLk.out _ cc3)) ?_
            have hI := HI.out a3 k3 w3 r3 cc3
            clear hK K hl2 o3 c3 cc2 r3 HI HC
            refine wpPlan_only (fun K hK => ?_)
            simp only [List.getD_cons_zero, List.getD_cons_succ]
            go_simp
            refine hI.mono ?_; rintro e w4 ⟨rfl, nq, hw4⟩
            have cc4 : Ch [] wr w4 := by rw [hw4]; exact cc3.trans ((Ch.refl [] w3).drewN nq)
            have hl4 := HLk.out _ cc4
            refine hK _ _ (fun _ => Cls.mk hl4) ?_
            clear hK K hI hw4 cc3
            iterate 3 (refine wpPlan_readS hl4 (fun K hK => ?_); simp only [List.getD_cons_zero, List.getD_cons_succ]; go_simp; refine hK _ ?_; clear hK K)
            refine wpPlan_only (fun K hK => ?_)
            simp only [List.getD_cons_zero, List.getD_cons_succ]
            go_simp
            refine (HN1.out w4 cc4).mono ?_; rintro e w5 ⟨rfl, rfl⟩
            refine hK _ _ (fun _ => Cls.mk hl4) ?_
            clear hK K HN1
            iterate 6 (refine wpPlan_readS hl4 (fun K hK => ?_); simp only [List.getD_cons_zero, List.getD_cons_succ]; go_simp; refine hK _ ?_; clear hK K)
            refine wpPlan_only (fun K hK => ?_)
            simp only [List.getD_cons_zero, List.getD_cons_succ]
            go_simp
            refine (HN2.out w5 cc4).mono ?_; rintro e w6 ⟨rfl, rfl⟩
            refine hK _ _ (fun _ => Cls.mk hl4) ?_
            clear hK K HN2
            iterate 4 (refine wpPlan_readS hl4 (fun K hK => ?_); simp only [List.getD_cons_zero, List.getD_cons_succ]; go_simp; refine hK _ ?_; clear hK K)
            refine wpPlan_done ?_
            have hend := (hT.still cc4).ch.below (Nat.le_refl _) (by simp)
            clear hY1 hSA hl4 HLk hT cc4
            go_wp2_with fail
            go_ret
            exact ⟨rfl, hend⟩
end Go.Proofs.Yteghenfdncgpeaa
