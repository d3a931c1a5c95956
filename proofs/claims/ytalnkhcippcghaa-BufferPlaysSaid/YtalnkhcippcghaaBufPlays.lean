/-
  The walk of the statement BufferPlays: the law returns true at every input. Conditions: none beyond how the argument is read.
-/
import Derived.Test.YtalnkhcippcghaaBufSt
import Derived.Test.YtalnkhcippcghaaArgs
import Derived.Deep.CutBlock
import Derived.Deep.LoopGhost
import Derived.Says
namespace Go.Proofs.Ytalnkhcippcghaa
open Go.RowKit
/-- How the law brings an op's kind into its range. -/
theorem kind_eq (x : Int) (n : Nat) (hn : 0 < n) (hl : n < 1000) : ∃ j : Nat, (wrap64 (x.tmod n + n)).tmod n = (j : Int) ∧ j < n := by
  have h1 := Int.tmod_lt_of_pos x (show (0 : Int) < n by omega)
  have h2 : (x.tmod n).natAbs < n := by
    rw [Int.natAbs_tmod]
    exact Nat.mod_lt _ (by simpa using hn)
  have h3 : wrap64 (x.tmod n + n) = x.tmod n + n := IntWalk.wrap64_in _ (by omega)
  rw [h3, Int.tmod_eq_emod_of_nonneg (by omega)]
  have h4 := Int.emod_nonneg (x.tmod n + n) (show (n : Int) ≠ 0 by omega)
  have h5 := Int.emod_lt_of_pos (x.tmod n + n) (show (0 : Int) < n by omega)
  exact ⟨((x.tmod n + n) % n).toNat, by omega, by omega⟩
set_option maxRecDepth 100000 in
set_option maxHeartbeats 40000000 in
theorem plays_walk (a : Option Addr) (len cap : Nat) (F : Nat → Nat → Value) (w : World) (hr : RdS w a len 2 F) (ht : ∀ i, i < len → (∃ x, F i 0 = .int .i64 x) ∧ (∃ x, F i 1 = .int .i64 x)) (hm : len ≤ maxLen) :
    Calls Try.prog 3 #[.slice a len cap] w fun e w' => e = .returned (.bool true) ∧ Below w.heap.size w w' := by
  unfold maxLen at hm
  go_enter Try.func3, Try.ntmps3
  go_wp2_with fail
  refine (bufNew _).mono ?_; rintro e w1 ⟨rfl, h1, c1⟩
  obtain ⟨b, hb⟩ : ∃ b, w.heap.size = b := ⟨_, rfl⟩
  have hbS := h1.lt
  rw [hb] at h1 hbS ⊢
  go_wp2_with fail
  refine (bufNew _).mono ?_; rintro e w2 ⟨rfl, h2, c2⟩
  obtain ⟨o, ho⟩ : ∃ o, w1.heap.size = o := ⟨_, rfl⟩
  have hoS := h2.lt
  rw [ho] at h2 hoS ⊢
  have hbo : b < o := by omega
  have h1' := h1.keep c2 (by simp)
  have c12 := c1.trans c2
  clear ho c1 c2 h1 hbS
  have HB := Lib.hid hb
  clear hb
  go_upto_region 5 with fail
  obtain ⟨W, hW⟩ : ∃ W, (w2.alloc (.cells #[.slice none 0 0] 28)).alloc (.cells #[.slice none 0 0] 28) = W := ⟨_, rfl⟩
  obtain ⟨r, hrr⟩ : ∃ r, w2.heap.size = r := ⟨_, rfl⟩
  obtain ⟨s, hs⟩ : ∃ s, r + 1 = s := ⟨_, rfl⟩
  have hst : St w W [b, o, r, s] b o r s [] [] := by
    have q1 : RefL 28 W r [] [b, o, r, s] := by
      rw [← hW, ← hrr]
      exact (RefL.new _ w2 [b, o, w2.heap.size, s]).keep ((Ch.refl [] _).alloc _) (by simp) (by simp)
    have q2 : RefL 28 W s [] [b, o, r, s] := by
      have := RefL.new 28 (w2.alloc (.cells #[.slice none 0 0] 28)) [b, o, r, s]
      rw [hW] at this
      rw [show (w2.alloc (.cells #[.slice none 0 0] 28)).heap.size = s by rw [← hs, ← hrr]; simp] at this
      exact this
    have hcW : Ch [] w2 W := by rw [← hW]; exact ((Ch.refl [] w2).alloc _).alloc _
    have hsz := q2.lt
    have hB := HB.out
    refine ⟨h1'.keep hcW (by simp), h2.keep hcW (by simp), q1, q2, c12.trans hcW, by simp, by simp, by simp, by simp, ?_, ?_, by omega, by omega, by omega, by omega, by omega, by omega⟩
    · intro k hk; simp at hk; rcases hk with rfl | rfl | rfl | rfl <;> omega
    · intro k hk; simp at hk; rcases hk with rfl | rfl | rfl | rfl <;> omega
  rw [hrr, hs, hW]
  obtain ⟨S, hS⟩ : ∃ S, [b, o, r, s] = S := ⟨_, rfl⟩
  rw [hS] at hst
  clear hW hrr hs h1' h2 c12 hbo hoS HB hS
  go_wp2_with fail
  go_loopg [3, 4, 5, 6, 7] 60 (fun g s3 s4 s5 s6 s7 wr => ∃ (i b o r s : Nat) (X Y : List Int), s3 = .pointer (some ⟨b, 0, none⟩) ∧ s4 = .pointer (some ⟨o, 0, none⟩) ∧ s5 = .pointer (some ⟨r, 0, none⟩) ∧ s6 = .pointer (some ⟨s, 0, none⟩) ∧ s7 = .int .i64 i ∧ i + g = 60 ∧ i ≤ len ∧ St w wr S b o r s X Y)
  case atStart => exact ⟨0, b, o, r, s, [], [], rfl, rfl, rfl, rfl, rfl, rfl, by omega, hst⟩
  case round =>
    clear hst
    obtain ⟨i, b, o, r, s, X, Y, rfl, rfl, rfl, rfl, rfl, hig, hil, hst⟩ := hrel
    by_cases hlt : i < len
    · by_cases h60 : i < 60
      · have t1 : decide ((i : Int) < len) = true := decide_eq_true (by omega)
        have t2 : decide ((i : Int) < 60) = true := decide_eq_true (by omega)
        obtain ⟨⟨x, hx⟩, ⟨v, hv⟩⟩ := ht i hlt
        obtain ⟨ba, oa, rfl, hcell⟩ := (hr.keep (by decide) hst.ch (by simp)).at hlt
        have d0 := hcell i hlt 0 (by decide)
        have d1 := hcell i hlt 1 (by decide)
        rw [hx] at d0
        rw [hv] at d1
        simp only [Nat.add_zero] at d0
        clear hcell hx hv
        go_upto_region 9 with fail
        obtain ⟨W1, hW1⟩ : ∃ W1, wr.alloc (.cells #[.int .i64 x, .int .i64 v] 30) = W1 := ⟨_, rfl⟩
        obtain ⟨q, hq⟩ : ∃ q, wr.heap.size = q := ⟨_, rfl⟩
        have bq : Blk W1 q #[.int .i64 x, .int .i64 v] 30 := by rw [← hW1, ← hq]; exact Blk.new _ _ _
        have hst1 : St w W1 S b o r s X Y := hst.keep (by rw [← hW1]; exact (Ch.refl [] wr).alloc _)
        have hqS : ∀ k ∈ S, k ≠ q := fun k hk => by have := hst.hi k hk; omega
        have e0 := bq.cell 0
        have e1 := bq.cell 1
        rw [hW1, hq]
        obtain ⟨j, hj, hjl⟩ := kind_eq x 7 (by decide) (by decide)
        replace hj : (wrap64 (x.tmod 7 + 7)).tmod 7 = (j : Int) := hj
        clear hW1 hq hst d0 d1
        go_upto_block 2 with fail
        go_cut [3, 4, 5, 6, 9, 45] (fun s3 s4 s5 s6 s9 s45 wx => ∃ (b' o' r' s' : Nat) (X' Y' : List Int), s3 = .pointer (some ⟨b', 0, none⟩) ∧ s4 = .pointer (some ⟨o', 0, none⟩) ∧ s5 = .pointer (some ⟨r', 0, none⟩) ∧ s6 = .pointer (some ⟨s', 0, none⟩) ∧ s9 = .bool true ∧ St w wx S b' o' r' s' X' Y')
        case first =>
          obtain ⟨J, hJ⟩ : ∃ J : Int, (j : Int) = J := ⟨_, rfl⟩
          try rw [hj]
          rw [hJ]
          have hJ0 : 0 ≤ J ∧ J < 7 := by omega
          clear hj hJ hjl
          by_cases j0 : J < 3
          · have hST : St w (W1.drewN 1) S b o r s X Y := hst1.keep ((Ch.refl [] W1).drewN 1)
            have e1' : (W1.drewN 1).cell? ⟨q, 1, none⟩ = some (.int .i64 v) := e1
            obtain ⟨P, hP⟩ : ∃ P, putB X = P := ⟨_, rfl⟩
            have pp : (P == P) = true := beq_self_eq_true P
            have hXl := hst1.pb.le
            have c1 := bufPutAny b X v _ hST.pb
            rw [hP] at c1
            have C1 := Lib.hid c1
            have HP := Lib.hid hP
            have hbq : q ∉ [b] := by simp; exact (hqS b hst1.bS).symm
            have hrq : q ∉ [r] := by simp; exact (hqS r hst1.rS).symm
            have hbr1 := hst1.br
            have hJ3 : J = 0 ∨ J = 1 ∨ J = 2 := by omega
            clear c1 hP t1 t2 hJ0
            obtain ⟨L, hL⟩ : ∃ L : World → Prop, ∀ w', L w' ↔ (w'.cell? ⟨q, 1, none⟩ = some (.int .i64 v)) := ⟨_, fun _ => Iff.rfl⟩
            have hS0 : L (W1.drewN 1) := (hL _).2 e1'
            have hS1 : ∀ x : { w' : World // L w' }, x.1.cell? ⟨q, 1, none⟩ = some (.int .i64 v) := fun x => (hL _).1 x.2
            have hSA : Nonempty { w' : World // L w' } := ⟨⟨_, hS0⟩⟩
            have HL := Lib.hid hL
            clear hL
            rcases hJ3 with rfl | rfl | rfl
            all_goals
              go_upto_region 18 with fail
              refine wp_region_plan (Cls L) (List.range 10) (.reads [0, 1, 2, 4, 5, 6] (.only 3 (.only 7 (.reads [8, 9] .done)))) (by kernel_rfl) (by kernel_rfl) (fun _ _ _ _ _ h => h) ?_
              simp only [Plan.reads, Plan.only, List.foldr_cons, List.foldr_nil]
              iterate 6 (refine wpPlan_readS hS0 (fun K hK => ?_); simp only [List.getD_cons_zero, List.getD_cons_succ]; go_simp; refine hK _ ?_; clear hK K)
              refine wpPlan_onlyU rfl (fun K hK => ?_)
              simp only [List.getD_cons_zero, List.getD_cons_succ]
              go_simp
              refine C1.out.mono ?_; rintro e w3 ⟨rfl, p3, c3⟩
              have bq3 := (bq.drewN 1).keep c3 hbq
              have hl3 : L w3 := (HL.out _).2 (bq3.cell 1)
              refine hK _ _ (fun _ => Cls.mk hl3) ?_
              clear hK K
              have r3 := refPutAny r X v S w3 (hST.rr.keep c3 (by simp; exact hbr1.symm) (by simp; exact hst1.bS)) (fun k hk => Nat.lt_of_lt_of_le (hST.hi k hk) c3.size) hXl
              rw [HP.out] at r3
              refine wpPlan_onlyU rfl (fun K hK => ?_)
              simp only [List.getD_cons_zero, List.getD_cons_succ]
              go_simp
              refine r3.mono ?_; rintro e w4 ⟨rfl, p4, c4⟩
              have hl4 : L w4 := (HL.out _).2 ((bq3.keep c4 hrq).cell 1)
              refine hK _ _ (fun _ => Cls.mk hl4) ?_
              clear hK K
              iterate 2 (refine wpPlan_readS hl4 (fun K hK => ?_); simp only [List.getD_cons_zero, List.getD_cons_succ]; go_simp; refine hK _ ?_; clear hK K)
              refine wpPlan_done ?_
              clear hS0 hS1 hSA hl3 hl4
              go_wp2_with fail
              go_meet
              exact ⟨b, o, r, s, putL X v, Y, rfl, rfl, rfl, rfl, rfl, hST.one (p3.keep c4 (by simp; exact hbr1)) p4 ((c3.mono (by simp)).trans (c4.mono (by simp)))⟩
          · by_cases j3 : J = 3
            · subst j3
              clear hJ0 j0 t1 t2 e0 e1
              rcases List.eq_nil_or_concat X with hX | ⟨Z, u, hX⟩
              · subst hX
                have g1 := bufGetEmpty b _ hst1.pb
                have g2 := refGetEmpty r S _ hst1.rr
                go_wp2_with fail
                refine g1.mono ?_; rintro e w3 ⟨rfl, rfl⟩
                go_wp2_with fail
                refine g2.mono ?_; rintro e w4 ⟨rfl, rfl⟩
                go_wp2_with fail
                go_meet
                exact ⟨b, o, r, s, [], Y, rfl, rfl, rfl, rfl, rfl, hst1⟩
              · rw [List.concat_eq_append] at hX
                subst hX
                have hZ : Z.length ≤ 100000 := by have := hst1.pb.le; simp at this; omega
                have g1 := bufGet b Z u _ hst1.pb
                have uu : (u == u) = true := beq_self_eq_true u
                go_wp2_with fail
                refine g1.mono ?_; rintro e w3 ⟨rfl, p3, c3⟩
                have g2 := refGet r Z u S w3 (hst1.rr.keep c3 (by simp; exact hst1.br.symm) (by simp; exact hst1.bS)) hst1.rS hZ
                clear g1
                go_wp2_with fail
                refine g2.mono ?_; rintro e w4 ⟨rfl, p4, c4⟩
                clear g2
                go_wp2_with fail
                go_meet
                exact ⟨b, o, r, s, Z, Y, rfl, rfl, rfl, rfl, rfl, hst1.one (p3.keep c4 (by simp; exact hst1.br)) p4 ((c3.mono (by simp)).trans (c4.mono (by simp)))⟩
            · by_cases j4 : J = 4
              · subst j4
                clear hJ0 j0 t1 t2 e0 e1 j3
                obtain ⟨N, hN⟩ : ∃ N, halfN X Y = N := ⟨_, rfl⟩
                have nn : ((N : Int) == (N : Int)) = true := beq_self_eq_true _
                have g1 := bufHalfU b o X Y _ hst1.pb hst1.po hst1.bo
                rw [hN] at g1
                have HN := Lib.hid hN
                clear hN
                go_wp2_with fail
                refine g1.mono ?_; rintro e w3 ⟨rfl, p3, p3', c3⟩
                have hcS : Ch S W1 w3 := c3.mono (by simp [hst1.bS, hst1.oS])
                have g2 := refHalfU r s X Y S w3 (hst1.rr.keep c3 (by simp [hst1.br.symm, hst1.or.symm]) (by simp [hst1.bS, hst1.oS])) (hst1.rs.keep c3 (by simp [hst1.bs.symm, hst1.os.symm]) (by simp [hst1.bS, hst1.oS])) (fun k hk => Nat.lt_of_lt_of_le (hst1.hi k hk) c3.size) hst1.rS hst1.sS hst1.rs' hst1.pb.le hst1.po.le
                rw [HN.out] at g2
                clear g1
                go_wp2_with fail
                refine g2.mono ?_; rintro e w4 ⟨rfl, p4, p4', c4⟩
                clear g2
                go_wp2_with fail
                go_meet
                exact ⟨b, o, r, s, _, _, rfl, rfl, rfl, rfl, rfl, hst1.both (p3.keep c4 (by simp [hst1.br, hst1.bs])) (p3'.keep c4 (by simp [hst1.or, hst1.os])) p4 p4' (hcS.trans (c4.mono (by simp [hst1.rS, hst1.sS])))⟩
              · by_cases j5 : J = 5
                · subst j5
                  clear hJ0 j0 t1 t2 e0 e1 j3 j4
                  go_wp2_with fail
                  go_meet
                  exact ⟨o, b, s, r, Y, X, rfl, rfl, rfl, rfl, rfl, hst1.flip⟩
                · obtain rfl : J = 6 := by omega
                  clear hJ0 j0 t1 t2 j3 j4 j5 e0
                  obtain ⟨M, hM, hMl⟩ := umod v 40 (by decide) (by decide)
                  go_wp2_with fail
                  go_loopg [9, 14] M (fun g s9 s14 wx => ∃ (k : Nat) (X' : List Int), s9 = .bool true ∧ s14 = .int .i64 k ∧ k + g = M ∧ St w wx S b o r s X' Y ∧ wx.cell? ⟨q, 1, none⟩ = some (.int .i64 v) ∧ Blk wx q #[.int .i64 x, .int .i64 v] 30)
                  case atStart => exact ⟨0, X, rfl, rfl, by omega, hst1, e1, bq⟩
                  case round =>
                    clear hst1 e1 bq
                    obtain ⟨k, X', rfl, rfl, hkg, hst1, e1, bq⟩ := hrel
                    by_cases hkM : k < M
                    · have t1 : decide ((k : Int) < M) = true := decide_eq_true (by omega)
                      obtain ⟨P, hP⟩ : ∃ P, putB X' = P := ⟨_, rfl⟩
                      have pp : (P == P) = true := beq_self_eq_true P
                      have g1 := bufPutAny b X' ((k : Int) + 1) _ hst1.pb
                      rw [hP] at g1
                      have HP := Lib.hid hP
                      clear hP
                      go_wp2_with fail
                      refine g1.mono ?_; rintro e w3 ⟨rfl, p3, c3⟩
                      have g2 := refPutAny r X' ((k : Int) + 1) S w3 (hst1.rr.keep c3 (by simp; exact hst1.br.symm) (by simp; exact hst1.bS)) (fun k hk => Nat.lt_of_lt_of_le (hst1.hi k hk) c3.size) hst1.pb.le
                      rw [HP.out] at g2
                      clear g1
                      go_wp2_with fail
                      refine g2.mono ?_; rintro e w4 ⟨rfl, p4, c4⟩
                      clear g2
                      have bq4 := (bq.keep c3 (by simp; exact (hqS b hst1.bS).symm)).keep c4 (by simp; exact (hqS r hst1.rS).symm)
                      clear e1
                      go_wp2_with fail
                      go_roundg (gk - 1)
                      case rel => exact ⟨k + 1, putL X' ((k : Int) + 1), rfl, by go_num, by omega, hst1.one (p3.keep c4 (by simp; exact hst1.br)) p4 ((c3.mono (by simp)).trans (c4.mono (by simp))), bq4.cell 1, bq4⟩
                      case measure => omega
                    · obtain rfl : k = M := by omega
                      have t1 : decide ((k : Int) < k) = false := decide_eq_false (by omega)
                      go_wp2_with fail
                      go_meet
                      exact ⟨b, o, r, s, X', Y, rfl, rfl, rfl, rfl, rfl, hst1⟩
        case rest =>
          obtain ⟨b', o', r', s', X', Y', rfl, rfl, rfl, rfl, rfl, hst2⟩ := hcut
          clear hj e0 e1 bq hst1 hqS hjl
          go_upto_region 28 with fail
          obtain ⟨ax, cx, x1, x2, x3, x4, x5⟩ := hst2.rr
          obtain ⟨ay, cy, y1, y2, y3, y4, y5⟩ := hst2.rs
          have hst3 := hst2.keep ((Ch.refl [] wc).drewN 1)
          have lb := bufLen b' _ _ hst3.pb
          have lo := bufLen o' _ _ hst3.po
          obtain ⟨n, hn⟩ : ∃ n, X'.length = n := ⟨_, rfl⟩
          obtain ⟨m, hm'⟩ : ∃ m, Y'.length = m := ⟨_, rfl⟩
          rw [hn] at x1 lb
          rw [hm'] at y1 lo
          have n1 : ((n : Int) != (n : Int)) = false := by simp
          have n2 : ((m : Int) != (m : Int)) = false := by simp
          have LB := Lib.hid lb
          have LO := Lib.hid lo
          clear x2 x3 x4 x5 y2 y3 y4 y5 hn hm' lb lo
          obtain ⟨L, hL⟩ : ∃ L : World → Prop, ∀ w', L w' ↔ (w'.cell? ⟨r', 0, none⟩ = some (.slice ax n cx) ∧ w'.cell? ⟨s', 0, none⟩ = some (.slice ay m cy)) := ⟨_, fun _ => Iff.rfl⟩
          have hS0 : L (wc.drewN 1) := (hL _).2 ⟨x1.cell 0, y1.cell 0⟩
          have hS1 : ∀ x : { w' : World // L w' }, x.1.cell? ⟨r', 0, none⟩ = some (.slice ax n cx) := fun x => ((hL _).1 x.2).1
          have hS2 : ∀ x : { w' : World // L w' }, x.1.cell? ⟨s', 0, none⟩ = some (.slice ay m cy) := fun x => ((hL _).1 x.2).2
          have hSA : Nonempty { w' : World // L w' } := ⟨⟨_, hS0⟩⟩
          clear hL
          refine wp_region_plan (Cls L) (List.range 22) (.reads [0, 1, 2, 3, 5, 6, 7, 8, 9] (.only 4 (.reads [10, 11, 12, 13, 15, 16, 17, 18, 19] (.only 14 (.reads [20, 21] .done))))) (by kernel_rfl) (by kernel_rfl) (fun _ _ _ _ _ h => h) ?_
          simp only [Plan.reads, Plan.only, List.foldr_cons, List.foldr_nil]
          iterate 9 (refine wpPlan_readS hS0 (fun K hK => ?_); simp only [List.getD_cons_zero, List.getD_cons_succ]; go_simp; refine hK _ ?_; clear hK K)
          refine wpPlan_only (fun K hK => ?_)
          simp only [List.getD_cons_zero, List.getD_cons_succ]
          go_simp
          refine LB.out.mono ?_; rintro e w3 ⟨rfl, rfl⟩
          refine hK _ _ (fun _ => Cls.mk hS0) ?_
          clear hK K
          iterate 9 (refine wpPlan_readS hS0 (fun K hK => ?_); simp only [List.getD_cons_zero, List.getD_cons_succ]; go_simp; refine hK _ ?_; clear hK K)
          refine wpPlan_only (fun K hK => ?_)
          simp only [List.getD_cons_zero, List.getD_cons_succ]
          go_simp
          refine LO.out.mono ?_; rintro e w4 ⟨rfl, rfl⟩
          refine hK _ _ (fun _ => Cls.mk hS0) ?_
          clear hK K
          iterate 2 (refine wpPlan_readS hS0 (fun K hK => ?_); simp only [List.getD_cons_zero, List.getD_cons_succ]; go_simp; refine hK _ ?_; clear hK K)
          refine wpPlan_done ?_
          clear hS0 hS1 hS2 hSA n1 n2 LB LO hst2 x1 y1 t1 t2
          go_wp2_with fail
          go_roundg (gk - 1)
          case rel => exact ⟨i + 1, b', o', r', s', X', Y', rfl, rfl, rfl, rfl, by go_num, by omega, by omega, hst3⟩
          case measure => omega
      · have t1 : decide ((i : Int) < len) = true := decide_eq_true (by omega)
        have t2 : decide ((i : Int) < 60) = false := decide_eq_false (by omega)
        go_upto_region 30 with fail
        obtain ⟨ax, cx, x1, x2, x3, x4, x5⟩ := hst.rr
        obtain ⟨ay, cy, y1, y2, y3, y4, y5⟩ := hst.rs
        obtain ⟨n, hn⟩ : ∃ n, X.length = n := ⟨_, rfl⟩
        obtain ⟨m, hm'⟩ : ∃ m, Y.length = m := ⟨_, rfl⟩
        have hXl := hst.pb.le
        have hYl := hst.po.le
        rw [hn] at x1 hXl
        rw [hm'] at y1 hYl
        have HX := Lib.hid hn
        have HY := Lib.hid hm'
        clear x3 x4 x5 y3 y4 y5 hn hm'
        obtain ⟨L, hL⟩ : ∃ L : World → Prop, ∀ w', L w' ↔ (w'.cell? ⟨r, 0, none⟩ = some (.slice ax n cx) ∧ w'.cell? ⟨s, 0, none⟩ = some (.slice ay m cy)) := ⟨_, fun _ => Iff.rfl⟩
        have hS1 : ∀ x : { w' : World // L w' }, x.1.cell? ⟨r, 0, none⟩ = some (.slice ax n cx) := fun x => ((hL _).1 x.2).1
        have hS2 : ∀ x : { w' : World // L w' }, x.1.cell? ⟨s, 0, none⟩ = some (.slice ay m cy) := fun x => ((hL _).1 x.2).2
        have hLk : ∀ w', Ch [] wr w' → L w' := fun w' hc => (hL _).2 ⟨(x1.keep hc (by simp)).cell 0, (y1.keep hc (by simp)).cell 0⟩
        have hSA : Nonempty { w' : World // L w' } := ⟨⟨_, hLk wr (Ch.refl _ _)⟩⟩
        have HLk := Lib.hid hLk
        clear hL hLk
        refine wp_region_plan (Cls L) (List.range 20) (.only 0 (.reads [1, 2, 4, 5, 6, 7] (.only 3 (.only 8 (.reads [9, 10, 11, 13, 14, 15, 16] (.only 12 (.only 17 (.reads [18, 19] .done)))))))) (by kernel_rfl) (by kernel_rfl) (fun _ _ _ _ _ h => h) ?_
        simp only [Plan.reads, Plan.only, List.foldr_cons, List.foldr_nil]
        refine wpPlan_only (fun K hK => ?_)
        simp only [List.getD_cons_zero, List.getD_cons_succ]
        go_simp
        refine (told17 _).mono ?_; rintro e w3 ⟨rfl, c3⟩
        have cc3 : Ch [] wr w3 := ((Ch.refl [] wr).drewN 1).trans c3
        have hl3 := HLk.out _ cc3
        refine hK _ _ (fun _ => Cls.mk hl3) ?_
        clear hK K
        iterate 6 (refine wpPlan_readS hl3 (fun K hK => ?_); simp only [List.getD_cons_zero, List.getD_cons_succ]; go_simp; refine hK _ ?_; clear hK K)
        refine wpPlan_only (fun K hK => ?_)
        simp only [List.getD_cons_zero, List.getD_cons_succ]
        go_simp
        refine (bufAll b X _ (hst.keep cc3).pb).mono ?_; rintro e w4 ⟨v4, rfl, o4, z4, c4⟩
        rw [HX.out] at o4
        obtain ⟨g4, q4, rfl, z41, z42, z43, rd4⟩ := o4.rd
        clear z41 z42 z43 o4
        rw [HX.out]
        have cc4 := cc3.trans c4
        have hl4 := HLk.out _ cc4
        refine hK _ _ (fun _ => Cls.mk hl4) ?_
        clear hK K z4 hl3
        have hI := ints_same g4 ax X q4 cx w4 rd4 (x2.keep cc4 (by simp)) (by rw [HX.out]; unfold maxLen; omega)
        rw [HX.out] at hI
        refine wpPlan_only (fun K hK => ?_)
        simp only [List.getD_cons_zero, List.getD_cons_succ]
        go_simp
        refine hI.mono ?_; rintro e w5 ⟨rfl, nq5, rfl⟩
        have cc5 := cc4.trans ((Ch.refl [] w4).drewN nq5)
        have hl5 := HLk.out _ cc5
        refine hK _ _ (fun _ => Cls.mk hl5) ?_
        clear hK K hI hl4
        iterate 7 (refine wpPlan_readS hl5 (fun K hK => ?_); simp only [List.getD_cons_zero, List.getD_cons_succ]; go_simp; refine hK _ ?_; clear hK K)
        refine wpPlan_only (fun K hK => ?_)
        simp only [List.getD_cons_zero, List.getD_cons_succ]
        go_simp
        refine (bufAll o Y _ (hst.keep cc5).po).mono ?_; rintro e w6 ⟨v6, rfl, o6, z6, c6⟩
        rw [HY.out] at o6
        obtain ⟨g6, q6, rfl, z61, z62, z63, rd6⟩ := o6.rd
        clear z61 z62 z63 o6
        rw [HY.out]
        have cc6 := cc5.trans c6
        have hl6 := HLk.out _ cc6
        refine hK _ _ (fun _ => Cls.mk hl6) ?_
        clear hK K z6 hl5
        have hI := ints_same g6 ay Y q6 cy w6 rd6 (y2.keep cc6 (by simp)) (by rw [HY.out]; unfold maxLen; omega)
        rw [HY.out] at hI
        refine wpPlan_only (fun K hK => ?_)
        simp only [List.getD_cons_zero, List.getD_cons_succ]
        go_simp
        refine hI.mono ?_; rintro e w7 ⟨rfl, nq7, rfl⟩
        have cc7 := cc6.trans ((Ch.refl [] w6).drewN nq7)
        have hl7 := HLk.out _ cc7
        refine hK _ _ (fun _ => Cls.mk hl7) ?_
        clear hK K hI hl6
        iterate 2 (refine wpPlan_readS hl7 (fun K hK => ?_); simp only [List.getD_cons_zero, List.getD_cons_succ]; go_simp; refine hK _ ?_; clear hK K)
        refine wpPlan_done ?_
        have hend := (hst.ch.trans cc7).below (Nat.le_refl _) (by simp)
        clear hl7 hS1 hS2 hSA hst x1 x2 y1 y2
        go_wp2_with fail
        go_ret
        exact ⟨rfl, hend⟩
    · have t1 : decide ((i : Int) < len) = false := decide_eq_false (by omega)
      go_upto_region 30 with fail
      obtain ⟨ax, cx, x1, x2, x3, x4, x5⟩ := hst.rr
      obtain ⟨ay, cy, y1, y2, y3, y4, y5⟩ := hst.rs
      obtain ⟨n, hn⟩ : ∃ n, X.length = n := ⟨_, rfl⟩
      obtain ⟨m, hm'⟩ : ∃ m, Y.length = m := ⟨_, rfl⟩
      have hXl := hst.pb.le
      have hYl := hst.po.le
      rw [hn] at x1 hXl
      rw [hm'] at y1 hYl
      have HX := Lib.hid hn
      have HY := Lib.hid hm'
      clear x3 x4 x5 y3 y4 y5 hn hm'
      obtain ⟨L, hL⟩ : ∃ L : World → Prop, ∀ w', L w' ↔ (w'.cell? ⟨r, 0, none⟩ = some (.slice ax n cx) ∧ w'.cell? ⟨s, 0, none⟩ = some (.slice ay m cy)) := ⟨_, fun _ => Iff.rfl⟩
      have hS1 : ∀ x : { w' : World // L w' }, x.1.cell? ⟨r, 0, none⟩ = some (.slice ax n cx) := fun x => ((hL _).1 x.2).1
      have hS2 : ∀ x : { w' : World // L w' }, x.1.cell? ⟨s, 0, none⟩ = some (.slice ay m cy) := fun x => ((hL _).1 x.2).2
      have hLk : ∀ w', Ch [] wr w' → L w' := fun w' hc => (hL _).2 ⟨(x1.keep hc (by simp)).cell 0, (y1.keep hc (by simp)).cell 0⟩
      have hSA : Nonempty { w' : World // L w' } := ⟨⟨_, hLk wr (Ch.refl _ _)⟩⟩
      have HLk := Lib.hid hLk
      clear hL hLk
      refine wp_region_plan (Cls L) (List.range 20) (.only 0 (.reads [1, 2, 4, 5, 6, 7] (.only 3 (.only 8 (.reads [9, 10, 11, 13, 14, 15, 16] (.only 12 (.only 17 (.reads [18, 19] .done)))))))) (by kernel_rfl) (by kernel_rfl) (fun _ _ _ _ _ h => h) ?_
      simp only [Plan.reads, Plan.only, List.foldr_cons, List.foldr_nil]
      refine wpPlan_only (fun K hK => ?_)
      simp only [List.getD_cons_zero, List.getD_cons_succ]
      go_simp
      refine (told17 _).mono ?_; rintro e w3 ⟨rfl, c3⟩
      have cc3 : Ch [] wr w3 := ((Ch.refl [] wr).drewN 1).trans c3
      have hl3 := HLk.out _ cc3
      refine hK _ _ (fun _ => Cls.mk hl3) ?_
      clear hK K
      iterate 6 (refine wpPlan_readS hl3 (fun K hK => ?_); simp only [List.getD_cons_zero, List.getD_cons_succ]; go_simp; refine hK _ ?_; clear hK K)
      refine wpPlan_only (fun K hK => ?_)
      simp only [List.getD_cons_zero, List.getD_cons_succ]
      go_simp
      refine (bufAll b X _ (hst.keep cc3).pb).mono ?_; rintro e w4 ⟨v4, rfl, o4, z4, c4⟩
      rw [HX.out] at o4
      obtain ⟨g4, q4, rfl, z41, z42, z43, rd4⟩ := o4.rd
      clear z41 z42 z43 o4
      rw [HX.out]
      have cc4 := cc3.trans c4
      have hl4 := HLk.out _ cc4
      refine hK _ _ (fun _ => Cls.mk hl4) ?_
      clear hK K z4 hl3
      have hI := ints_same g4 ax X q4 cx w4 rd4 (x2.keep cc4 (by simp)) (by rw [HX.out]; unfold maxLen; omega)
      rw [HX.out] at hI
      refine wpPlan_only (fun K hK => ?_)
      simp only [List.getD_cons_zero, List.getD_cons_succ]
      go_simp
      refine hI.mono ?_; rintro e w5 ⟨rfl, nq5, rfl⟩
      have cc5 := cc4.trans ((Ch.refl [] w4).drewN nq5)
      have hl5 := HLk.out _ cc5
      refine hK _ _ (fun _ => Cls.mk hl5) ?_
      clear hK K hI hl4
      iterate 7 (refine wpPlan_readS hl5 (fun K hK => ?_); simp only [List.getD_cons_zero, List.getD_cons_succ]; go_simp; refine hK _ ?_; clear hK K)
      refine wpPlan_only (fun K hK => ?_)
      simp only [List.getD_cons_zero, List.getD_cons_succ]
      go_simp
      refine (bufAll o Y _ (hst.keep cc5).po).mono ?_; rintro e w6 ⟨v6, rfl, o6, z6, c6⟩
      rw [HY.out] at o6
      obtain ⟨g6, q6, rfl, z61, z62, z63, rd6⟩ := o6.rd
      clear z61 z62 z63 o6
      rw [HY.out]
      have cc6 := cc5.trans c6
      have hl6 := HLk.out _ cc6
      refine hK _ _ (fun _ => Cls.mk hl6) ?_
      clear hK K z6 hl5
      have hI := ints_same g6 ay Y q6 cy w6 rd6 (y2.keep cc6 (by simp)) (by rw [HY.out]; unfold maxLen; omega)
      rw [HY.out] at hI
      refine wpPlan_only (fun K hK => ?_)
      simp only [List.getD_cons_zero, List.getD_cons_succ]
      go_simp
      refine hI.mono ?_; rintro e w7 ⟨rfl, nq7, rfl⟩
      have cc7 := cc6.trans ((Ch.refl [] w6).drewN nq7)
      have hl7 := HLk.out _ cc7
      refine hK _ _ (fun _ => Cls.mk hl7) ?_
      clear hK K hI hl6
      iterate 2 (refine wpPlan_readS hl7 (fun K hK => ?_); simp only [List.getD_cons_zero, List.getD_cons_succ]; go_simp; refine hK _ ?_; clear hK K)
      refine wpPlan_done ?_
      have hend := (hst.ch.trans cc7).below (Nat.le_refl _) (by simp)
      clear hl7 hS1 hS2 hSA hst x1 x2 y1 y2
      go_wp2_with fail
      go_ret
      exact ⟨rfl, hend⟩
end Go.Proofs.Ytalnkhcippcghaa
