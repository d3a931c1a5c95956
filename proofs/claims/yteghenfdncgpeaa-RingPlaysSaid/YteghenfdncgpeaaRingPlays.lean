/-
  The walk of the statement RingPlays: the law returns true at every input. Conditions: none beyond how the argument is read.
-/
import Derived.Test.YteghenfdncgpeaaRingTold
import Derived.Test.YteghenfdncgpeaaRingAny
import Derived.Test.YteghenfdncgpeaaArgs
import Derived.Test.YteghenfdncgpeaaInts
import Derived.Deep.CutBlock
import Derived.Deep.CutRange
import Derived.Says
namespace Go.Proofs.Yteghenfdncgpeaa
open Go.RowKit
/-- How the law brings an op's kind into its range. -/
theorem kind_eq (x : Int) (n : Nat) (hn : 0 < n) (hl : n < 1000) : ∃ j : Nat, (wrap64 (x.tmod n + n)).tmod n = (j : Int) ∧ j < n := by
  have h1 := Int.tmod_lt_of_pos x (show (0 : Int) < n by omega)
  have h2 : (x.tmod n).natAbs < n := by
    rw [Int.natAbs_tmod]
    exact Nat.mod_lt _ (by simpa using hn)
  have h3 : wrap64 (x.tmod n + n) = x.tmod n + n := IntWalk.wrap64_in _ (by omega)
  rw [h3, Int.tmod_eq_emod_of_nonneg (by omega)]
  have h4 := Int.emod_nonneg (x.tmod n + n) (show (n : Int) ≠ 0 by omega)
  have h5 := Int.emod_lt_of_pos (x.tmod n + n) (show (0 : Int) < n by omega)
  exact ⟨((x.tmod n + n) % n).toNat, by omega, by omega⟩
/-- Both pairs have turned. -/
theorem RPSt.both {w wr w2 w' : World} {S : List Nat} {b o r s : Nat} {nx nx' : Int} {hs hs' hs3 : Bool} {X Y X2 Y2 : List Int} (h : RPSt w wr S b o r s nx hs X nx' hs' Y) (hb : RingAt w2 b nx hs X2) (ho : RingAt w2 o nx' hs3 Y2) (hc : Ch [b, o] wr w2)
    (hr : RG w' r S (nxL nx hs) X2) (hs' : RG w' s S (nxL nx' hs3) Y2) (hc2 : Ch [r, s] w2 w') : RPSt w w' S b o r s nx hs X2 nx' hs3 Y2 := by
  obtain ⟨d1, d2, d3, d4, d5, d6⟩ := h.di
  obtain ⟨m1, m2, m3, m4⟩ := h.mS
  have hc3 : Ch S wr w' := (hc.mono (by intro k hk; simp at hk; rcases hk with rfl | rfl; exact .inl m1; exact .inl m2)).trans (hc2.mono (by intro k hk; simp at hk; rcases hk with rfl | rfl; exact .inl m3; exact .inl m4))
  exact ⟨hb.keep hc2 (by simp; exact ⟨d3, d4⟩), ho.keep hc2 (by simp; exact ⟨d5, d6⟩), hr, hs', h.ch.transT hc3 (fun k hk => .inr (h.lo k hk)), h.mS, h.lo, fun k hk => Nat.lt_of_lt_of_le (h.hi k hk) hc3.size, h.di⟩
theorem ring_nl (nx : Int) (hs : Bool) (X : List Int) : ringList nx hs X = nxL nx hs ++ X := by cases hs <;> simp [ringList, nxL]
theorem ringLenN (b : Nat) (nx : Int) (hs : Bool) (X : List Int) (n : Nat) (w : World) (h : RingAt w b nx hs X) (hn : (nxL nx hs ++ X).length = n) :
    Calls Try.prog 18 #[.pointer (some ⟨b, 0, none⟩)] w fun e w' => e = .returned (.int .i64 n) ∧ Ch [] w w' := by
  have := ringLen b nx hs X w h
  rw [ring_nl, hn] at this
  exact this
theorem ringAllN (b : Nat) (nx : Int) (hs : Bool) (X : List Int) (n : Nat) (w : World) (h : RingAt w b nx hs X) (hn : (nxL nx hs ++ X).length = n) :
    Calls Try.prog 20 #[.pointer (some ⟨b, 0, none⟩)] w fun e w' => ∃ a c, e = .returned (.slice a n c) ∧ OwI w' w.heap.size (.slice a n c) (nxL nx hs ++ X) ∧ Ch [] w w' := by
  refine (ringAll b nx hs X w h).mono ?_
  rintro e w' ⟨v, rfl, h1, h2⟩
  rw [ring_nl] at h1
  obtain ⟨a, c, rfl, _⟩ := h1.form
  rw [hn] at h1 ⊢
  exact ⟨a, c, rfl, h1, h2⟩
theorem refAllN (r : Nat) (S : List Nat) (nx : Int) (hs : Bool) (X : List Int) (n : Nat) (w : World) (h : RG w r S (nxL nx hs) X) (hn : (nxL nx hs ++ X).length = n) (hl : n ≤ 100000) :
    Calls Try.prog 29 #[.pointer (some ⟨r, 0, none⟩)] w fun e w' => ∃ a c, e = .returned (.slice a n c) ∧ OwI w' w.heap.size (.slice a n c) (nxL nx hs ++ X) ∧ Ch [] w w' := by
  refine (refRingAll r S _ X w h (by rw [List.length_append] at hn; omega)).mono ?_
  rintro e w' ⟨v, rfl, h1, h2⟩
  obtain ⟨a, c, rfl, _⟩ := h1.form
  rw [hn] at h1 ⊢
  exact ⟨a, c, rfl, h1, h2⟩
theorem intsN (a b : Option Addr) (xs : List Int) (n c d : Nat) (w : World) (ha : Rd w a xs) (hb : Rd w b xs) (hn : xs.length = n) (hl : n ≤ maxLen) :
    Calls Try.prog 22 #[.slice a n c, .slice b n d] w fun e w' => e = .returned (.bool true) ∧ ∃ nq, w' = w.drewN nq := by
  subst hn
  exact ints_same a b xs c d w ha hb hl
theorem OwI.rdN {w : World} {B n : Nat} {a : Option Addr} {c : Nat} {xs : List Int} (h : OwI w B (.slice a n c) xs) : Rd w a xs := by
  obtain ⟨a', c', h1, _, _, h2⟩ := h.form
  cases h1
  exact h2
theorem nxL_le (nx : Int) (hs : Bool) (X : List Int) (h : X.length ≤ 256) : (nxL nx hs ++ X).length ≤ 257 := by
  rw [List.length_append]
  have : (nxL nx hs).length ≤ 1 := by unfold nxL; split <;> simp
  omega
theorem putO_le (nx : Int) (hs : Bool) (X : List Int) (g : Int) (nb : Bool) : (putO nx hs X g nb).length ≤ 129 := by
  have : ∀ g', (ringOver X g').length ≤ 129 := fun g' => by
    unfold ringOver
    split
    · simp
    · rw [List.length_append, List.length_take]; simp; omega
  unfold putO
  split
  · split
    · exact this _
    · simp
  · exact this _
set_option maxRecDepth 100000 in
set_option maxHeartbeats 40000000 in
theorem plays10_walk (a0 : Option Addr) (len cap : Nat) (F : Nat → Nat → Value) (w : World) (hr : RdS w a0 len 3 F) (ht : ∀ i, i < len → (∃ x, F i 0 = .int .i64 x) ∧ (∃ x, F i 1 = .int .i64 x) ∧ (∃ x, F i 2 = .bool x)) (hm : len ≤ maxLen) :
    Calls Try.prog 7 #[.slice a0 len cap] w fun e w' => e = .returned (.bool true) ∧ Below w.heap.size w w' := by
  unfold maxLen at hm
  go_enter Try.func7, Try.ntmps7
  go_wp2_with fail
  refine (ringNew _).mono ?_; rintro e w1 ⟨rfl, h1, c1⟩
  obtain ⟨b, hb⟩ : ∃ b, w.heap.size = b := ⟨_, rfl⟩
  rw [hb] at h1 ⊢
  go_wp2_with fail
  refine (ringNew _).mono ?_; rintro e w2 ⟨rfl, h2, c2⟩
  obtain ⟨o, ho⟩ : ∃ o, w1.heap.size = o := ⟨_, rfl⟩
  rw [ho] at h2 ⊢
  have hbo : b < o := by rw [← ho]; exact h1.lt
  have hol := h2.lt
  have h1' := h1.keep c2 (by simp)
  have c12 := c1.trans c2
  clear ho c1 c2 h1
  have HB := Lib.hid hb
  clear hb
  go_upto_region 5 with fail
  refine wp_named fun W hW => ?_
  obtain ⟨r, hrr⟩ : ∃ r, w2.heap.size = r := ⟨_, rfl⟩
  obtain ⟨s, hs⟩ : ∃ s, r + 1 = s := ⟨_, rfl⟩
  have hcW : Ch [] w2 W := by rw [hW]; exact ((Ch.refl [] w2).alloc _).alloc _
  have br : Blk W r #[.slice none 0 0, .slice none 0 0] 40 := by rw [hW, ← hrr]; exact (Blk.new _ _ _).alloc _
  have bs : Blk W s #[.slice none 0 0, .slice none 0 0] 40 := by rw [hW, ← hs, ← hrr]; exact Blk.new' (by simp) _ _
  have hsl := bs.lt
  have hst : RPSt w W [b, o, r, s] b o r s 0 false [] 0 false [] := by
    have hB := HB.out
    refine ⟨h1'.keep hcW (by simp), h2.keep hcW (by simp), ⟨none, 0, none, 0, br, LsF.nil _ _, LsF.nil _ _⟩, ⟨none, 0, none, 0, bs, LsF.nil _ _, LsF.nil _ _⟩, c12.trans hcW, by simp, ?_, ?_, by omega⟩
    · intro k hk; simp at hk; rcases hk with rfl | rfl | rfl | rfl <;> omega
    · intro k hk; simp at hk; rcases hk with rfl | rfl | rfl | rfl <;> omega
  rw [hrr, hs]
  obtain ⟨S, hS⟩ : ∃ S, [b, o, r, s] = S := ⟨_, rfl⟩
  rw [hS] at hst
  clear hW hrr hs h1' h2 c12 hbo hol HB hS br bs hsl hcW
  go_wp2_with fail
  go_loopw [3, 4, 5, 6, 7] (fun s3 s4 s5 s6 s7 wr => ∃ (i b o r s : Nat) (nx : Int) (hs : Bool) (X : List Int) (nx' : Int) (hs' : Bool) (Y : List Int), s3 = .pointer (some ⟨b, 0, none⟩) ∧ s4 = .pointer (some ⟨o, 0, none⟩) ∧ s5 = .pointer (some ⟨r, 0, none⟩) ∧ s6 = .pointer (some ⟨s, 0, none⟩) ∧ s7 = .int .i64 i ∧ i ≤ len ∧ i ≤ 60 ∧ RPSt w wr S b o r s nx hs X nx' hs' Y) (fun _ _ _ _ s7 _ => 60 - (intOf s7).toNat)
  case atStart => exact ⟨0, b, o, r, s, 0, false, [], 0, false, [], rfl, rfl, rfl, rfl, rfl, by omega, by omega, hst⟩
  case round =>
    clear hst
    obtain ⟨i, b, o, r, s, nx, hs, X, nx', hs', Y, rfl, rfl, rfl, rfl, rfl, hil, hi60, hst⟩ := hrel
    by_cases hlt : i < len
    · by_cases h60 : i < 60
      · have t1 : decide ((i : Int) < len) = true := decide_eq_true (by omega)
        have t2 : decide ((i : Int) < 60) = true := decide_eq_true (by omega)
        obtain ⟨⟨x, hx⟩, ⟨v, hv⟩, ⟨nb, hnb⟩⟩ := ht i hlt
        obtain ⟨ba, oa, rfl, hcell⟩ := (hr.keep (by decide) hst.ch (by simp)).at hlt
        have d0 := hcell i hlt 0 (by decide)
        have d1 := hcell i hlt 1 (by decide)
        have d2 := hcell i hlt 2 (by decide)
        rw [hx] at d0
        rw [hv] at d1
        rw [hnb] at d2
        simp only [Nat.add_zero] at d0
        clear hcell hx hv hnb
        go_upto_region 9 with fail
        obtain ⟨W1, hW1⟩ : ∃ W1, wr.alloc (.cells #[.int .i64 x, .int .i64 v, .bool nb] 42) = W1 := ⟨_, rfl⟩
        obtain ⟨q, hq⟩ : ∃ q, wr.heap.size = q := ⟨_, rfl⟩
        have bq : Blk W1 q #[.int .i64 x, .int .i64 v, .bool nb] 42 := by rw [← hW1, ← hq]; exact Blk.new _ _ _
        have hst1 : RPSt w W1 S b o r s nx hs X nx' hs' Y := hst.still (by rw [← hW1]; exact (Ch.refl [] wr).alloc _)
        have hqS : q ∉ S := fun hk => by have := hst.hi q hk; omega
        have e0 := bq.cell 0
        have e1 := bq.cell 1
        have e2 := bq.cell 2
        rw [hW1, hq]
        obtain ⟨j, hj, hjl⟩ := kind_eq x 8 (by decide) (by decide)
        replace hj : (wrap64 (x.tmod 8 + 8)).tmod 8 = (j : Int) := hj
        clear hW1 hq hst d0 d1 d2
        go_upto_block 2 with fail
        go_cut [3, 4, 5, 6, 9, 10, 11, 12, 13, 14, 45] from 46 to 127 (fun s3 s4 s5 s6 s9 s10 s11 s12 s13 s14 s45 wx => ∃ (b o r s : Nat) (nx : Int) (hs : Bool) (X : List Int) (nx' : Int) (hs' : Bool) (Y : List Int), s3 = .pointer (some ⟨b, 0, none⟩) ∧ s4 = .pointer (some ⟨o, 0, none⟩) ∧ s5 = .pointer (some ⟨r, 0, none⟩) ∧ s6 = .pointer (some ⟨s, 0, none⟩) ∧ s9 = .bool true ∧ RPSt w wx S b o r s nx hs X nx' hs' Y)
        case first =>
          obtain ⟨J, hJ⟩ : ∃ J : Int, (j : Int) = J := ⟨_, rfl⟩
          try rw [hj]
          rw [hJ]
          have hJ0 : 0 ≤ J ∧ J < 8 := by omega
          clear hj hJ hjl
          by_cases j0 : J < 3
          · have hJ3 : J = 0 ∨ J = 1 ∨ J = 2 := by omega
            clear hJ0 t1 t2 j0
            obtain ⟨P, hP⟩ : ∃ P, putO nx hs X v nb = P := ⟨_, rfl⟩
            obtain ⟨n, hn⟩ : ∃ n, P.length = n := ⟨_, rfl⟩
            have hnl : n ≤ maxLen := by rw [← hn, ← hP]; have := putO_le nx hs X v nb; unfold maxLen; omega
            have hXl := hst1.pb.le
            have HP := Lib.hid hP
            have HN := Lib.hid hn
            clear hP hn
            obtain ⟨L, hL⟩ : ∃ L : World → Prop, ∀ w', L w' ↔ (w'.cell? ⟨q, 1, none⟩ = some (.int .i64 v) ∧ w'.cell? ⟨q, 2, none⟩ = some (.bool nb)) := ⟨_, fun _ => Iff.rfl⟩
            have hS1 : ∀ x : { w' : World // L w' }, x.1.cell? ⟨q, 1, none⟩ = some (.int .i64 v) := fun x => ((hL _).1 x.2).1
            have hS2 : ∀ x : { w' : World // L w' }, x.1.cell? ⟨q, 2, none⟩ = some (.bool nb) := fun x => ((hL _).1 x.2).2
            have hLk : ∀ w', Blk w' q #[.int .i64 x, .int .i64 v, .bool nb] 42 → L w' := fun w' hb => (hL _).2 ⟨hb.cell 1, hb.cell 2⟩
            have hS0 := hLk _ (bq.drewN 1)
            have hSA : Nonempty { w' : World // L w' } := ⟨⟨_, hS0⟩⟩
            have HLk := Lib.hid hLk
            clear hL hLk e0 e1 e2
            have hST : RPSt w (W1.drewN 1) S b o r s nx hs X nx' hs' Y := hst1.still ((Ch.refl [] W1).drewN 1)
            obtain ⟨g1, g2, g3, g4⟩ := hst1.mS
            obtain ⟨k1, k2, k3, k4, k5, k6⟩ := hst1.di
            have hqb : q ∉ [b] := by simp; exact fun e => hqS (e ▸ g1)
            have hqr : q ∉ [r] := by simp; exact fun e => hqS (e ▸ g3)
            rcases hJ3 with rfl | rfl | rfl
            all_goals
              go_upto_region 16 with fail
              refine wp_region_plan (Cls L) (List.range 14) (.reads [0, 1, 2, 3, 4, 6, 7, 8, 9, 10] (.only 5 (.only 11 (.only 12 (.reads [13] .done))))) (by kernel_rfl) (by kernel_rfl) (fun _ _ _ _ _ h => h) ?_
              simp only [Plan.reads, Plan.only, List.foldr_cons, List.foldr_nil]
              iterate 10 (refine wpPlan_readS hS0 (fun K hK => ?_); simp only [List.getD_cons_zero, List.getD_cons_succ]; go_simp; refine hK _ ?_; clear hK K)
              refine wpPlan_only (fun K hK => ?_)
              simp only [List.getD_cons_zero, List.getD_cons_succ]
              go_simp
              refine (ringPutAny b nx hs X v nb _ hST.pb).mono ?_; rintro e w3 ⟨v3, rfl, o3, p3, c3⟩
              rw [HP.out] at o3
              have bq3 := (bq.drewN 1).keep c3 hqb
              have hl3 := HLk.out _ bq3
              refine hK _ _ (fun _ => Cls.mk hl3) ?_
              clear hK K
              refine wpPlan_only (fun K hK => ?_)
              simp only [List.getD_cons_zero, List.getD_cons_succ]
              go_simp
              refine (refPutAny r S nx hs X v nb w3 (hST.rr.keep c3 (by simp; exact fun e => k3 e.symm) (by simp; exact .inl g1)) g3 (fun k hk => Nat.lt_of_lt_of_le (hST.hi k hk) c3.size) hXl).mono ?_; rintro e w4 ⟨v4, rfl, o4, p4, c4⟩
              rw [HP.out] at o4
              have bq4 := bq3.keep c4 hqr
              have hl4 := HLk.out _ bq4
              refine hK _ _ (fun _ => Cls.mk hl4) ?_
              clear hK K
              obtain ⟨a3, q3, rfl, _, _, rd3⟩ := (o3.keepLt c4 (by simp; exact hST.hi r g3)).form
              obtain ⟨a4, q4, rfl, ls4⟩ := o4
              have hI := intsN a3 a4 P n q3 q4 w4 rd3 ls4.rd HN.out hnl
              rw [HN.out]
              refine wpPlan_only (fun K hK => ?_)
              simp only [List.getD_cons_zero, List.getD_cons_succ]
              go_simp
              refine hI.mono ?_; rintro e w5 ⟨rfl, nq5, rfl⟩
              have hl5 := HLk.out _ (bq4.drewN nq5)
              refine hK _ _ (fun _ => Cls.mk hl5) ?_
              clear hK K hI
              iterate 1 (refine wpPlan_readS hl5 (fun K hK => ?_); simp only [List.getD_cons_zero, List.getD_cons_succ]; go_simp; refine hK _ ?_; clear hK K)
              refine wpPlan_done ?_
              clear hS0 hS1 hS2 hSA hl3 hl4 hl5
              go_wp2_with fail
              go_meet
              exact ⟨b, o, r, s, _, _, _, nx', hs', Y, rfl, rfl, rfl, rfl, rfl, (hST.one p3 c3 p4 c4).still ((Ch.refl [] w4).drewN nq5)⟩
          · by_cases j3 : J = 3
            · subst j3
              clear hJ0 j0 t1 t2 e0 e1 e2
              obtain ⟨g1, g2, g3, g4⟩ := hst1.mS
              obtain ⟨k1, k2, k3, k4, k5, k6⟩ := hst1.di
              have hXl := hst1.pb.le
              obtain ⟨V, hV⟩ : ∃ V, getV nx hs X = V := ⟨_, rfl⟩
              obtain ⟨B, hB⟩ : ∃ B, getB hs X = B := ⟨_, rfl⟩
              have vv : (V == V) = true := beq_self_eq_true V
              have bb : (B == B) = true := beq_self_eq_true B
              have x1 := ringGetAny b nx hs X _ hst1.pb
              rw [hV, hB] at x1
              have HV := Lib.hid hV
              have HB := Lib.hid hB
              clear hV hB k1 k2 k4 k5 k6
              go_wp2_with fail
              refine x1.mono ?_; rintro e w3 ⟨rfl, p3, c3⟩
              have x2 := refGetAny r S nx hs X w3 (hst1.rr.keep c3 (by simp; exact fun e => k3 e.symm) (by simp; exact .inl g1)) g3 hXl
              rw [HV.out, HB.out] at x2
              clear x1
              go_wp2_with fail
              refine x2.mono ?_; rintro e w4 ⟨rfl, p4, c4⟩
              clear x2
              go_wp2_with fail
              go_meet
              exact ⟨b, o, r, s, _, _, _, nx', hs', Y, rfl, rfl, rfl, rfl, rfl, hst1.one p3 c3 p4 c4⟩
            · by_cases j4 : J = 4
              · subst j4
                clear hJ0 j0 t1 t2 e0 e1 e2 j3
                obtain ⟨g1, g2, g3, g4⟩ := hst1.mS
                obtain ⟨k1, k2, k3, k4, k5, k6⟩ := hst1.di
                have hXl := hst1.pb.le
                have hYl := hst1.po.le
                obtain ⟨N, hN⟩ : ∃ N, stealK X Y hs' = N := ⟨_, rfl⟩
                have nn : ((N : Int) == (N : Int)) = true := beq_self_eq_true _
                have x1 := ringStealAny b o nx nx' hs hs' X Y _ hst1.pb hst1.po k1
                rw [hN] at x1
                have HN := Lib.hid hN
                clear hN
                go_wp2_with fail
                refine x1.mono ?_; rintro e w3 ⟨rfl, p3, p3', c3⟩
                have x2 := refStealAny r s S nx nx' hs hs' X Y w3 (hst1.rr.keep c3 (by simp; exact ⟨fun e => k3 e.symm, fun e => k5 e.symm⟩) (by simp; exact ⟨.inl g1, .inl g2⟩)) (hst1.rs.keep c3 (by simp; exact ⟨fun e => k4 e.symm, fun e => k6 e.symm⟩) (by simp; exact ⟨.inl g1, .inl g2⟩)) g3 g4 (fun k hk => Nat.lt_of_lt_of_le (hst1.hi k hk) c3.size) k2 hXl hYl
                rw [HN.out] at x2
                clear x1 k1 k2 k3 k4 k5 k6
                go_wp2_with fail
                refine x2.mono ?_; rintro e w4 ⟨rfl, p4, p4', c4⟩
                clear x2
                go_wp2_with fail
                go_meet
                exact ⟨b, o, r, s, _, _, _, _, _, _, rfl, rfl, rfl, rfl, rfl, hst1.both p3 p3' c3 p4 p4' c4⟩
              · by_cases j5 : J = 5
                · subst j5
                  clear hJ0 j0 t1 t2 j3 j4
                  obtain ⟨P, hP⟩ : ∃ P, delB nx hs X v = P := ⟨_, rfl⟩
                  have hXl := hst1.pb.le
                  have pp : (P == P) = true := beq_self_eq_true P
                  have HP := Lib.hid hP
                  clear hP
                  obtain ⟨L, hL⟩ : ∃ L : World → Prop, ∀ w', L w' ↔ (w'.cell? ⟨q, 1, none⟩ = some (.int .i64 v)) := ⟨_, fun _ => Iff.rfl⟩
                  have hS1 : ∀ x : { w' : World // L w' }, x.1.cell? ⟨q, 1, none⟩ = some (.int .i64 v) := fun x => (hL _).1 x.2
                  have hLk : ∀ w', Blk w' q #[.int .i64 x, .int .i64 v, .bool nb] 42 → L w' := fun w' hb => (hL _).2 (hb.cell 1)
                  have hS0 := hLk _ (bq.drewN 1)
                  have hSA : Nonempty { w' : World // L w' } := ⟨⟨_, hS0⟩⟩
                  have HLk := Lib.hid hLk
                  clear hL hLk e0 e1 e2
                  have hST : RPSt w (W1.drewN 1) S b o r s nx hs X nx' hs' Y := hst1.still ((Ch.refl [] W1).drewN 1)
                  obtain ⟨g1, g2, g3, g4⟩ := hst1.mS
                  obtain ⟨k1, k2, k3, k4, k5, k6⟩ := hst1.di
                  have hqb : q ∉ [b] := by simp; exact fun e => hqS (e ▸ g1)
                  have hqr : q ∉ [r] := by simp; exact fun e => hqS (e ▸ g3)
                  go_upto_region 24 with fail
                  refine wp_region_plan (Cls L) (List.range 10) (.reads [0, 1, 2, 4, 5, 6] (.only 3 (.only 7 (.reads [8, 9] .done)))) (by kernel_rfl) (by kernel_rfl) (fun _ _ _ _ _ h => h) ?_
                  simp only [Plan.reads, Plan.only, List.foldr_cons, List.foldr_nil]
                  iterate 6 (refine wpPlan_readS hS0 (fun K hK => ?_); simp only [List.getD_cons_zero, List.getD_cons_succ]; go_simp; refine hK _ ?_; clear hK K)
                  refine wpPlan_only (fun K hK => ?_)
                  simp only [List.getD_cons_zero, List.getD_cons_succ]
                  go_simp
                  refine (ringDelAny b nx hs X v _ hST.pb).mono ?_; rintro e w3 ⟨rfl, p3, c3⟩
                  rw [HP.out]
                  have bq3 := (bq.drewN 1).keep c3 hqb
                  have hl3 := HLk.out _ bq3
                  refine hK _ _ (fun _ => Cls.mk hl3) ?_
                  clear hK K
                  refine wpPlan_only (fun K hK => ?_)
                  simp only [List.getD_cons_zero, List.getD_cons_succ]
                  go_simp
                  refine (refDelAny r S nx hs X v w3 (hST.rr.keep c3 (by simp; exact fun e => k3 e.symm) (by simp; exact .inl g1)) g3 (fun k hk => Nat.lt_of_lt_of_le (hST.hi k hk) c3.size) hXl).mono ?_; rintro e w4 ⟨rfl, p4, c4⟩
                  rw [HP.out]
                  have bq4 := bq3.keep c4 hqr
                  have hl4 := HLk.out _ bq4
                  refine hK _ _ (fun _ => Cls.mk hl4) ?_
                  clear hK K
                  iterate 2 (refine wpPlan_readS hl4 (fun K hK => ?_); simp only [List.getD_cons_zero, List.getD_cons_succ]; go_simp; refine hK _ ?_; clear hK K)
                  refine wpPlan_done ?_
                  clear hS0 hS1 hSA hl3 hl4
                  go_wp2_with fail
                  go_meet
                  exact ⟨b, o, r, s, _, _, _, nx', hs', Y, rfl, rfl, rfl, rfl, rfl, hST.one p3 c3 p4 c4⟩
                · by_cases j6 : J = 6
                  · subst j6
                    clear hJ0 j0 t1 t2 j3 j4 j5 e0 e2
                    obtain ⟨g1, g2, g3, g4⟩ := hst1.mS
                    obtain ⟨k1, k2, k3, k4, k5, k6⟩ := hst1.di
                    have hqb : q ∉ [b] := by simp; exact fun e => hqS (e ▸ g1)
                    have hqr : q ∉ [r] := by simp; exact fun e => hqS (e ▸ g3)
                    obtain ⟨M, hM, hMl⟩ := umod v 300 (by decide) (by decide)
                    clear k1 k2 k4 k5 k6
                    go_wp2_with fail
                    go_loopw [9, 14] (fun s9 s14 wx => ∃ (k : Nat) (nx : Int) (hs : Bool) (X : List Int), s9 = .bool true ∧ s14 = .int .i64 k ∧ k ≤ M ∧ RPSt w wx S b o r s nx hs X nx' hs' Y ∧ Blk wx q #[.int .i64 x, .int .i64 v, .bool nb] 42) (fun _ s14 _ => M - (intOf s14).toNat)
                    case atStart => exact ⟨0, nx, hs, X, rfl, rfl, by omega, hst1, bq⟩
                    case round =>
                      clear hst1 e1 bq
                      obtain ⟨k, nx, hs, X, rfl, rfl, hkM, hst1, bq⟩ := hrel
                      have e1 := bq.cell 1
                      by_cases hk : k < M
                      · have t1 : decide ((k : Int) < M) = true := decide_eq_true (by omega)
                        obtain ⟨P, hP⟩ : ∃ P, putO nx hs X k false = P := ⟨_, rfl⟩
                        obtain ⟨n, hn⟩ : ∃ n, P.length = n := ⟨_, rfl⟩
                        have hnl : n ≤ maxLen := by rw [← hn, ← hP]; have := putO_le nx hs X k false; unfold maxLen; omega
                        have hXl := hst1.pb.le
                        have HP := Lib.hid hP
                        have HN := Lib.hid hn
                        clear hP hn
                        go_wp2_with fail
                        refine (ringPutAny b nx hs X k false _ hst1.pb).mono ?_; rintro e w3 ⟨v3, rfl, o3, p3, c3⟩
                        rw [HP.out] at o3
                        have bq3 := bq.keep c3 hqb
                        clear e1
                        go_wp2_with fail
                        refine (refPutAny r S nx hs X k false w3 (hst1.rr.keep c3 (by simp; exact fun e => k3 e.symm) (by simp; exact .inl g1)) g3 (fun k hk => Nat.lt_of_lt_of_le (hst1.hi k hk) c3.size) hXl).mono ?_; rintro e w4 ⟨v4, rfl, o4, p4, c4⟩
                        rw [HP.out] at o4
                        have bq4 := bq3.keep c4 hqr
                        obtain ⟨a3, q3, rfl, _, _, rd3⟩ := (o3.keepLt c4 (by simp; exact hst1.hi r g3)).form
                        obtain ⟨a4, q4, rfl, ls4⟩ := o4
                        have hI := intsN a3 a4 P n q3 q4 w4 rd3 ls4.rd HN.out hnl
                        rw [HN.out]
                        go_wp2_with fail
                        refine hI.mono ?_; rintro e w5 ⟨rfl, nq5, rfl⟩
                        have hst5 := (hst1.one p3 c3 p4 c4).still ((Ch.refl [] w4).drewN nq5)
                        have bq5 := bq4.drewN nq5
                        clear hI
                        go_wp2_with fail
                        go_roundw
                        case rel => exact ⟨k + 1, _, _, _, rfl, by go_num, by omega, hst5, bq5⟩
                        case measure => simp [intOf]; omega
                      · obtain rfl : k = M := by omega
                        have t1 : decide ((k : Int) < k) = false := decide_eq_false (by omega)
                        go_wp2_with fail
                        go_meet
                        exact ⟨b, o, r, s, _, _, _, nx', hs', Y, rfl, rfl, rfl, rfl, rfl, hst1⟩
                  · obtain rfl : J = 7 := by omega
                    clear hJ0 j0 t1 t2 e0 e1 e2 j3 j4 j5 j6
                    go_wp2_with fail
                    go_meet
                    exact ⟨o, b, s, r, _, _, _, _, _, _, rfl, rfl, rfl, rfl, rfl, hst1.flip⟩
        case rest =>
          obtain ⟨b, o, r, s, nx, hs, X, nx', hs', Y, rfl, rfl, rfl, rfl, rfl, hst2⟩ := hcut
          clear hj e0 e1 e2 bq hst1 hqS hjl t1 t2
          obtain ⟨n, hn⟩ : ∃ n, (nxL nx hs ++ X).length = n := ⟨_, rfl⟩
          obtain ⟨m, hm'⟩ : ∃ m, (nxL nx' hs' ++ Y).length = m := ⟨_, rfl⟩
          have hn6 := nxL_le nx hs X hst2.pb.le
          have hm6 := nxL_le nx' hs' Y hst2.po.le
          rw [hn] at hn6
          rw [hm'] at hm6
          have n1 : ((n : Int) != (n : Int)) = false := by simp
          have n2 : ((m : Int) != (m : Int)) = false := by simp
          have HN := Lib.hid hn
          have HM := Lib.hid hm'
          clear hn hm'
          go_wp2_with fail
          refine (ringLenN b nx hs X n _ hst2.pb HN.out).mono ?_; rintro e w3 ⟨rfl, c3⟩
          have hst3 := hst2.still c3
          clear hst2 c3
          go_wp2_with fail
          refine (refAllN r S nx hs X n _ hst3.rr HN.out (by omega)).mono ?_; rintro e w4 ⟨a4, q4, rfl, o4, c4⟩
          have hst4 := hst3.still c4
          clear hst3 c4 o4
          go_wp2_with fail
          refine (ringLenN o nx' hs' Y m _ hst4.po HM.out).mono ?_; rintro e w5 ⟨rfl, c5⟩
          have hst5 := hst4.still c5
          clear hst4 c5
          go_wp2_with fail
          refine (refAllN s S nx' hs' Y m _ hst5.rs HM.out (by omega)).mono ?_; rintro e w6 ⟨a6, q6, rfl, o6, c6⟩
          have hst6 := hst5.still c6
          clear hst5 c6 o6
          go_wp2_with fail
          go_roundw
          case rel => exact ⟨i + 1, b, o, r, s, nx, hs, X, nx', hs', Y, rfl, rfl, rfl, rfl, by go_num, by omega, by omega, hst6⟩
          case measure => simp [intOf]; omega
      · have t1 : decide ((i : Int) < len) = true := decide_eq_true (by omega)
        have t2 : decide ((i : Int) < 60) = false := decide_eq_false (by omega)
        obtain ⟨n, hn⟩ : ∃ n, (nxL nx hs ++ X).length = n := ⟨_, rfl⟩
        obtain ⟨m, hm'⟩ : ∃ m, (nxL nx' hs' ++ Y).length = m := ⟨_, rfl⟩
        have hn6 := nxL_le nx hs X hst.pb.le
        have hm6 := nxL_le nx' hs' Y hst.po.le
        rw [hn] at hn6
        rw [hm'] at hm6
        have HN := Lib.hid hn
        have HM := Lib.hid hm'
        clear hn hm'
        go_wp2_with fail
        refine (told10 _).mono ?_; rintro e w3 ⟨rfl, c3⟩
        have hst3 := hst.still c3
        clear hst c3
        go_wp2_with fail
        refine (ringAllN b nx hs X n _ hst3.pb HN.out).mono ?_; rintro e w4 ⟨a4, q4, rfl, o4, c4⟩
        have hst4 := hst3.still c4
        clear hst3 c4
        go_wp2_with fail
        refine (refAllN r S nx hs X n _ hst4.rr HN.out (by omega)).mono ?_; rintro e w5 ⟨a5, q5, rfl, o5, c5⟩
        have hst5 := hst4.still c5
        have hI := intsN a4 a5 _ n q4 q5 w5 (o4.keepLt c5 (by simp)).rdN o5.rdN HN.out (by unfold maxLen; omega)
        clear hst4 c5 o4 o5
        go_wp2_with fail
        refine hI.mono ?_; rintro e w6 ⟨rfl, nq6, rfl⟩
        have hst6 := hst5.still ((Ch.refl [] w5).drewN nq6)
        clear hst5 hI
        go_wp2_with fail
        refine (ringAllN o nx' hs' Y m _ hst6.po HM.out).mono ?_; rintro e w7 ⟨a7, q7, rfl, o7, c7⟩
        have hst7 := hst6.still c7
        clear hst6 c7
        go_wp2_with fail
        refine (refAllN s S nx' hs' Y m _ hst7.rs HM.out (by omega)).mono ?_; rintro e w8 ⟨a8, q8, rfl, o8, c8⟩
        have hst8 := hst7.still c8
        have hI := intsN a7 a8 _ m q7 q8 w8 (o7.keepLt c8 (by simp)).rdN o8.rdN HM.out (by unfold maxLen; omega)
        clear hst7 c8 o7 o8
        go_wp2_with fail
        refine hI.mono ?_; rintro e w9 ⟨rfl, nq9, rfl⟩
        have hst9 := hst8.still ((Ch.refl [] w8).drewN nq9)
        have hend := hst9.ch.below (Nat.le_refl _) (by simp)
        clear hst8 hI hst9
        go_wp2_with fail
        go_ret
        exact ⟨rfl, hend⟩
    · have t1 : decide ((i : Int) < len) = false := decide_eq_false (by omega)
      obtain ⟨n, hn⟩ : ∃ n, (nxL nx hs ++ X).length = n := ⟨_, rfl⟩
      obtain ⟨m, hm'⟩ : ∃ m, (nxL nx' hs' ++ Y).length = m := ⟨_, rfl⟩
      have hn6 := nxL_le nx hs X hst.pb.le
      have hm6 := nxL_le nx' hs' Y hst.po.le
      rw [hn] at hn6
      rw [hm'] at hm6
      have HN := Lib.hid hn
      have HM := Lib.hid hm'
      clear hn hm'
      go_wp2_with fail
      refine (told10 _).mono ?_; rintro e w3 ⟨rfl, c3⟩
      have hst3 := hst.still c3
      clear hst c3
      go_wp2_with fail
      refine (ringAllN b nx hs X n _ hst3.pb HN.out).mono ?_; rintro e w4 ⟨a4, q4, rfl, o4, c4⟩
      have hst4 := hst3.still c4
      clear hst3 c4
      go_wp2_with fail
      refine (refAllN r S nx hs X n _ hst4.rr HN.out (by omega)).mono ?_; rintro e w5 ⟨a5, q5, rfl, o5, c5⟩
      have hst5 := hst4.still c5
      have hI := intsN a4 a5 _ n q4 q5 w5 (o4.keepLt c5 (by simp)).rdN o5.rdN HN.out (by unfold maxLen; omega)
      clear hst4 c5 o4 o5
      go_wp2_with fail
      refine hI.mono ?_; rintro e w6 ⟨rfl, nq6, rfl⟩
      have hst6 := hst5.still ((Ch.refl [] w5).drewN nq6)
      clear hst5 hI
      go_wp2_with fail
      refine (ringAllN o nx' hs' Y m _ hst6.po HM.out).mono ?_; rintro e w7 ⟨a7, q7, rfl, o7, c7⟩
      have hst7 := hst6.still c7
      clear hst6 c7
      go_wp2_with fail
      refine (refAllN s S nx' hs' Y m _ hst7.rs HM.out (by omega)).mono ?_; rintro e w8 ⟨a8, q8, rfl, o8, c8⟩
      have hst8 := hst7.still c8
      have hI := intsN a7 a8 _ m q7 q8 w8 (o7.keepLt c8 (by simp)).rdN o8.rdN HM.out (by unfold maxLen; omega)
      clear hst7 c8 o7 o8
      go_wp2_with fail
      refine hI.mono ?_; rintro e w9 ⟨rfl, nq9, rfl⟩
      have hst9 := hst8.still ((Ch.refl [] w8).drewN nq9)
      have hend := hst9.ch.below (Nat.le_refl _) (by simp)
      clear hst8 hI hst9
      go_wp2_with fail
      go_ret
      exact ⟨rfl, hend⟩
end Go.Proofs.Yteghenfdncgpeaa
