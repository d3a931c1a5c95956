/-
  Contracts of package sched: what Pick tries, one by one: a part of the common queue; stealing. Conditions: none beyond what each theorem names.
-/
import Derived.Test.YteghenfdncgpeaaSch5
namespace Go.Proofs.Yteghenfdncgpeaa
open Go.RowKit
section
variable {w w1 w2 : World} {s c i x bt bs br bv bp : Nat} {vs v v' : Value} {X S : List Nat} {st : SSt} {tick : Int}
theorem foldR_com (p : Nat) : ∀ (l : List Int) (st : SSt), (foldR st p l).com.length ≤ st.com.length + 129 * l.length := by
  intro l
  induction l with
  | nil => intro st; simp [foldR]
  | cons g l ih =>
    intro st
    have h1 := ih (readyS st p g false)
    have h2 : (readyS st p g false).com.length ≤ st.com.length + 129 := by
      show (st.com ++ putO (st.nx p) (st.hs p) (st.row p) g false).length ≤ _
      have := putO_len (st.nx p) (st.hs p) (st.row p) g false
      rw [List.length_append]; omega
    show (foldR (readyS st p g false) p l).com.length ≤ _
    rw [List.length_cons]
    omega
theorem foldR_take (st : SSt) (p : Nat) (l : List Int) {j : Nat} (hj : j < l.length) : foldR st p (l.take (j + 1)) = readyS (foldR st p (l.take j)) p (gI l j) false := by
  rw [List.take_succ_eq_append_getElem hj, gI_at l j hj]
  unfold foldR
  rw [List.foldl_append]
  rfl
set_option maxHeartbeats 1000000 in
theorem part_yes (h : SchedAt w s c vs v X st) (cs : Blk w bs #[.pointer (some ⟨s, 0, none⟩)] 61) (cr : Blk w br #[.pointer (some ⟨x, 0, none⟩)] 22) (hx : X[i]? = some x) (hg : st.com ≠ []) (hl : st.com.length ≤ 80000) :
    Calls Try.prog 67 #[.pointer (some ⟨bs, 0, none⟩), .pointer (some ⟨br, 0, none⟩)] w fun e w' => e = .returned (.tuple #[.int .i64 (gI st.com 0), .bool true]) ∧ SchT w s c vs v X (partS st i X.length) w' := by
  have hi := (List.getElem?_eq_some_iff.1 hx).1
  obtain ⟨a, cap, rfl, _⟩ := h.rs.form
  obtain ⟨n, hn⟩ : ∃ n, X.length = n := ⟨_, rfl⟩
  rw [hn] at h hi ⊢
  obtain ⟨k, hk⟩ : ∃ k, getN st.com.length n = k := ⟨_, rfl⟩
  have hkk := getN_le st.com.length n
  have hkis := getN_is st.com.length n (by omega)
  rw [hk] at hkk hkis
  have hk0 : 0 < k := hkk.2.2 (List.length_pos_iff.2 hg)
  obtain ⟨l, hll⟩ : ∃ l, (st.com.take k).drop 1 = l := ⟨_, rfl⟩
  have hlen : l.length = k - 1 := by rw [← hll, List.length_drop, List.length_take]; omega
  obtain ⟨st0, hst0⟩ : ∃ st0, st.setCom (st.com.drop k) = st0 := ⟨_, rfl⟩
  have hpart : partS st i n = foldR st0 i l := by unfold partS; rw [hk, hst0, hll]
  have hcom0 : st0.com.length ≤ 80000 := by rw [← hst0]; show (st.com.drop k).length ≤ _; rw [List.length_drop]; omega
  have hgl : ∀ j, j < k - 1 → gI l j = gI st.com (j + 1) := fun j hj => by
    unfold gI
    rw [List.getD_eq_getElem?_getD, List.getD_eq_getElem?_getD, ← hll, List.getElem?_drop, List.getElem?_take, if_pos (by omega), Nat.add_comm 1 j]
  rw [hpart]
  have HST := Lib.hid hst0
  have HLEN := Lib.hid hlen
  have HGL := Lib.hid hgl
  have HK := Lib.hid hkk
  have HIS := Lib.hid hkis
  have hk64 : k ≤ 64 := hkk.2.1
  clear hn hg hk hkk hkis hll hlen hst0 hpart hgl
  go_enter Try.func67, Try.ntmps67
  go_upto_region 1 with fail
  have hd := h.ch ((Ch.refl [] w).drewN 1)
  obtain ⟨W9, hW9⟩ : ∃ W9, w.drewN 1 = W9 := ⟨_, rfl⟩
  have cd : Ch [] w W9 := by rw [← hW9]; exact (Ch.refl [] w).drewN 1
  rw [hW9] at hd
  have bsd := cs.keep cd (by simp)
  have brd := cr.keep cd (by simp)
  obtain ⟨L, hL⟩ : ∃ L : World → Prop, ∀ w', L w' ↔ (w'.cell? ⟨s, 0, none⟩ = some (.slice a n cap) ∧ w'.cell? ⟨s, 1, none⟩ = some (.pointer (some ⟨c, 0, none⟩)) ∧ w'.cell? ⟨bs, 0, none⟩ = some (.pointer (some ⟨s, 0, none⟩)) ∧ w'.cell? ⟨br, 0, none⟩ = some (.pointer (some ⟨x, 0, none⟩))) := ⟨_, fun _ => Iff.rfl⟩
  have hS1 : ∀ y : { w' : World // L w' }, y.1.cell? ⟨s, 0, none⟩ = some (.slice a n cap) := fun y => ((hL _).1 y.2).1
  have hS2 : ∀ y : { w' : World // L w' }, y.1.cell? ⟨s, 1, none⟩ = some (.pointer (some ⟨c, 0, none⟩)) := fun y => ((hL _).1 y.2).2.1
  have hS3 : ∀ y : { w' : World // L w' }, y.1.cell? ⟨bs, 0, none⟩ = some (.pointer (some ⟨s, 0, none⟩)) := fun y => ((hL _).1 y.2).2.2.1
  have hS4 : ∀ y : { w' : World // L w' }, y.1.cell? ⟨br, 0, none⟩ = some (.pointer (some ⟨x, 0, none⟩)) := fun y => ((hL _).1 y.2).2.2.2
  have hLk : ∀ w' v' st', SchedAt w' s c (.slice a n cap) v' X st' → Blk w' bs #[.pointer (some ⟨s, 0, none⟩)] 61 → Blk w' br #[.pointer (some ⟨x, 0, none⟩)] 22 → L w' := fun w' v' st' h1 h2 h3 => (hL _).2 ⟨h1.top.cell 0, h1.top.cell 1, h2.cell 0, h3.cell 0⟩
  have HLk := Lib.hid hLk
  have hS0 := hLk W9 _ _ hd bsd brd
  have hSA : Nonempty { w' : World // L w' } := ⟨⟨_, hS0⟩⟩
  clear hL hLk
  refine wp_region_plan (Cls L) (List.range 11) (.reads [0, 1, 2, 3, 4, 5, 6, 7, 8] (.only 9 (.reads [10] .done))) (by kernel_rfl) (by kernel_rfl) (fun _ _ _ _ _ h => h) ?_
  simp only [Plan.pures, Plan.reads, Plan.only, List.foldr_cons, List.foldr_nil]
  rw [hW9]
  clear hW9 h
  iterate 9 (refine wpPlan_readS hS0 (fun K hK => ?_); simp only [List.getD_cons_zero, List.getD_cons_succ]; go_simp; refine hK _ ?_; clear hK K)
  refine wpPlan_only (fun K hK => ?_)
  simp only [List.getD_cons_zero, List.getD_cons_succ]
  go_simp
  refine (qGet2 c v st.com n 64 k W9 hd.q hd.hv (by omega) HIS.out).mono ?_; rintro e w2 ⟨v1, v2, rfl, o1, q2, n2, c2, d2⟩
  obtain ⟨s1, s2, s3⟩ := takeN_S hd q2 n2 c2
  rw [HST.out] at s1
  have bs2 := box_keep hd bsd (by decide) s2
  have br2 := box_keep hd brd (by decide) s2
  have hl2 := HLk.out _ _ _ s1 bs2 br2
  obtain ⟨g1, off1, cap1, rfl, k1, k2, k3, _⟩ := o1.cellsOf hk0
  refine hK _ _ (fun _ => Cls.mk hl2) ?_
  clear hK K
  refine wpPlan_readS hl2 (fun K hK => ?_); simp only [List.getD_cons_zero, List.getD_cons_succ]; go_simp; refine hK _ ?_; clear hK K
  refine wpPlan_done ?_
  have hcell : ∀ j, j < k → w2.cell? ⟨g1, off1 + j, none⟩ = some (.int .i64 (gI st.com j)) := fun j hj => by
    refine k3 j _ ?_
    have := HK.out.1
    rw [List.getElem?_map, List.getElem?_take, if_pos hj, List.getElem?_eq_getElem (by omega), gI_at st.com j (by omega)]
    rfl
  have hg1 : g1 ∉ turnS c v2 X := fun hm => by
    obtain ⟨cb, hb⟩ := Own.blkAt o1 (k := g1) rfl
    rcases mem_turnS.1 hm with rfl | hm | hm
    · exact hb.ne s1.q.1 (by decide) rfl
    · obtain ⟨j, hj⟩ := List.mem_iff_getElem?.1 hm
      obtain ⟨cb2, hb2⟩ := (s1.ring j g1 hj).blk
      exact hb.ne hb2 (by decide) rfl
    · exact (d2 g1 rfl).2 hm
  have hg1l : g1 < w2.heap.size := o1.lt g1 rfl
  have c0 := hcell 0 hk0
  have cw2 : Ch (turnS c v X) w w2 := (cd.mono (by simp)).trans s2
  have nw2 : NewAt w v v2 := s3.imp id (fun f y hy => Nat.le_trans cd.size (f y hy))
  have z0 : ((k : Int) == 0) = false := by rw [beq_eq_false_iff_ne]; omega
  have z1 : ¬ (k : Int) = 0 := by omega
  have z2 : (1 : Int) ≤ k := by omega
  have z3 : (k : Int) ≤ cap1 := by omega
  rw [Nat.add_zero] at c0
  have hcelln : ∀ wr, Ch (turnS c v2 X) w2 wr → ∀ j, j < k → wr.cell? ⟨g1, off1 + j, none⟩ = some (.int .i64 (gI st.com j)) := fun wr hc j hj => by
    obtain ⟨cb, hb⟩ := Own.blkAt o1 (k := g1) rfl
    rw [(hb.keep hc hg1).cell, ← hb.cell]
    exact hcell j hj
  have HC := Lib.hid hcelln
  clear hcell hcelln k3 o1 q2 n2 c2 d2 s2 s3 hS0 hl2 hg1 bsd brd hd cd cs cr
  obtain ⟨y0, hy0⟩ : ∃ y0, gI st.com 0 = y0 := ⟨_, rfl⟩
  rw [hy0] at c0
  have HY0 := Lib.hid hy0
  clear hy0
  by_cases hk1 : k = 1
  · subst hk1
    have hl0 : l = [] := List.eq_nil_of_length_eq_zero HLEN.out
    have hfin : SchT w s c (.slice a n cap) v X (foldR st0 i l) w2 := by rw [hl0]; exact ⟨v2, s1, cw2, nw2⟩
    clear s1 cw2 nw2 hl0 bs2 br2
    by_cases hcp : cap1 = 1
    · subst hcp
      go_wp2_with fail
      go_loopw [6, 23] (fun s6 s23 wr => s23 = .int .i64 0 ∧ wr = w2) (fun _ _ _ => 0)
      case atStart => exact ⟨rfl, rfl⟩
      case round =>
        obtain ⟨rfl, rfl⟩ := hrel
        go_wp2_with fail
        go_ret2
        exact ⟨by rw [HY0.out]; rfl, hfin⟩
    · have z4 : (1 : Int) < cap1 := by omega
      go_wp2_with fail
      go_loopw [6, 23] (fun s6 s23 wr => s23 = .int .i64 0 ∧ wr = w2) (fun _ _ _ => 0)
      case atStart => exact ⟨rfl, rfl⟩
      case round =>
        obtain ⟨rfl, rfl⟩ := hrel
        go_wp2_with fail
        go_ret2
        exact ⟨by rw [HY0.out]; rfl, hfin⟩
  · have z4 : (1 : Int) < cap1 := by omega
    have z5 : ¬ cap1 = 1 := by omega
    obtain ⟨m, hm⟩ : ∃ m, k = m + 1 := ⟨k - 1, by omega⟩
    subst hm
    have z0' : ((m : Int) + 1 == 0) = false := by rw [beq_eq_false_iff_ne]; omega
    have z1' : ¬ (m : Int) + 1 = 0 := by omega
    obtain ⟨d1, hd1⟩ : ∃ d, cap1 - 1 = d := ⟨_, rfl⟩
    have hd1' : m ≤ d1 := by omega
    go_wp2_with fail
    try rw [hd1]
    try rw [show m + 1 - 1 = m by omega]
    have hlm : l.length = m := HLEN.out
    have HLM := Lib.hid hlm
    clear hlm hd1 z5 z4 hk1
    go_loopw [6, 23] (fun s6 s23 wr => ∃ (j : Nat) (vj : Value), s23 = .int .i64 j ∧ j ≤ m ∧ SchedAt wr s c (.slice a n cap) vj X (foldR st0 i (l.take j)) ∧ Ch (turnS c v2 X) w2 wr ∧ NewAt w2 v2 vj ∧ Blk wr bs #[.pointer (some ⟨s, 0, none⟩)] 61 ∧ Blk wr br #[.pointer (some ⟨x, 0, none⟩)] 22) (fun _ s23 _ => m - (intOf s23).toNat)
    case atStart => exact ⟨0, v2, rfl, by omega, s1, Ch.refl _ _, .inl rfl, bs2, br2⟩
    case round =>
      clear s1 bs2 br2 c0
      obtain ⟨j, vj, rfl, hj, h3, c3, n3, bs3, br3⟩ := hrel
      by_cases hlt : j < m
      · have u1 : decide ((j : Int) < m) = true := decide_eq_true (by omega)
        have u2 : (j : Int) < m := by omega
        have u3 : (0 : Int) ≤ j := by omega
        have d5 := HC.out wr c3 (j + 1) (by omega)
        rw [show off1 + (j + 1) = off1 + 1 + j by omega, ← HGL.out j (by omega)] at d5
        have hft := foldR_take st0 i l (j := j) (by rw [HLM.out]; exact hlt)
        have hfc := foldR_com i (l.take j) st0
        rw [List.length_take, HLM.out] at hfc
        obtain ⟨y, hy⟩ : ∃ y, gI l j = y := ⟨_, rfl⟩
        rw [hy] at d5 hft
        obtain ⟨stj, hstj⟩ : ∃ stj, foldR st0 i (l.take j) = stj := ⟨_, rfl⟩
        rw [hstj] at h3 hft hfc
        have HFT := Lib.hid hft
        have hcb : stj.com.length ≤ 89000 := by omega
        clear hy hft hfc hstj
        go_upto_region 7 with fail
        have hd := h3.ch ((Ch.refl [] wr).drewN 1)
        obtain ⟨W7, hW7⟩ : ∃ W7, wr.drewN 1 = W7 := ⟨_, rfl⟩
        have cd : Ch [] wr W7 := by rw [← hW7]; exact (Ch.refl [] wr).drewN 1
        rw [hW7] at hd
        have bsd := bs3.keep cd (by simp)
        have brd := br3.keep cd (by simp)
        have hSA' := HLk.out _ _ _ hd bsd brd
        refine wp_region_plan (Cls L) (List.range 8) (.reads [0, 1, 2, 3, 4, 5] (.only 6 (.only 7 .done))) (by kernel_rfl) (by kernel_rfl) (fun _ _ _ _ _ h => h) ?_
        simp only [Plan.pures, Plan.reads, Plan.only, List.foldr_cons, List.foldr_nil]
        rw [hW7]
        clear hW7 h3 bs3 br3 d5
        iterate 6 (refine wpPlan_readS hSA' (fun K hK => ?_); simp only [List.getD_cons_zero, List.getD_cons_succ]; go_simp; refine hK _ ?_; clear hK K)
        refine wpPlan_only (fun K hK => ?_)
        simp only [List.getD_cons_zero, List.getD_cons_succ]
        go_simp
        refine (ringPutS y false hd hx).mono ?_; rintro e w4 ⟨xv, rfl, o4, h4, c4⟩
        have ct4 := turn_x (c := c) (v := vj) hx c4
        have bs4 := box_keep hd bsd (by decide) ct4
        have br4 := box_keep hd brd (by decide) ct4
        have l4 := HLk.out _ _ _ h4 bs4 br4
        refine hK _ _ (fun _ => Cls.mk l4) ?_
        clear hK K hSA'
        refine wpPlan_only (fun K hK => ?_)
        simp only [List.getD_cons_zero, List.getD_cons_succ]
        go_simp
        have hbound := putO_len (stj.nx i) (stj.hs i) (stj.row i) y false
        refine (comPutS h4 o4.src (by show stj.com.length + _ ≤ _; omega)).mono ?_; rintro e w5 ⟨rfl, hT⟩
        obtain ⟨v5, h5, c5, n5⟩ := hT
        have bs5 := box_keep h4 bs4 (by decide) c5
        have br5 := box_keep h4 br4 (by decide) c5
        refine hK _ _ (fun _ => Cls.mk (HLk.out _ _ _ h5 bs5 br5)) ?_
        clear hK K
        refine wpPlan_done ?_
        have h6 : SchedAt w5 s c (.slice a n cap) v5 X (foldR st0 i (l.take (j + 1))) := by rw [HFT.out]; exact h5
        have c6 : Ch (turnS c v2 X) w2 w5 := ch_turn c3 n3 (((cd.mono (by simp)).trans ct4).trans c5)
        have n6 : NewAt w2 v2 v5 := n3.trans (w1 := wr) (n5.imp id (fun f q hq => Nat.le_trans (Nat.le_trans cd.size c4.size) (f q hq))) c3.size
        clear h4 h5 c3 c4 c5 n3 n5 hd bsd brd bs4 br4 l4 ct4 o4
        go_wp2_with fail
        go_roundw
        case rel => exact ⟨j + 1, v5, by go_num, by omega, h6, c6, n6, bs5, br5⟩
        case measure => simp [intOf]; omega
      · obtain rfl : j = m := by omega
        have u1 : decide ((j : Int) < j) = false := decide_eq_false (by omega)
        have d6 := HC.out wr c3 0 (by omega)
        rw [HY0.out, Nat.add_zero] at d6
        rw [List.take_of_length_le (by rw [HLM.out]; exact Nat.le_refl _)] at h3
        have hfin : SchT w s c (.slice a n cap) v X (foldR st0 i l) wr := SchT.trans cw2 nw2 ⟨vj, h3, c3, n3⟩
        clear h3 c3 n3 bs3 br3
        go_wp2_with fail
        go_ret2
        exact ⟨by rw [HY0.out]; rfl, hfin⟩
end
end Go.Proofs.Yteghenfdncgpeaa
