/-
  Contracts of package sched: stealing. Conditions: none beyond what each theorem names.
-/
import Derived.Test.YteghenfdncgpeaaSch6
namespace Go.Proofs.Yteghenfdncgpeaa
open Go.RowKit
section
variable {w w1 w2 : World} {s c i x bt bs br bv bp : Nat} {vs v v' : Value} {X S : List Nat} {st : SSt} {tick vic : Int}
theorem getRing (h : SchedAt w s c vs v X st) (hx : X[i]? = some x) :
    Calls Try.prog 19 #[.pointer (some ⟨x, 0, none⟩)] w fun e w' => e = .returned (.tuple #[.int .i64 (getV (st.nx i) (st.hs i) (st.row i)), .bool (getB (st.hs i) (st.row i))]) ∧ SchedAt w' s c vs v X (getSt st i) ∧ Ch [x] w w' :=
  (ringGetAny x _ _ _ w (h.ring i x hx)).mono fun _ _ ⟨a, b, d⟩ => ⟨a, h.setRing hx b d, d⟩
theorem steal_no (h : SchedAt w s c vs v X st) (cs : Blk w bs #[.pointer (some ⟨s, 0, none⟩)] 61) (cr : Blk w br #[.pointer (some ⟨x, 0, none⟩)] 22) (cv : w.cell? ⟨bv, 0, none⟩ = some (.int .i64 vic)) (cp : w.cell? ⟨bp, 0, none⟩ = some (.int .i64 i)) (hx : X[i]? = some x) (hno : hasP X.length vic = false ∨ vic = i) :
    Calls Try.prog 68 #[.pointer (some ⟨bs, 0, none⟩), .pointer (some ⟨bv, 0, none⟩), .pointer (some ⟨bp, 0, none⟩), .pointer (some ⟨br, 0, none⟩)] w fun e w' => e = .returned (.tuple #[.int .i64 (getV (st.nx i) (st.hs i) (st.row i)), .bool (getB (st.hs i) (st.row i))]) ∧ SchedAt w' s c vs v X (getSt st i) ∧ Ch (turnS c v X) w w' := by
  have hG := getRing h hx
  have hH := schHas vic h
  have d1 := cs.cell 0
  have d2 := cr.cell 0
  obtain ⟨V, hV⟩ : ∃ V, getV (st.nx i) (st.hs i) (st.row i) = V := ⟨_, rfl⟩
  obtain ⟨b, hb⟩ : ∃ b, getB (st.hs i) (st.row i) = b := ⟨_, rfl⟩
  rw [hV, hb] at hG ⊢
  clear hV hb cs cr
  by_cases hh : hasP X.length vic = false
  · rw [hh] at hH
    clear h hno
    go_enter Try.func68, Try.ntmps68
    go_wp2_with fail
    refine hH.mono ?_; rintro e w1 ⟨rfl, rfl⟩
    clear hH
    go_wp2_with fail
    refine hG.mono ?_; rintro e w2 ⟨rfl, h2, c2⟩
    have c3 := turn_x (c := c) (v := v) hx c2
    clear hG c2
    go_wp2_with fail
    go_ret2
    exact ⟨rfl, h2, c3⟩
  · have hi : vic = i := by
      rcases hno with e | e
      · exact absurd e hh
      · exact e
    rw [show hasP X.length vic = true by simpa using hh] at hH
    subst hi
    have z : ((i : Int) != (i : Int)) = false := by simp
    clear h hno hh
    go_enter Try.func68, Try.ntmps68
    go_wp2_with fail
    refine hH.mono ?_; rintro e w1 ⟨rfl, rfl⟩
    clear hH
    go_wp2_with fail
    refine hG.mono ?_; rintro e w2 ⟨rfl, h2, c2⟩
    have c3 := turn_x (c := c) (v := v) hx c2
    clear hG c2
    go_wp2_with fail
    go_ret2
    exact ⟨rfl, h2, c3⟩
theorem stealRing {q y : Nat} (h : SchedAt w s c vs v X st) (hx : X[i]? = some x) (hy : X[q]? = some y) (hne : q ≠ i) :
    Calls Try.prog 23 #[.pointer (some ⟨x, 0, none⟩), .pointer (some ⟨y, 0, none⟩)] w fun e w' => (∃ k : Int, e = .returned (.int .i64 k)) ∧ SchedAt w' s c vs v X (stealS st i q) ∧ Ch (turnS c v X) w w' := by
  have hxy : x ≠ y := nodup_ne h.nd hx hy (fun e => hne e.symm)
  refine (ringStealAny x y _ _ _ _ _ _ w (h.ring i x hx) (h.ring q y hy) hxy).mono ?_
  rintro e w' ⟨rfl, r1, r2, c1⟩
  refine ⟨⟨_, rfl⟩, ?_, c1.mono (fun k hk => .inl (mem_turnS.2 (.inr (.inl ?_))))⟩
  · obtain ⟨cx, hbx⟩ := (h.ring i x hx).blk
    obtain ⟨cy, hby⟩ := (h.ring q y hy).blk
    have hnot : ∀ k cs t, Blk w k cs t → t ≠ 83 → k ∉ [x, y] := fun k cs t hk ht hm => by
      simp at hm
      rcases hm with hm | hm
      · exact hk.ne hbx ht hm
      · exact hk.ne hby ht hm
    refine ⟨h.top.keep c1 (hnot _ _ _ h.top (by decide)), h.rs.keep c1 (fun k hk he => ?_), fun j z hz => ?_, h.q.keep c1 (hnot _ _ _ h.q.1 (by decide)) (fun k hk he => ?_), h.hv, h.nd⟩
    · obtain ⟨cs, hb⟩ := Own.blkAt h.rs he
      exact hnot k _ _ hb (by decide) hk
    · show RingAt w' z (updN (updN st.nx i (st.nx i)) q (st.nx q) j) (updN (updN st.hs i (st.hs i)) q (stealH (st.hs q) (st.row i) (st.row q)) j) (updN (updN st.row i (stealX (st.nx q) (st.hs q) (st.row i) (st.row q))) q (stealY (st.hs q) (st.row i) (st.row q)) j)
      rw [updN_self, updN_self, updN_self]
      by_cases e : j = q
      · subst e
        rw [hy] at hz
        cases hz
        rw [updN_at, updN_at]
        exact r2
      · rw [updN_ne _ _ e, updN_ne _ _ e]
        by_cases e2 : j = i
        · subst e2
          rw [hx] at hz
          cases hz
          rw [updN_at]
          exact r1
        · rw [updN_ne _ _ e2]
          exact (h.ring j z hz).keep c1 (by
            simp only [List.mem_cons, List.not_mem_nil, or_false, not_or]
            exact ⟨nodup_ne h.nd hz hx e2, nodup_ne h.nd hz hy e⟩)
    · obtain ⟨cs, hb⟩ := Own.blkAt h.q.2 he
      exact hnot k _ _ hb (by decide) hk
  · simp at hk
    rcases hk with rfl | rfl
    · exact List.mem_of_getElem? hx
    · exact List.mem_of_getElem? hy
set_option maxHeartbeats 1000000 in
theorem steal_yes {q : Nat} (h : SchedAt w s c vs v X st) (cs : Blk w bs #[.pointer (some ⟨s, 0, none⟩)] 61) (cr : Blk w br #[.pointer (some ⟨x, 0, none⟩)] 22) (cvB : Blk w bv #[.int .i64 q] 3) (hbv : bv ∉ turnS c v X) (cp : w.cell? ⟨bp, 0, none⟩ = some (.int .i64 i)) (hx : X[i]? = some x) (hq : q < X.length) (hne : q ≠ i) :
    Calls Try.prog 68 #[.pointer (some ⟨bs, 0, none⟩), .pointer (some ⟨bv, 0, none⟩), .pointer (some ⟨bp, 0, none⟩), .pointer (some ⟨br, 0, none⟩)] w fun e w' => e = .returned (.tuple #[.int .i64 (getV ((stealS st i q).nx i) ((stealS st i q).hs i) ((stealS st i q).row i)), .bool (getB ((stealS st i q).hs i) ((stealS st i q).row i))]) ∧ SchedAt w' s c vs v X (getSt (stealS st i q) i) ∧ Ch (turnS c v X) w w' := by
  have hH := schHas q h
  have cv := cvB.cell 0
  rw [show hasP X.length q = true from decide_eq_true (by omega)] at hH
  obtain ⟨y, hy⟩ : ∃ y, X[q]? = some y := ⟨_, List.getElem?_eq_getElem hq⟩
  obtain ⟨gg, oo, cap, rfl, hcap, dq, _⟩ := h.found hy
  obtain ⟨n, hn⟩ : ∃ n, X.length = n := ⟨_, rfl⟩
  rw [hn] at h hq ⊢
  have d1 := cs.cell 0
  have d2 := cr.cell 0
  have d3 := h.top.cell 0
  have z : ((i : Int) != (q : Int)) = true := by simp; omega
  have z' : ((q : Int) != (i : Int)) = true := by simp; omega
  have zz : ¬ (i : Int) = (q : Int) := by omega
  have zz' : ¬ (q : Int) = (i : Int) := by omega
  have t1 : (q : Int) < n := by omega
  have t2 : (0 : Int) ≤ q := by omega
  obtain ⟨st2, hst2⟩ : ∃ st2, stealS st i q = st2 := ⟨_, rfl⟩
  rw [hst2]
  have HST := Lib.hid hst2
  clear hn hcap hst2
  go_enter Try.func68, Try.ntmps68
  go_wp2_with fail
  refine hH.mono ?_; rintro e w1 ⟨rfl, rfl⟩
  clear hH
  go_upto_region 2 with fail
  have hd := h.ch ((Ch.refl [] w1).drewN 1)
  obtain ⟨W9, hW9⟩ : ∃ W9, w1.drewN 1 = W9 := ⟨_, rfl⟩
  have cd : Ch [] w1 W9 := by rw [← hW9]; exact (Ch.refl [] w1).drewN 1
  have x1 : W9.cell? ⟨bs, 0, none⟩ = some (.pointer (some ⟨s, 0, none⟩)) := by rw [← hW9]; exact d1
  have x2 : W9.cell? ⟨br, 0, none⟩ = some (.pointer (some ⟨x, 0, none⟩)) := by rw [← hW9]; exact d2
  have x3 : W9.cell? ⟨s, 0, none⟩ = some (.slice (some ⟨gg, oo, none⟩) n cap) := by rw [← hW9]; exact d3
  have x4 : W9.cell? ⟨gg, oo + q, none⟩ = some (.pointer (some ⟨y, 0, none⟩)) := by rw [← hW9]; exact dq
  have x5 : W9.cell? ⟨bv, 0, none⟩ = some (.int .i64 q) := by rw [← hW9]; exact cv
  rw [hW9] at hd
  have brd := cr.keep cd (by simp)
  have bsd := cs.keep cd (by simp)
  have bvd := cvB.keep cd (by simp)
  obtain ⟨L, hL⟩ : ∃ L : World → Prop, ∀ w', L w' ↔ (w'.cell? ⟨bs, 0, none⟩ = some (.pointer (some ⟨s, 0, none⟩)) ∧ w'.cell? ⟨br, 0, none⟩ = some (.pointer (some ⟨x, 0, none⟩)) ∧ w'.cell? ⟨s, 0, none⟩ = some (.slice (some ⟨gg, oo, none⟩) n cap) ∧ w'.cell? ⟨gg, oo + q, none⟩ = some (.pointer (some ⟨y, 0, none⟩)) ∧ w'.cell? ⟨bv, 0, none⟩ = some (.int .i64 q)) := ⟨_, fun _ => Iff.rfl⟩
  have hS1 : ∀ y : { w' : World // L w' }, y.1.cell? ⟨bs, 0, none⟩ = some (.pointer (some ⟨s, 0, none⟩)) := fun y => ((hL _).1 y.2).1
  have hS2 : ∀ y : { w' : World // L w' }, y.1.cell? ⟨br, 0, none⟩ = some (.pointer (some ⟨x, 0, none⟩)) := fun y => ((hL _).1 y.2).2.1
  have hS3 : ∀ y : { w' : World // L w' }, y.1.cell? ⟨s, 0, none⟩ = some (.slice (some ⟨gg, oo, none⟩) n cap) := fun y => ((hL _).1 y.2).2.2.1
  have hS4 : ∀ z : { w' : World // L w' }, z.1.cell? ⟨gg, oo + q, none⟩ = some (.pointer (some ⟨y, 0, none⟩)) := fun z => ((hL _).1 z.2).2.2.2.1
  have hS5 : ∀ y : { w' : World // L w' }, y.1.cell? ⟨bv, 0, none⟩ = some (.int .i64 q) := fun y => ((hL _).1 y.2).2.2.2.2
  have hS0 := (hL _).2 ⟨x1, x2, x3, x4, x5⟩
  have hSA : Nonempty { w' : World // L w' } := ⟨⟨_, hS0⟩⟩
  have HL := Lib.hid hL
  clear hL x1 x2 x3 x4 x5
  refine wp_region_plan (Cls L) (List.range 9) (.reads [0, 1, 2, 3, 4, 5, 6, 7] (.only 8 .done)) (by kernel_rfl) (by kernel_rfl) (fun _ _ _ _ _ h => h) ?_
  simp only [Plan.pures, Plan.reads, Plan.only, List.foldr_cons, List.foldr_nil]
  rw [hW9]
  clear hW9 h d1 d2 d3 dq cv cp
  iterate 8 (refine wpPlan_readS hS0 (fun K hK => ?_); simp only [List.getD_cons_zero, List.getD_cons_succ]; go_simp; refine hK _ ?_; clear hK K)
  refine wpPlan_only (fun K hK => ?_)
  simp only [List.getD_cons_zero, List.getD_cons_succ]
  go_simp
  refine (stealRing hd hx hy hne).mono ?_; rintro e w2 ⟨⟨k, rfl⟩, h2, c2⟩
  rw [HST.out] at h2
  have br2 := box_keep hd brd (by decide) c2
  have d2 := br2.cell 0
  have hG := getRing h2 hx
  have hl2 : L w2 := (HL.out _).2 ⟨(box_keep hd bsd (by decide) c2).cell 0, d2, h2.top.cell 0, by
    obtain ⟨g', o', e, h5⟩ := h2.rs.at hy
    cases e
    exact h5, (bvd.keep c2 hbv).cell 0⟩
  refine hK _ _ (fun _ => Cls.mk hl2) ?_
  clear hK K
  refine wpPlan_done ?_
  clear hS0 hS1 hS2 hS3 hS4 hS5 hSA hl2 HL hd brd bsd bvd br2 z z' zz zz'
  obtain ⟨V, hV⟩ : ∃ V, getV (st2.nx i) (st2.hs i) (st2.row i) = V := ⟨_, rfl⟩
  obtain ⟨b, hb⟩ : ∃ b, getB (st2.hs i) (st2.row i) = b := ⟨_, rfl⟩
  rw [hV, hb] at hG
  have HV := Lib.hid hV
  have HB := Lib.hid hb
  clear hV hb
  go_wp2_with fail
  refine hG.mono ?_; rintro e w3 ⟨rfl, h3, c3⟩
  have c4 := (cd.mono (by simp)).trans (c2.trans (turn_x (c := c) (v := v) hx c3))
  clear hG c2 c3 h2
  go_wp2_with fail
  go_ret2
  exact ⟨by rw [HV.out, HB.out]; rfl, h3, c4⟩
end
end Go.Proofs.Yteghenfdncgpeaa
