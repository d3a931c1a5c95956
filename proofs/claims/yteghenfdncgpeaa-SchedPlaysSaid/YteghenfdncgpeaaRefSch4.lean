/-
  The document's answer for layer 27: Pick that steals; Pick whatever the case. Conditions: none beyond what each theorem names.
-/
import Derived.Test.YteghenfdncgpeaaRefSch3
import Derived.Test.YteghenfdncgpeaaSch8
namespace Go.Proofs.Yteghenfdncgpeaa
open Go.RowKit
section
variable {w w1 w2 : World} {r i y : Nat} {vs v : Value} {Y S T U : List Nat} {st : SSt}
theorem stealRefS {q z : Nat} (h : RefAt w S r vs Y st) (hy : Y[i]? = some y) (hz : Y[q]? = some z) (hne : q ≠ i) (hle : ∀ p, (st.row p).length ≤ 256) :
    Calls Try.prog 27 #[.pointer (some ⟨y, 0, none⟩), .pointer (some ⟨z, 0, none⟩)] w fun e w' => (∃ k : Int, e = .returned (.int .i64 k)) ∧ RefAt w' S r vs Y (stealS st i q) ∧ Ch (ownR r vs Y) w w' := by
  have hyz : y ≠ z := nodup_ne h.nd hy hz (fun e => hne e.symm)
  have hyS := h.yS y (List.mem_of_getElem? hy)
  have hzS := h.yS z (List.mem_of_getElem? hz)
  refine (refStealAny y z S _ _ _ _ _ _ w (h.ring i y hy) (h.ring q z hz) hyS hzS h.hS hyz (hle i) (hle q)).mono ?_
  rintro e w' ⟨rfl, r1, r2, c1⟩
  refine ⟨⟨_, rfl⟩, ?_, c1.mono (fun k hk => .inl (mem_ownR.2 (.inr (.inl (by
    simp at hk
    rcases hk with rfl | rfl
    · exact List.mem_of_getElem? hy
    · exact List.mem_of_getElem? hz)))))⟩
  obtain ⟨cy, hby⟩ := (h.ring i y hy).blk
  obtain ⟨cz, hbz⟩ := (h.ring q z hz).blk
  have hnot : ∀ k cs t, Blk w k cs t → t ≠ 40 → k ∉ [y, z] := fun k cs t hk ht hm => by
    simp at hm
    rcases hm with hm | hm
    · exact hk.ne hby ht hm
    · exact hk.ne hbz ht hm
  have hT : ∀ k ∈ [y, z], k ∈ S ∨ w.heap.size ≤ k := fun k hk => by
    simp at hk
    rcases hk with rfl | rfl
    · exact .inl hyS
    · exact .inl hzS
  obtain ⟨a, c, hb, hL⟩ := h.top
  refine ⟨⟨a, c, hb.keep c1 (hnot _ _ _ hb (by decide)), hL.keep c1 hT⟩, h.rs.keep c1 (fun k hk he => ?_), fun j x hx => ?_, h.nd, h.rS, h.yS, h.vS, fun k hk => Nat.lt_of_lt_of_le (h.hS k hk) c1.size⟩
  · obtain ⟨cs, hb'⟩ := Own.blkAt h.rs he
    exact hnot k _ _ hb' (by decide) hk
  · show RG w' x S (nxL (updN (updN st.nx i (st.nx i)) q (st.nx q) j) (updN (updN st.hs i (st.hs i)) q (stealH (st.hs q) (st.row i) (st.row q)) j)) (updN (updN st.row i (stealX (st.nx q) (st.hs q) (st.row i) (st.row q))) q (stealY (st.hs q) (st.row i) (st.row q)) j)
    rw [updN_self, updN_self, updN_self]
    by_cases e : j = q
    · subst e
      rw [hz] at hx
      cases hx
      rw [updN_at, updN_at]
      exact r2
    · rw [updN_ne _ _ e, updN_ne _ _ e]
      by_cases e2 : j = i
      · subst e2
        rw [hy] at hx
        cases hx
        rw [updN_at]
        exact r1
      · rw [updN_ne _ _ e2]
        exact (h.ring j x hx).keep c1 (by
          simp only [List.mem_cons, List.not_mem_nil, or_false, not_or]
          exact ⟨nodup_ne h.nd hx hy e2, nodup_ne h.nd hx hz e⟩) hT
theorem stealX_le {nx : Int} {hs : Bool} {X Z : List Int} (hX : X.length ≤ 256) : (stealX nx hs X Z).length ≤ 256 := by
  unfold stealX
  split
  · split
    · next h => rw [List.length_append]; have := h.2; simp; omega
    · exact hX
  · next hZ =>
    rw [List.length_append, List.length_take]
    unfold stealK
    rw [if_neg hZ]
    omega
theorem stealY_le {hs : Bool} {X Z : List Int} (hZ : Z.length ≤ 256) : (stealY hs X Z).length ≤ 256 := by
  unfold stealY
  split
  · simp
  · rw [List.length_drop]; omega
theorem steal_rowLe {q : Nat} (hqi : q ≠ i) (h : ∀ p, (st.row p).length ≤ 256) (p : Nat) : ((stealS st i q).row p).length ≤ 256 := by
  by_cases e : p = q
  · subst e
    rw [(steal_from (st := st) (p := i) (q := p)).2.2]
    exact stealY_le (h p)
  · by_cases e2 : p = i
    · subst e2
      rw [(steal_at (st := st) hqi).2.2.1]
      exact stealX_le (h p)
    · rw [(steal_ne (st := st) e2 e).2.2]
      exact h p
theorem stealV_rowLe {n : Nat} {vic : Int} (h : ∀ p, (st.row p).length ≤ 256) (p : Nat) : ((stealV st i n vic).row p).length ≤ 256 := by
  unfold stealV
  split
  · next hh =>
    obtain ⟨z1, z2⟩ := of_decide_eq_true hh.1
    exact steal_rowLe (by intro e; apply hh.2; omega) h p
  · exact h p
set_option maxRecDepth 100000 in
set_option maxHeartbeats 4000000 in
theorem refPick_steal (tick vic : Int) (h : RefAt w S r vs Y st) (hy : Y[i]? = some y) (hle : ∀ p, (st.row p).length ≤ 256) (hf : fairB st tick = false) (hb : getB (st.hs i) (st.row i) = false) (hg : st.com = []) {n0 : Nat} (hn0 : Y.length = n0) {st2 : SSt} (hst2 : stealV st i n0 vic = st2) {pv : Int} {pb : Bool} (hpv : getV (st2.nx i) (st2.hs i) (st2.row i) = pv) (hpb : getB (st2.hs i) (st2.row i) = pb) :
    Calls Try.prog 53 #[.pointer (some ⟨r, 0, none⟩), .int .i64 i, .int .i64 tick, .int .i64 vic] w fun e w' => e = .returned (.tuple #[.int .i64 pv, .bool pb]) ∧ RefT w S r vs Y (getSt st2 i) w' := by
  have hle2 : ∀ p, (st2.row p).length ≤ 256 := fun p => by rw [← hst2]; exact stealV_rowLe hle p
  have hi := (List.getElem?_eq_some_iff.1 hy).1
  obtain ⟨gg, oo, cap, rfl, hcap, hfd⟩ := h.cells hy
  obtain ⟨n, hn⟩ : ∃ n, Y.length = n := ⟨_, rfl⟩
  have HN := Lib.hid hn
  rw [hn] at h hi hfd ⊢
  obtain ⟨q0, q1⟩ := hfd w S st h
  have t0 : decide ((i : Int) < 0) = false := decide_eq_false (by omega)
  have t1 : (i : Int) < n := by omega
  have t2 : (0 : Int) ≤ i := by omega
  have t3 : decide ((i : Int) ≥ (n : Int)) = false := decide_eq_false (by omega)
  have t4 : ¬ (i : Int) < 0 := by omega
  have t5 : ¬ (n : Int) ≤ i := by omega
  clear hn hcap
  have hnn : n0 = n := by rw [← hn0]; exact HN.out
  rw [hnn] at hst2
  clear hnn
  have HFD := Lib.hid hfd
  have HLE := Lib.hid hle
  have HLE2 := Lib.hid hle2
  have HPV := Lib.hid hpv
  have HPB := Lib.hid hpb
  have HG0 := Lib.hid hg
  obtain ⟨x1, x2⟩ := getB_no' hb
  have hG := refRingGetEmpty y S w (by have := h.ring i y hy; rw [x1, x2] at this; exact this)
  obtain ⟨a0, c0, hbk, _⟩ := h.top
  have cc1 := hbk.cell 1
  clear hfd hle hle2 hpv hpb hb x1 x2 hbk hn0
  rcases fair_why hf with rfl | ⟨a1, a2⟩ | ⟨a1, a2, a3⟩
  · clear hf hg cc1
    rcases hasP_cases n vic with ⟨_, v1 | ⟨v1, v2⟩⟩ | ⟨q, rfl, v1⟩
    · have e : stealV st i n vic = st := stealV_no (.inl (decide_eq_false (by omega)))
      rw [e] at hst2
      subst hst2
      have v3 : decide (vic ≥ 0) = false := decide_eq_false (by omega)
      have v4 : ¬ 0 ≤ vic := by omega
      clear e
      go_enter Try.func53, Try.ntmps53
      go_wp2_with fail
      refine hG.mono ?_; rintro e w2 ⟨rfl, rfl⟩
      clear hG
      go_upto_region 10 with fail
      have hd := h.still ((Ch.refl [] w2).drewN 1)
      obtain ⟨W9, hW9⟩ : ∃ W9, w2.drewN 1 = W9 := ⟨_, rfl⟩
      have cd : Ch [] w2 W9 := by rw [← hW9]; exact (Ch.refl [] w2).drewN 1
      rw [hW9] at hd
      obtain ⟨L, hL⟩ : ∃ L : World → Prop, ∀ w', L w' ↔ (w'.cell? ⟨r, 0, none⟩ = some (.slice (some ⟨gg, oo, none⟩) n cap)) := ⟨_, fun _ => Iff.rfl⟩
      have hS1 : ∀ y : { w' : World // L w' }, y.1.cell? ⟨r, 0, none⟩ = some (.slice (some ⟨gg, oo, none⟩) n cap) := fun y => (hL _).1 y.2
      have HL := Lib.hid hL
      have l9 : L W9 := (hL _).2 (HFD.out W9 S st hd).1
      have hSA : Nonempty { w' : World // L w' } := ⟨⟨_, l9⟩⟩
      clear hL
      refine wp_region_plan (Cls L) (List.range 10) (.reads [0, 1, 2, 3, 4, 5, 6, 7] (.only 8 (.reads [9] .done))) (by kernel_rfl) (by kernel_rfl) (fun _ _ _ _ _ h => h) ?_
      simp only [Plan.pures, Plan.reads, Plan.only, List.foldr_cons, List.foldr_nil]
      rw [hW9]
      clear hW9 h q0 q1
      iterate 8 (refine wpPlan_readS l9 (fun K hK => ?_); simp only [List.getD_cons_zero, List.getD_cons_succ]; go_simp; refine hK _ ?_; clear hK K)
      refine wpPlan_only (fun K hK => ?_)
      simp only [List.getD_cons_zero, List.getD_cons_succ]
      go_simp
      refine (refQGetIn n 64 0 hd (by rw [HG0.out]; simp) (by rw [HG0.out]; simp; omega)).mono ?_; rintro e w3 ⟨a1, c1, rfl, L3, h3, c3⟩
      rw [List.take_zero, List.length_nil]
      rw [List.drop_zero] at h3
      replace h3 : RefAt w3 S r (.slice (some ⟨gg, oo, none⟩) n cap) Y st := h3
      have l3 : L w3 := (HL.out _).2 (HFD.out w3 S _ h3).1
      refine hK _ _ (fun _ => Cls.mk l3) ?_
      clear hK K l9
      refine wpPlan_readS l3 (fun K hK => ?_); simp only [List.getD_cons_zero, List.getD_cons_succ]; go_simp; refine hK _ ?_; clear hK K
      refine wpPlan_done ?_
      clear l3 hS1 hSA HL hd L3
      have cw3 : Ch (ownR r (.slice (some ⟨gg, oo, none⟩) n cap) Y) w2 w3 := (cd.mono (by simp)).trans (c3.mono (fun q hq => by simp at hq; subst hq; exact .inl (mem_ownR.2 (.inl rfl))))
      obtain ⟨q0, q1⟩ := HFD.out w3 S st h3
      clear cd c3
      have hG := getRefS h3 hy (HLE2.out i)
      rw [HPV.out, HPB.out] at hG
      clear h3
      go_wp2_with fail
      refine hG.mono ?_; rintro e w5 ⟨rfl, h5, c5⟩
      have hfin : RefT w2 S r (.slice (some ⟨gg, oo, none⟩) n cap) Y (getSt st i) w5 := ⟨h5, cw3.trans (own_y hy c5)⟩
      clear hG h5 c5
      go_wp2_with fail
      go_ret2
      exact ⟨rfl, hfin⟩
    · have e : stealV st i n vic = st := stealV_no (.inl (decide_eq_false (by omega)))
      rw [e] at hst2
      subst hst2
      have v3 : decide (vic ≥ 0) = true := decide_eq_true v1
      have v4 : ¬ vic < (n : Int) := by omega
      clear e
      go_enter Try.func53, Try.ntmps53
      go_wp2_with fail
      refine hG.mono ?_; rintro e w2 ⟨rfl, rfl⟩
      clear hG
      go_upto_region 10 with fail
      have hd := h.still ((Ch.refl [] w2).drewN 1)
      obtain ⟨W9, hW9⟩ : ∃ W9, w2.drewN 1 = W9 := ⟨_, rfl⟩
      have cd : Ch [] w2 W9 := by rw [← hW9]; exact (Ch.refl [] w2).drewN 1
      rw [hW9] at hd
      obtain ⟨L, hL⟩ : ∃ L : World → Prop, ∀ w', L w' ↔ (w'.cell? ⟨r, 0, none⟩ = some (.slice (some ⟨gg, oo, none⟩) n cap)) := ⟨_, fun _ => Iff.rfl⟩
      have hS1 : ∀ y : { w' : World // L w' }, y.1.cell? ⟨r, 0, none⟩ = some (.slice (some ⟨gg, oo, none⟩) n cap) := fun y => (hL _).1 y.2
      have HL := Lib.hid hL
      have l9 : L W9 := (hL _).2 (HFD.out W9 S st hd).1
      have hSA : Nonempty { w' : World // L w' } := ⟨⟨_, l9⟩⟩
      clear hL
      refine wp_region_plan (Cls L) (List.range 10) (.reads [0, 1, 2, 3, 4, 5, 6, 7] (.only 8 (.reads [9] .done))) (by kernel_rfl) (by kernel_rfl) (fun _ _ _ _ _ h => h) ?_
      simp only [Plan.pures, Plan.reads, Plan.only, List.foldr_cons, List.foldr_nil]
      rw [hW9]
      clear hW9 h q0 q1
      iterate 8 (refine wpPlan_readS l9 (fun K hK => ?_); simp only [List.getD_cons_zero, List.getD_cons_succ]; go_simp; refine hK _ ?_; clear hK K)
      refine wpPlan_only (fun K hK => ?_)
      simp only [List.getD_cons_zero, List.getD_cons_succ]
      go_simp
      refine (refQGetIn n 64 0 hd (by rw [HG0.out]; simp) (by rw [HG0.out]; simp; omega)).mono ?_; rintro e w3 ⟨a1, c1, rfl, L3, h3, c3⟩
      rw [List.take_zero, List.length_nil]
      rw [List.drop_zero] at h3
      replace h3 : RefAt w3 S r (.slice (some ⟨gg, oo, none⟩) n cap) Y st := h3
      have l3 : L w3 := (HL.out _).2 (HFD.out w3 S _ h3).1
      refine hK _ _ (fun _ => Cls.mk l3) ?_
      clear hK K l9
      refine wpPlan_readS l3 (fun K hK => ?_); simp only [List.getD_cons_zero, List.getD_cons_succ]; go_simp; refine hK _ ?_; clear hK K
      refine wpPlan_done ?_
      clear l3 hS1 hSA HL hd L3
      have cw3 : Ch (ownR r (.slice (some ⟨gg, oo, none⟩) n cap) Y) w2 w3 := (cd.mono (by simp)).trans (c3.mono (fun q hq => by simp at hq; subst hq; exact .inl (mem_ownR.2 (.inl rfl))))
      obtain ⟨q0, q1⟩ := HFD.out w3 S st h3
      clear cd c3
      have hG := getRefS h3 hy (HLE2.out i)
      rw [HPV.out, HPB.out] at hG
      clear h3
      go_wp2_with fail
      refine hG.mono ?_; rintro e w5 ⟨rfl, h5, c5⟩
      have hfin : RefT w2 S r (.slice (some ⟨gg, oo, none⟩) n cap) Y (getSt st i) w5 := ⟨h5, cw3.trans (own_y hy c5)⟩
      clear hG h5 c5
      go_wp2_with fail
      go_ret2
      exact ⟨rfl, hfin⟩
    · by_cases hqi : q = i
      · obtain rfl : i = q := hqi.symm
        have e : stealV st i n (i : Int) = st := stealV_no (.inr rfl)
        rw [e] at hst2
        subst hst2
        have v5 : ((i : Int) != (i : Int)) = false := by simp
        clear e
        go_enter Try.func53, Try.ntmps53
        go_wp2_with fail
        refine hG.mono ?_; rintro e w2 ⟨rfl, rfl⟩
        clear hG
        go_upto_region 10 with fail
        have hd := h.still ((Ch.refl [] w2).drewN 1)
        obtain ⟨W9, hW9⟩ : ∃ W9, w2.drewN 1 = W9 := ⟨_, rfl⟩
        have cd : Ch [] w2 W9 := by rw [← hW9]; exact (Ch.refl [] w2).drewN 1
        rw [hW9] at hd
        obtain ⟨L, hL⟩ : ∃ L : World → Prop, ∀ w', L w' ↔ (w'.cell? ⟨r, 0, none⟩ = some (.slice (some ⟨gg, oo, none⟩) n cap)) := ⟨_, fun _ => Iff.rfl⟩
        have hS1 : ∀ y : { w' : World // L w' }, y.1.cell? ⟨r, 0, none⟩ = some (.slice (some ⟨gg, oo, none⟩) n cap) := fun y => (hL _).1 y.2
        have HL := Lib.hid hL
        have l9 : L W9 := (hL _).2 (HFD.out W9 S st hd).1
        have hSA : Nonempty { w' : World // L w' } := ⟨⟨_, l9⟩⟩
        clear hL
        refine wp_region_plan (Cls L) (List.range 10) (.reads [0, 1, 2, 3, 4, 5, 6, 7] (.only 8 (.reads [9] .done))) (by kernel_rfl) (by kernel_rfl) (fun _ _ _ _ _ h => h) ?_
        simp only [Plan.pures, Plan.reads, Plan.only, List.foldr_cons, List.foldr_nil]
        rw [hW9]
        clear hW9 h q0 q1
        iterate 8 (refine wpPlan_readS l9 (fun K hK => ?_); simp only [List.getD_cons_zero, List.getD_cons_succ]; go_simp; refine hK _ ?_; clear hK K)
        refine wpPlan_only (fun K hK => ?_)
        simp only [List.getD_cons_zero, List.getD_cons_succ]
        go_simp
        refine (refQGetIn n 64 0 hd (by rw [HG0.out]; simp) (by rw [HG0.out]; simp; omega)).mono ?_; rintro e w3 ⟨a1, c1, rfl, L3, h3, c3⟩
        rw [List.take_zero, List.length_nil]
        rw [List.drop_zero] at h3
        replace h3 : RefAt w3 S r (.slice (some ⟨gg, oo, none⟩) n cap) Y st := h3
        have l3 : L w3 := (HL.out _).2 (HFD.out w3 S _ h3).1
        refine hK _ _ (fun _ => Cls.mk l3) ?_
        clear hK K l9
        refine wpPlan_readS l3 (fun K hK => ?_); simp only [List.getD_cons_zero, List.getD_cons_succ]; go_simp; refine hK _ ?_; clear hK K
        refine wpPlan_done ?_
        clear l3 hS1 hSA HL hd L3
        have cw3 : Ch (ownR r (.slice (some ⟨gg, oo, none⟩) n cap) Y) w2 w3 := (cd.mono (by simp)).trans (c3.mono (fun q hq => by simp at hq; subst hq; exact .inl (mem_ownR.2 (.inl rfl))))
        obtain ⟨q0, q1⟩ := HFD.out w3 S st h3
        clear cd c3
        have hG := getRefS h3 hy (HLE2.out i)
        rw [HPV.out, HPB.out] at hG
        clear h3
        go_wp2_with fail
        refine hG.mono ?_; rintro e w5 ⟨rfl, h5, c5⟩
        have hfin : RefT w2 S r (.slice (some ⟨gg, oo, none⟩) n cap) Y (getSt st i) w5 := ⟨h5, cw3.trans (own_y hy c5)⟩
        clear hG h5 c5
        go_wp2_with fail
        go_ret2
        exact ⟨rfl, hfin⟩
      · have e : stealV st i n (q : Int) = stealS st i q := stealV_yes v1 hqi
        rw [e] at hst2
        have v3 : decide ((q : Int) ≥ 0) = true := decide_eq_true (by omega)
        have v4 : (q : Int) < n := by omega
        have v5 : ((q : Int) != (i : Int)) = true := by simp; omega
        have v6 : ¬ (q : Int) = (i : Int) := by omega
        have v7 : (0 : Int) ≤ q := by omega
        obtain ⟨z, hz⟩ : ∃ z, Y[q]? = some z := ⟨_, List.getElem?_eq_getElem (by have := HN.out; omega)⟩
        have HST := Lib.hid hst2
        clear e hst2
        go_enter Try.func53, Try.ntmps53
        go_wp2_with fail
        refine hG.mono ?_; rintro e w2 ⟨rfl, rfl⟩
        clear hG
        go_upto_region 10 with fail
        have hd := h.still ((Ch.refl [] w2).drewN 1)
        obtain ⟨W9, hW9⟩ : ∃ W9, w2.drewN 1 = W9 := ⟨_, rfl⟩
        have cd : Ch [] w2 W9 := by rw [← hW9]; exact (Ch.refl [] w2).drewN 1
        rw [hW9] at hd
        obtain ⟨L, hL⟩ : ∃ L : World → Prop, ∀ w', L w' ↔ (w'.cell? ⟨r, 0, none⟩ = some (.slice (some ⟨gg, oo, none⟩) n cap)) := ⟨_, fun _ => Iff.rfl⟩
        have hS1 : ∀ y : { w' : World // L w' }, y.1.cell? ⟨r, 0, none⟩ = some (.slice (some ⟨gg, oo, none⟩) n cap) := fun y => (hL _).1 y.2
        have HL := Lib.hid hL
        have l9 : L W9 := (hL _).2 (HFD.out W9 S st hd).1
        have hSA : Nonempty { w' : World // L w' } := ⟨⟨_, l9⟩⟩
        clear hL
        refine wp_region_plan (Cls L) (List.range 10) (.reads [0, 1, 2, 3, 4, 5, 6, 7] (.only 8 (.reads [9] .done))) (by kernel_rfl) (by kernel_rfl) (fun _ _ _ _ _ h => h) ?_
        simp only [Plan.pures, Plan.reads, Plan.only, List.foldr_cons, List.foldr_nil]
        rw [hW9]
        clear hW9 h q0 q1
        iterate 8 (refine wpPlan_readS l9 (fun K hK => ?_); simp only [List.getD_cons_zero, List.getD_cons_succ]; go_simp; refine hK _ ?_; clear hK K)
        refine wpPlan_only (fun K hK => ?_)
        simp only [List.getD_cons_zero, List.getD_cons_succ]
        go_simp
        refine (refQGetIn n 64 0 hd (by rw [HG0.out]; simp) (by rw [HG0.out]; simp; omega)).mono ?_; rintro e w3 ⟨a1, c1, rfl, L3, h3, c3⟩
        rw [List.take_zero, List.length_nil]
        rw [List.drop_zero] at h3
        replace h3 : RefAt w3 S r (.slice (some ⟨gg, oo, none⟩) n cap) Y st := h3
        have l3 : L w3 := (HL.out _).2 (HFD.out w3 S _ h3).1
        refine hK _ _ (fun _ => Cls.mk l3) ?_
        clear hK K l9
        refine wpPlan_readS l3 (fun K hK => ?_); simp only [List.getD_cons_zero, List.getD_cons_succ]; go_simp; refine hK _ ?_; clear hK K
        refine wpPlan_done ?_
        clear l3 hS1 hSA HL hd L3
        have cw3 : Ch (ownR r (.slice (some ⟨gg, oo, none⟩) n cap) Y) w2 w3 := (cd.mono (by simp)).trans (c3.mono (fun q hq => by simp at hq; subst hq; exact .inl (mem_ownR.2 (.inl rfl))))
        obtain ⟨q0, q1⟩ := HFD.out w3 S st h3
        clear cd c3
        obtain ⟨gg', oo', cap', e', _, hfq⟩ := h3.cells hz
        have hcz : ∀ w' st', RefAt w' S r (.slice (some ⟨gg, oo, none⟩) n cap) Y st' → w'.cell? ⟨gg, oo + q, none⟩ = some (.pointer (some ⟨z, 0, none⟩)) := fun w' st' h' => by
          simp only [Value.slice.injEq, Option.some.injEq, Addr.mk.injEq, and_true, true_and] at e'
          obtain ⟨⟨rfl, rfl⟩, _⟩ := e'
          exact (hfq w' S st' h').2
        have HCZ := Lib.hid hcz
        clear hcz hfq e'
        go_upto_region 18 with fail
        have hd := h3.still ((Ch.refl [] w3).drewN 1)
        obtain ⟨W9, hW9⟩ : ∃ W9, w3.drewN 1 = W9 := ⟨_, rfl⟩
        have cd : Ch [] w3 W9 := by rw [← hW9]; exact (Ch.refl [] w3).drewN 1
        rw [hW9] at hd
        obtain ⟨L, hL⟩ : ∃ L : World → Prop, ∀ w', L w' ↔ (w'.cell? ⟨r, 0, none⟩ = some (.slice (some ⟨gg, oo, none⟩) n cap) ∧ w'.cell? ⟨gg, oo + i, none⟩ = some (.pointer (some ⟨y, 0, none⟩)) ∧ w'.cell? ⟨gg, oo + q, none⟩ = some (.pointer (some ⟨z, 0, none⟩))) := ⟨_, fun _ => Iff.rfl⟩
        have hS1 : ∀ y : { w' : World // L w' }, y.1.cell? ⟨r, 0, none⟩ = some (.slice (some ⟨gg, oo, none⟩) n cap) := fun y => ((hL _).1 y.2).1
        have hS2 : ∀ x : { w' : World // L w' }, x.1.cell? ⟨gg, oo + i, none⟩ = some (.pointer (some ⟨y, 0, none⟩)) := fun x => ((hL _).1 x.2).2.1
        have hS3 : ∀ x : { w' : World // L w' }, x.1.cell? ⟨gg, oo + q, none⟩ = some (.pointer (some ⟨z, 0, none⟩)) := fun x => ((hL _).1 x.2).2.2
        have hLk : ∀ w' st', RefAt w' S r (.slice (some ⟨gg, oo, none⟩) n cap) Y st' → L w' := fun w' st' h' => (hL _).2 ⟨(HFD.out w' S st' h').1, (HFD.out w' S st' h').2, HCZ.out w' st' h'⟩
        have HLk := Lib.hid hLk
        have l9 := hLk _ _ hd
        have hSA : Nonempty { w' : World // L w' } := ⟨⟨_, l9⟩⟩
        clear hL hLk
        refine wp_region_plan (Cls L) (List.range 15) (.reads [0, 1, 2, 3, 4, 5, 6, 7, 8, 9, 10, 11, 12, 13] (.only 14 .done)) (by kernel_rfl) (by kernel_rfl) (fun _ _ _ _ _ h => h) ?_
        simp only [Plan.pures, Plan.reads, Plan.only, List.foldr_cons, List.foldr_nil]
        rw [hW9]
        clear hW9 h3 q0 q1
        iterate 14 (refine wpPlan_readS l9 (fun K hK => ?_); simp only [List.getD_cons_zero, List.getD_cons_succ]; go_simp; refine hK _ ?_; clear hK K)
        refine wpPlan_only (fun K hK => ?_)
        simp only [List.getD_cons_zero, List.getD_cons_succ]
        go_simp
        refine (stealRefS hd hy hz hqi HLE.out).mono ?_; rintro e w4 ⟨⟨kk, rfl⟩, h4, c4⟩
        rw [HST.out] at h4
        refine hK _ _ (fun _ => Cls.mk (HLk.out _ _ h4)) ?_
        clear hK K l9
        refine wpPlan_done ?_
        have cw4 := cw3.trans ((cd.mono (by simp)).trans c4)
        obtain ⟨q0, q1⟩ := HFD.out w4 S st2 h4
        clear hS1 hS2 hS3 hSA HLk hd cd c4 cw3
        have hG := getRefS h4 hy (HLE2.out i)
        rw [HPV.out, HPB.out] at hG
        clear h4
        go_wp2_with fail
        refine hG.mono ?_; rintro e w5 ⟨rfl, h5, c5⟩
        have hfin : RefT w2 S r (.slice (some ⟨gg, oo, none⟩) n cap) Y (getSt st2 i) w5 := ⟨h5, cw4.trans (own_y hy c5)⟩
        clear hG h5 c5
        go_wp2_with fail
        go_ret2
        exact ⟨rfl, hfin⟩
  · have z0 : (tick != 0) = true := by simpa using a1
    obtain ⟨m, hm⟩ : ∃ m, tick.tmod 61 = m := ⟨_, rfl⟩
    rw [hm] at a2
    have z1 : (m == 0) = false := by rw [beq_eq_false_iff_ne]; exact a2
    clear hf hg cc1
    rcases hasP_cases n vic with ⟨_, v1 | ⟨v1, v2⟩⟩ | ⟨q, rfl, v1⟩
    · have e : stealV st i n vic = st := stealV_no (.inl (decide_eq_false (by omega)))
      rw [e] at hst2
      subst hst2
      have v3 : decide (vic ≥ 0) = false := decide_eq_false (by omega)
      have v4 : ¬ 0 ≤ vic := by omega
      clear e
      go_enter Try.func53, Try.ntmps53
      go_wp2_with fail
      refine hG.mono ?_; rintro e w2 ⟨rfl, rfl⟩
      clear hG
      go_upto_region 10 with fail
      have hd := h.still ((Ch.refl [] w2).drewN 1)
      obtain ⟨W9, hW9⟩ : ∃ W9, w2.drewN 1 = W9 := ⟨_, rfl⟩
      have cd : Ch [] w2 W9 := by rw [← hW9]; exact (Ch.refl [] w2).drewN 1
      rw [hW9] at hd
      obtain ⟨L, hL⟩ : ∃ L : World → Prop, ∀ w', L w' ↔ (w'.cell? ⟨r, 0, none⟩ = some (.slice (some ⟨gg, oo, none⟩) n cap)) := ⟨_, fun _ => Iff.rfl⟩
      have hS1 : ∀ y : { w' : World // L w' }, y.1.cell? ⟨r, 0, none⟩ = some (.slice (some ⟨gg, oo, none⟩) n cap) := fun y => (hL _).1 y.2
      have HL := Lib.hid hL
      have l9 : L W9 := (hL _).2 (HFD.out W9 S st hd).1
      have hSA : Nonempty { w' : World // L w' } := ⟨⟨_, l9⟩⟩
      clear hL
      refine wp_region_plan (Cls L) (List.range 10) (.reads [0, 1, 2, 3, 4, 5, 6, 7] (.only 8 (.reads [9] .done))) (by kernel_rfl) (by kernel_rfl) (fun _ _ _ _ _ h => h) ?_
      simp only [Plan.pures, Plan.reads, Plan.only, List.foldr_cons, List.foldr_nil]
      rw [hW9]
      clear hW9 h q0 q1
      iterate 8 (refine wpPlan_readS l9 (fun K hK => ?_); simp only [List.getD_cons_zero, List.getD_cons_succ]; go_simp; refine hK _ ?_; clear hK K)
      refine wpPlan_only (fun K hK => ?_)
      simp only [List.getD_cons_zero, List.getD_cons_succ]
      go_simp
      refine (refQGetIn n 64 0 hd (by rw [HG0.out]; simp) (by rw [HG0.out]; simp; omega)).mono ?_; rintro e w3 ⟨a1, c1, rfl, L3, h3, c3⟩
      rw [List.take_zero, List.length_nil]
      rw [List.drop_zero] at h3
      replace h3 : RefAt w3 S r (.slice (some ⟨gg, oo, none⟩) n cap) Y st := h3
      have l3 : L w3 := (HL.out _).2 (HFD.out w3 S _ h3).1
      refine hK _ _ (fun _ => Cls.mk l3) ?_
      clear hK K l9
      refine wpPlan_readS l3 (fun K hK => ?_); simp only [List.getD_cons_zero, List.getD_cons_succ]; go_simp; refine hK _ ?_; clear hK K
      refine wpPlan_done ?_
      clear l3 hS1 hSA HL hd L3
      have cw3 : Ch (ownR r (.slice (some ⟨gg, oo, none⟩) n cap) Y) w2 w3 := (cd.mono (by simp)).trans (c3.mono (fun q hq => by simp at hq; subst hq; exact .inl (mem_ownR.2 (.inl rfl))))
      obtain ⟨q0, q1⟩ := HFD.out w3 S st h3
      clear cd c3
      have hG := getRefS h3 hy (HLE2.out i)
      rw [HPV.out, HPB.out] at hG
      clear h3
      go_wp2_with fail
      refine hG.mono ?_; rintro e w5 ⟨rfl, h5, c5⟩
      have hfin : RefT w2 S r (.slice (some ⟨gg, oo, none⟩) n cap) Y (getSt st i) w5 := ⟨h5, cw3.trans (own_y hy c5)⟩
      clear hG h5 c5
      go_wp2_with fail
      go_ret2
      exact ⟨rfl, hfin⟩
    · have e : stealV st i n vic = st := stealV_no (.inl (decide_eq_false (by omega)))
      rw [e] at hst2
      subst hst2
      have v3 : decide (vic ≥ 0) = true := decide_eq_true v1
      have v4 : ¬ vic < (n : Int) := by omega
      clear e
      go_enter Try.func53, Try.ntmps53
      go_wp2_with fail
      refine hG.mono ?_; rintro e w2 ⟨rfl, rfl⟩
      clear hG
      go_upto_region 10 with fail
      have hd := h.still ((Ch.refl [] w2).drewN 1)
      obtain ⟨W9, hW9⟩ : ∃ W9, w2.drewN 1 = W9 := ⟨_, rfl⟩
      have cd : Ch [] w2 W9 := by rw [← hW9]; exact (Ch.refl [] w2).drewN 1
      rw [hW9] at hd
      obtain ⟨L, hL⟩ : ∃ L : World → Prop, ∀ w', L w' ↔ (w'.cell? ⟨r, 0, none⟩ = some (.slice (some ⟨gg, oo, none⟩) n cap)) := ⟨_, fun _ => Iff.rfl⟩
      have hS1 : ∀ y : { w' : World // L w' }, y.1.cell? ⟨r, 0, none⟩ = some (.slice (some ⟨gg, oo, none⟩) n cap) := fun y => (hL _).1 y.2
      have HL := Lib.hid hL
      have l9 : L W9 := (hL _).2 (HFD.out W9 S st hd).1
      have hSA : Nonempty { w' : World // L w' } := ⟨⟨_, l9⟩⟩
      clear hL
      refine wp_region_plan (Cls L) (List.range 10) (.reads [0, 1, 2, 3, 4, 5, 6, 7] (.only 8 (.reads [9] .done))) (by kernel_rfl) (by kernel_rfl) (fun _ _ _ _ _ h => h) ?_
      simp only [Plan.pures, Plan.reads, Plan.only, List.foldr_cons, List.foldr_nil]
      rw [hW9]
      clear hW9 h q0 q1
      iterate 8 (refine wpPlan_readS l9 (fun K hK => ?_); simp only [List.getD_cons_zero, List.getD_cons_succ]; go_simp; refine hK _ ?_; clear hK K)
      refine wpPlan_only (fun K hK => ?_)
      simp only [List.getD_cons_zero, List.getD_cons_succ]
      go_simp
      refine (refQGetIn n 64 0 hd (by rw [HG0.out]; simp) (by rw [HG0.out]; simp; omega)).mono ?_; rintro e w3 ⟨a1, c1, rfl, L3, h3, c3⟩
      rw [List.take_zero, List.length_nil]
      rw [List.drop_zero] at h3
      replace h3 : RefAt w3 S r (.slice (some ⟨gg, oo, none⟩) n cap) Y st := h3
      have l3 : L w3 := (HL.out _).2 (HFD.out w3 S _ h3).1
      refine hK _ _ (fun _ => Cls.mk l3) ?_
      clear hK K l9
      refine wpPlan_readS l3 (fun K hK => ?_); simp only [List.getD_cons_zero, List.getD_cons_succ]; go_simp; refine hK _ ?_; clear hK K
      refine wpPlan_done ?_
      clear l3 hS1 hSA HL hd L3
      have cw3 : Ch (ownR r (.slice (some ⟨gg, oo, none⟩) n cap) Y) w2 w3 := (cd.mono (by simp)).trans (c3.mono (fun q hq => by simp at hq; subst hq; exact .inl (mem_ownR.2 (.inl rfl))))
      obtain ⟨q0, q1⟩ := HFD.out w3 S st h3
      clear cd c3
      have hG := getRefS h3 hy (HLE2.out i)
      rw [HPV.out, HPB.out] at hG
      clear h3
      go_wp2_with fail
      refine hG.mono ?_; rintro e w5 ⟨rfl, h5, c5⟩
      have hfin : RefT w2 S r (.slice (some ⟨gg, oo, none⟩) n cap) Y (getSt st i) w5 := ⟨h5, cw3.trans (own_y hy c5)⟩
      clear hG h5 c5
      go_wp2_with fail
      go_ret2
      exact ⟨rfl, hfin⟩
    · by_cases hqi : q = i
      · obtain rfl : i = q := hqi.symm
        have e : stealV st i n (i : Int) = st := stealV_no (.inr rfl)
        rw [e] at hst2
        subst hst2
        have v5 : ((i : Int) != (i : Int)) = false := by simp
        clear e
        go_enter Try.func53, Try.ntmps53
        go_wp2_with fail
        refine hG.mono ?_; rintro e w2 ⟨rfl, rfl⟩
        clear hG
        go_upto_region 10 with fail
        have hd := h.still ((Ch.refl [] w2).drewN 1)
        obtain ⟨W9, hW9⟩ : ∃ W9, w2.drewN 1 = W9 := ⟨_, rfl⟩
        have cd : Ch [] w2 W9 := by rw [← hW9]; exact (Ch.refl [] w2).drewN 1
        rw [hW9] at hd
        obtain ⟨L, hL⟩ : ∃ L : World → Prop, ∀ w', L w' ↔ (w'.cell? ⟨r, 0, none⟩ = some (.slice (some ⟨gg, oo, none⟩) n cap)) := ⟨_, fun _ => Iff.rfl⟩
        have hS1 : ∀ y : { w' : World // L w' }, y.1.cell? ⟨r, 0, none⟩ = some (.slice (some ⟨gg, oo, none⟩) n cap) := fun y => (hL _).1 y.2
        have HL := Lib.hid hL
        have l9 : L W9 := (hL _).2 (HFD.out W9 S st hd).1
        have hSA : Nonempty { w' : World // L w' } := ⟨⟨_, l9⟩⟩
        clear hL
        refine wp_region_plan (Cls L) (List.range 10) (.reads [0, 1, 2, 3, 4, 5, 6, 7] (.only 8 (.reads [9] .done))) (by kernel_rfl) (by kernel_rfl) (fun _ _ _ _ _ h => h) ?_
        simp only [Plan.pures, Plan.reads, Plan.only, List.foldr_cons, List.foldr_nil]
        rw [hW9]
        clear hW9 h q0 q1
        iterate 8 (refine wpPlan_readS l9 (fun K hK => ?_); simp only [List.getD_cons_zero, List.getD_cons_succ]; go_simp; refine hK _ ?_; clear hK K)
        refine wpPlan_only (fun K hK => ?_)
        simp only [List.getD_cons_zero, List.getD_cons_succ]
        go_simp
        refine (refQGetIn n 64 0 hd (by rw [HG0.out]; simp) (by rw [HG0.out]; simp; omega)).mono ?_; rintro e w3 ⟨a1, c1, rfl, L3, h3, c3⟩
        rw [List.take_zero, List.length_nil]
        rw [List.drop_zero] at h3
        replace h3 : RefAt w3 S r (.slice (some ⟨gg, oo, none⟩) n cap) Y st := h3
        have l3 : L w3 := (HL.out _).2 (HFD.out w3 S _ h3).1
        refine hK _ _ (fun _ => Cls.mk l3) ?_
        clear hK K l9
        refine wpPlan_readS l3 (fun K hK => ?_); simp only [List.getD_cons_zero, List.getD_cons_succ]; go_simp; refine hK _ ?_; clear hK K
        refine wpPlan_done ?_
        clear l3 hS1 hSA HL hd L3
        have cw3 : Ch (ownR r (.slice (some ⟨gg, oo, none⟩) n cap) Y) w2 w3 := (cd.mono (by simp)).trans (c3.mono (fun q hq => by simp at hq; subst hq; exact .inl (mem_ownR.2 (.inl rfl))))
        obtain ⟨q0, q1⟩ := HFD.out w3 S st h3
        clear cd c3
        have hG := getRefS h3 hy (HLE2.out i)
        rw [HPV.out, HPB.out] at hG
        clear h3
        go_wp2_with fail
        refine hG.mono ?_; rintro e w5 ⟨rfl, h5, c5⟩
        have hfin : RefT w2 S r (.slice (some ⟨gg, oo, none⟩) n cap) Y (getSt st i) w5 := ⟨h5, cw3.trans (own_y hy c5)⟩
        clear hG h5 c5
        go_wp2_with fail
        go_ret2
        exact ⟨rfl, hfin⟩
      · have e : stealV st i n (q : Int) = stealS st i q := stealV_yes v1 hqi
        rw [e] at hst2
        have v3 : decide ((q : Int) ≥ 0) = true := decide_eq_true (by omega)
        have v4 : (q : Int) < n := by omega
        have v5 : ((q : Int) != (i : Int)) = true := by simp; omega
        have v6 : ¬ (q : Int) = (i : Int) := by omega
        have v7 : (0 : Int) ≤ q := by omega
        obtain ⟨z, hz⟩ : ∃ z, Y[q]? = some z := ⟨_, List.getElem?_eq_getElem (by have := HN.out; omega)⟩
        have HST := Lib.hid hst2
        clear e hst2
        go_enter Try.func53, Try.ntmps53
        go_wp2_with fail
        refine hG.mono ?_; rintro e w2 ⟨rfl, rfl⟩
        clear hG
        go_upto_region 10 with fail
        have hd := h.still ((Ch.refl [] w2).drewN 1)
        obtain ⟨W9, hW9⟩ : ∃ W9, w2.drewN 1 = W9 := ⟨_, rfl⟩
        have cd : Ch [] w2 W9 := by rw [← hW9]; exact (Ch.refl [] w2).drewN 1
        rw [hW9] at hd
        obtain ⟨L, hL⟩ : ∃ L : World → Prop, ∀ w', L w' ↔ (w'.cell? ⟨r, 0, none⟩ = some (.slice (some ⟨gg, oo, none⟩) n cap)) := ⟨_, fun _ => Iff.rfl⟩
        have hS1 : ∀ y : { w' : World // L w' }, y.1.cell? ⟨r, 0, none⟩ = some (.slice (some ⟨gg, oo, none⟩) n cap) := fun y => (hL _).1 y.2
        have HL := Lib.hid hL
        have l9 : L W9 := (hL _).2 (HFD.out W9 S st hd).1
        have hSA : Nonempty { w' : World // L w' } := ⟨⟨_, l9⟩⟩
        clear hL
        refine wp_region_plan (Cls L) (List.range 10) (.reads [0, 1, 2, 3, 4, 5, 6, 7] (.only 8 (.reads [9] .done))) (by kernel_rfl) (by kernel_rfl) (fun _ _ _ _ _ h => h) ?_
        simp only [Plan.pures, Plan.reads, Plan.only, List.foldr_cons, List.foldr_nil]
        rw [hW9]
        clear hW9 h q0 q1
        iterate 8 (refine wpPlan_readS l9 (fun K hK => ?_); simp only [List.getD_cons_zero, List.getD_cons_succ]; go_simp; refine hK _ ?_; clear hK K)
        refine wpPlan_only (fun K hK => ?_)
        simp only [List.getD_cons_zero, List.getD_cons_succ]
        go_simp
        refine (refQGetIn n 64 0 hd (by rw [HG0.out]; simp) (by rw [HG0.out]; simp; omega)).mono ?_; rintro e w3 ⟨a1, c1, rfl, L3, h3, c3⟩
        rw [List.take_zero, List.length_nil]
        rw [List.drop_zero] at h3
        replace h3 : RefAt w3 S r (.slice (some ⟨gg, oo, none⟩) n cap) Y st := h3
        have l3 : L w3 := (HL.out _).2 (HFD.out w3 S _ h3).1
        refine hK _ _ (fun _ => Cls.mk l3) ?_
        clear hK K l9
        refine wpPlan_readS l3 (fun K hK => ?_); simp only [List.getD_cons_zero, List.getD_cons_succ]; go_simp; refine hK _ ?_; clear hK K
        refine wpPlan_done ?_
        clear l3 hS1 hSA HL hd L3
        have cw3 : Ch (ownR r (.slice (some ⟨gg, oo, none⟩) n cap) Y) w2 w3 := (cd.mono (by simp)).trans (c3.mono (fun q hq => by simp at hq; subst hq; exact .inl (mem_ownR.2 (.inl rfl))))
        obtain ⟨q0, q1⟩ := HFD.out w3 S st h3
        clear cd c3
        obtain ⟨gg', oo', cap', e', _, hfq⟩ := h3.cells hz
        have hcz : ∀ w' st', RefAt w' S r (.slice (some ⟨gg, oo, none⟩) n cap) Y st' → w'.cell? ⟨gg, oo + q, none⟩ = some (.pointer (some ⟨z, 0, none⟩)) := fun w' st' h' => by
          simp only [Value.slice.injEq, Option.some.injEq, Addr.mk.injEq, and_true, true_and] at e'
          obtain ⟨⟨rfl, rfl⟩, _⟩ := e'
          exact (hfq w' S st' h').2
        have HCZ := Lib.hid hcz
        clear hcz hfq e'
        go_upto_region 18 with fail
        have hd := h3.still ((Ch.refl [] w3).drewN 1)
        obtain ⟨W9, hW9⟩ : ∃ W9, w3.drewN 1 = W9 := ⟨_, rfl⟩
        have cd : Ch [] w3 W9 := by rw [← hW9]; exact (Ch.refl [] w3).drewN 1
        rw [hW9] at hd
        obtain ⟨L, hL⟩ : ∃ L : World → Prop, ∀ w', L w' ↔ (w'.cell? ⟨r, 0, none⟩ = some (.slice (some ⟨gg, oo, none⟩) n cap) ∧ w'.cell? ⟨gg, oo + i, none⟩ = some (.pointer (some ⟨y, 0, none⟩)) ∧ w'.cell? ⟨gg, oo + q, none⟩ = some (.pointer (some ⟨z, 0, none⟩))) := ⟨_, fun _ => Iff.rfl⟩
        have hS1 : ∀ y : { w' : World // L w' }, y.1.cell? ⟨r, 0, none⟩ = some (.slice (some ⟨gg, oo, none⟩) n cap) := fun y => ((hL _).1 y.2).1
        have hS2 : ∀ x : { w' : World // L w' }, x.1.cell? ⟨gg, oo + i, none⟩ = some (.pointer (some ⟨y, 0, none⟩)) := fun x => ((hL _).1 x.2).2.1
        have hS3 : ∀ x : { w' : World // L w' }, x.1.cell? ⟨gg, oo + q, none⟩ = some (.pointer (some ⟨z, 0, none⟩)) := fun x => ((hL _).1 x.2).2.2
        have hLk : ∀ w' st', RefAt w' S r (.slice (some ⟨gg, oo, none⟩) n cap) Y st' → L w' := fun w' st' h' => (hL _).2 ⟨(HFD.out w' S st' h').1, (HFD.out w' S st' h').2, HCZ.out w' st' h'⟩
        have HLk := Lib.hid hLk
        have l9 := hLk _ _ hd
        have hSA : Nonempty { w' : World // L w' } := ⟨⟨_, l9⟩⟩
        clear hL hLk
        refine wp_region_plan (Cls L) (List.range 15) (.reads [0, 1, 2, 3, 4, 5, 6, 7, 8, 9, 10, 11, 12, 13] (.only 14 .done)) (by kernel_rfl) (by kernel_rfl) (fun _ _ _ _ _ h => h) ?_
        simp only [Plan.pures, Plan.reads, Plan.only, List.foldr_cons, List.foldr_nil]
        rw [hW9]
        clear hW9 h3 q0 q1
        iterate 14 (refine wpPlan_readS l9 (fun K hK => ?_); simp only [List.getD_cons_zero, List.getD_cons_succ]; go_simp; refine hK _ ?_; clear hK K)
        refine wpPlan_only (fun K hK => ?_)
        simp only [List.getD_cons_zero, List.getD_cons_succ]
        go_simp
        refine (stealRefS hd hy hz hqi HLE.out).mono ?_; rintro e w4 ⟨⟨kk, rfl⟩, h4, c4⟩
        rw [HST.out] at h4
        refine hK _ _ (fun _ => Cls.mk (HLk.out _ _ h4)) ?_
        clear hK K l9
        refine wpPlan_done ?_
        have cw4 := cw3.trans ((cd.mono (by simp)).trans c4)
        obtain ⟨q0, q1⟩ := HFD.out w4 S st2 h4
        clear hS1 hS2 hS3 hSA HLk hd cd c4 cw3
        have hG := getRefS h4 hy (HLE2.out i)
        rw [HPV.out, HPB.out] at hG
        clear h4
        go_wp2_with fail
        refine hG.mono ?_; rintro e w5 ⟨rfl, h5, c5⟩
        have hfin : RefT w2 S r (.slice (some ⟨gg, oo, none⟩) n cap) Y (getSt st2 i) w5 := ⟨h5, cw4.trans (own_y hy c5)⟩
        clear hG h5 c5
        go_wp2_with fail
        go_ret2
        exact ⟨rfl, hfin⟩
  · have z0 : (tick != 0) = true := by simpa using a1
    rw [a3, List.length_nil] at cc1
    clear hf hg a3
    rcases hasP_cases n vic with ⟨_, v1 | ⟨v1, v2⟩⟩ | ⟨q, rfl, v1⟩
    · have e : stealV st i n vic = st := stealV_no (.inl (decide_eq_false (by omega)))
      rw [e] at hst2
      subst hst2
      have v3 : decide (vic ≥ 0) = false := decide_eq_false (by omega)
      have v4 : ¬ 0 ≤ vic := by omega
      clear e
      go_enter Try.func53, Try.ntmps53
      go_wp2_with fail
      refine hG.mono ?_; rintro e w2 ⟨rfl, rfl⟩
      clear hG
      go_upto_region 10 with fail
      have hd := h.still ((Ch.refl [] w2).drewN 1)
      obtain ⟨W9, hW9⟩ : ∃ W9, w2.drewN 1 = W9 := ⟨_, rfl⟩
      have cd : Ch [] w2 W9 := by rw [← hW9]; exact (Ch.refl [] w2).drewN 1
      rw [hW9] at hd
      obtain ⟨L, hL⟩ : ∃ L : World → Prop, ∀ w', L w' ↔ (w'.cell? ⟨r, 0, none⟩ = some (.slice (some ⟨gg, oo, none⟩) n cap)) := ⟨_, fun _ => Iff.rfl⟩
      have hS1 : ∀ y : { w' : World // L w' }, y.1.cell? ⟨r, 0, none⟩ = some (.slice (some ⟨gg, oo, none⟩) n cap) := fun y => (hL _).1 y.2
      have HL := Lib.hid hL
      have l9 : L W9 := (hL _).2 (HFD.out W9 S st hd).1
      have hSA : Nonempty { w' : World // L w' } := ⟨⟨_, l9⟩⟩
      clear hL
      refine wp_region_plan (Cls L) (List.range 10) (.reads [0, 1, 2, 3, 4, 5, 6, 7] (.only 8 (.reads [9] .done))) (by kernel_rfl) (by kernel_rfl) (fun _ _ _ _ _ h => h) ?_
      simp only [Plan.pures, Plan.reads, Plan.only, List.foldr_cons, List.foldr_nil]
      rw [hW9]
      clear hW9 h q0 q1
      iterate 8 (refine wpPlan_readS l9 (fun K hK => ?_); simp only [List.getD_cons_zero, List.getD_cons_succ]; go_simp; refine hK _ ?_; clear hK K)
      refine wpPlan_only (fun K hK => ?_)
      simp only [List.getD_cons_zero, List.getD_cons_succ]
      go_simp
      refine (refQGetIn n 64 0 hd (by rw [HG0.out]; simp) (by rw [HG0.out]; simp; omega)).mono ?_; rintro e w3 ⟨a1, c1, rfl, L3, h3, c3⟩
      rw [List.take_zero, List.length_nil]
      rw [List.drop_zero] at h3
      replace h3 : RefAt w3 S r (.slice (some ⟨gg, oo, none⟩) n cap) Y st := h3
      have l3 : L w3 := (HL.out _).2 (HFD.out w3 S _ h3).1
      refine hK _ _ (fun _ => Cls.mk l3) ?_
      clear hK K l9
      refine wpPlan_readS l3 (fun K hK => ?_); simp only [List.getD_cons_zero, List.getD_cons_succ]; go_simp; refine hK _ ?_; clear hK K
      refine wpPlan_done ?_
      clear l3 hS1 hSA HL hd L3
      have cw3 : Ch (ownR r (.slice (some ⟨gg, oo, none⟩) n cap) Y) w2 w3 := (cd.mono (by simp)).trans (c3.mono (fun q hq => by simp at hq; subst hq; exact .inl (mem_ownR.2 (.inl rfl))))
      obtain ⟨q0, q1⟩ := HFD.out w3 S st h3
      clear cd c3
      have hG := getRefS h3 hy (HLE2.out i)
      rw [HPV.out, HPB.out] at hG
      clear h3
      go_wp2_with fail
      refine hG.mono ?_; rintro e w5 ⟨rfl, h5, c5⟩
      have hfin : RefT w2 S r (.slice (some ⟨gg, oo, none⟩) n cap) Y (getSt st i) w5 := ⟨h5, cw3.trans (own_y hy c5)⟩
      clear hG h5 c5
      go_wp2_with fail
      go_ret2
      exact ⟨rfl, hfin⟩
    · have e : stealV st i n vic = st := stealV_no (.inl (decide_eq_false (by omega)))
      rw [e] at hst2
      subst hst2
      have v3 : decide (vic ≥ 0) = true := decide_eq_true v1
      have v4 : ¬ vic < (n : Int) := by omega
      clear e
      go_enter Try.func53, Try.ntmps53
      go_wp2_with fail
      refine hG.mono ?_; rintro e w2 ⟨rfl, rfl⟩
      clear hG
      go_upto_region 10 with fail
      have hd := h.still ((Ch.refl [] w2).drewN 1)
      obtain ⟨W9, hW9⟩ : ∃ W9, w2.drewN 1 = W9 := ⟨_, rfl⟩
      have cd : Ch [] w2 W9 := by rw [← hW9]; exact (Ch.refl [] w2).drewN 1
      rw [hW9] at hd
      obtain ⟨L, hL⟩ : ∃ L : World → Prop, ∀ w', L w' ↔ (w'.cell? ⟨r, 0, none⟩ = some (.slice (some ⟨gg, oo, none⟩) n cap)) := ⟨_, fun _ => Iff.rfl⟩
      have hS1 : ∀ y : { w' : World // L w' }, y.1.cell? ⟨r, 0, none⟩ = some (.slice (some ⟨gg, oo, none⟩) n cap) := fun y => (hL _).1 y.2
      have HL := Lib.hid hL
      have l9 : L W9 := (hL _).2 (HFD.out W9 S st hd).1
      have hSA : Nonempty { w' : World // L w' } := ⟨⟨_, l9⟩⟩
      clear hL
      refine wp_region_plan (Cls L) (List.range 10) (.reads [0, 1, 2, 3, 4, 5, 6, 7] (.only 8 (.reads [9] .done))) (by kernel_rfl) (by kernel_rfl) (fun _ _ _ _ _ h => h) ?_
      simp only [Plan.pures, Plan.reads, Plan.only, List.foldr_cons, List.foldr_nil]
      rw [hW9]
      clear hW9 h q0 q1
      iterate 8 (refine wpPlan_readS l9 (fun K hK => ?_); simp only [List.getD_cons_zero, List.getD_cons_succ]; go_simp; refine hK _ ?_; clear hK K)
      refine wpPlan_only (fun K hK => ?_)
      simp only [List.getD_cons_zero, List.getD_cons_succ]
      go_simp
      refine (refQGetIn n 64 0 hd (by rw [HG0.out]; simp) (by rw [HG0.out]; simp; omega)).mono ?_; rintro e w3 ⟨a1, c1, rfl, L3, h3, c3⟩
      rw [List.take_zero, List.length_nil]
      rw [List.drop_zero] at h3
      replace h3 : RefAt w3 S r (.slice (some ⟨gg, oo, none⟩) n cap) Y st := h3
      have l3 : L w3 := (HL.out _).2 (HFD.out w3 S _ h3).1
      refine hK _ _ (fun _ => Cls.mk l3) ?_
      clear hK K l9
      refine wpPlan_readS l3 (fun K hK => ?_); simp only [List.getD_cons_zero, List.getD_cons_succ]; go_simp; refine hK _ ?_; clear hK K
      refine wpPlan_done ?_
      clear l3 hS1 hSA HL hd L3
      have cw3 : Ch (ownR r (.slice (some ⟨gg, oo, none⟩) n cap) Y) w2 w3 := (cd.mono (by simp)).trans (c3.mono (fun q hq => by simp at hq; subst hq; exact .inl (mem_ownR.2 (.inl rfl))))
      obtain ⟨q0, q1⟩ := HFD.out w3 S st h3
      clear cd c3
      have hG := getRefS h3 hy (HLE2.out i)
      rw [HPV.out, HPB.out] at hG
      clear h3
      go_wp2_with fail
      refine hG.mono ?_; rintro e w5 ⟨rfl, h5, c5⟩
      have hfin : RefT w2 S r (.slice (some ⟨gg, oo, none⟩) n cap) Y (getSt st i) w5 := ⟨h5, cw3.trans (own_y hy c5)⟩
      clear hG h5 c5
      go_wp2_with fail
      go_ret2
      exact ⟨rfl, hfin⟩
    · by_cases hqi : q = i
      · obtain rfl : i = q := hqi.symm
        have e : stealV st i n (i : Int) = st := stealV_no (.inr rfl)
        rw [e] at hst2
        subst hst2
        have v5 : ((i : Int) != (i : Int)) = false := by simp
        clear e
        go_enter Try.func53, Try.ntmps53
        go_wp2_with fail
        refine hG.mono ?_; rintro e w2 ⟨rfl, rfl⟩
        clear hG
        go_upto_region 10 with fail
        have hd := h.still ((Ch.refl [] w2).drewN 1)
        obtain ⟨W9, hW9⟩ : ∃ W9, w2.drewN 1 = W9 := ⟨_, rfl⟩
        have cd : Ch [] w2 W9 := by rw [← hW9]; exact (Ch.refl [] w2).drewN 1
        rw [hW9] at hd
        obtain ⟨L, hL⟩ : ∃ L : World → Prop, ∀ w', L w' ↔ (w'.cell? ⟨r, 0, none⟩ = some (.slice (some ⟨gg, oo, none⟩) n cap)) := ⟨_, fun _ => Iff.rfl⟩
        have hS1 : ∀ y : { w' : World // L w' }, y.1.cell? ⟨r, 0, none⟩ = some (.slice (some ⟨gg, oo, none⟩) n cap) := fun y => (hL _).1 y.2
        have HL := Lib.hid hL
        have l9 : L W9 := (hL _).2 (HFD.out W9 S st hd).1
        have hSA : Nonempty { w' : World // L w' } := ⟨⟨_, l9⟩⟩
        clear hL
        refine wp_region_plan (Cls L) (List.range 10) (.reads [0, 1, 2, 3, 4, 5, 6, 7] (.only 8 (.reads [9] .done))) (by kernel_rfl) (by kernel_rfl) (fun _ _ _ _ _ h => h) ?_
        simp only [Plan.pures, Plan.reads, Plan.only, List.foldr_cons, List.foldr_nil]
        rw [hW9]
        clear hW9 h q0 q1
        iterate 8 (refine wpPlan_readS l9 (fun K hK => ?_); simp only [List.getD_cons_zero, List.getD_cons_succ]; go_simp; refine hK _ ?_; clear hK K)
        refine wpPlan_only (fun K hK => ?_)
        simp only [List.getD_cons_zero, List.getD_cons_succ]
        go_simp
        refine (refQGetIn n 64 0 hd (by rw [HG0.out]; simp) (by rw [HG0.out]; simp; omega)).mono ?_; rintro e w3 ⟨a1, c1, rfl, L3, h3, c3⟩
        rw [List.take_zero, List.length_nil]
        rw [List.drop_zero] at h3
        replace h3 : RefAt w3 S r (.slice (some ⟨gg, oo, none⟩) n cap) Y st := h3
        have l3 : L w3 := (HL.out _).2 (HFD.out w3 S _ h3).1
        refine hK _ _ (fun _ => Cls.mk l3) ?_
        clear hK K l9
        refine wpPlan_readS l3 (fun K hK => ?_); simp only [List.getD_cons_zero, List.getD_cons_succ]; go_simp; refine hK _ ?_; clear hK K
        refine wpPlan_done ?_
        clear l3 hS1 hSA HL hd L3
        have cw3 : Ch (ownR r (.slice (some ⟨gg, oo, none⟩) n cap) Y) w2 w3 := (cd.mono (by simp)).trans (c3.mono (fun q hq => by simp at hq; subst hq; exact .inl (mem_ownR.2 (.inl rfl))))
        obtain ⟨q0, q1⟩ := HFD.out w3 S st h3
        clear cd c3
        have hG := getRefS h3 hy (HLE2.out i)
        rw [HPV.out, HPB.out] at hG
        clear h3
        go_wp2_with fail
        refine hG.mono ?_; rintro e w5 ⟨rfl, h5, c5⟩
        have hfin : RefT w2 S r (.slice (some ⟨gg, oo, none⟩) n cap) Y (getSt st i) w5 := ⟨h5, cw3.trans (own_y hy c5)⟩
        clear hG h5 c5
        go_wp2_with fail
        go_ret2
        exact ⟨rfl, hfin⟩
      · have e : stealV st i n (q : Int) = stealS st i q := stealV_yes v1 hqi
        rw [e] at hst2
        have v3 : decide ((q : Int) ≥ 0) = true := decide_eq_true (by omega)
        have v4 : (q : Int) < n := by omega
        have v5 : ((q : Int) != (i : Int)) = true := by simp; omega
        have v6 : ¬ (q : Int) = (i : Int) := by omega
        have v7 : (0 : Int) ≤ q := by omega
        obtain ⟨z, hz⟩ : ∃ z, Y[q]? = some z := ⟨_, List.getElem?_eq_getElem (by have := HN.out; omega)⟩
        have HST := Lib.hid hst2
        clear e hst2
        go_enter Try.func53, Try.ntmps53
        go_wp2_with fail
        refine hG.mono ?_; rintro e w2 ⟨rfl, rfl⟩
        clear hG
        go_upto_region 10 with fail
        have hd := h.still ((Ch.refl [] w2).drewN 1)
        obtain ⟨W9, hW9⟩ : ∃ W9, w2.drewN 1 = W9 := ⟨_, rfl⟩
        have cd : Ch [] w2 W9 := by rw [← hW9]; exact (Ch.refl [] w2).drewN 1
        rw [hW9] at hd
        obtain ⟨L, hL⟩ : ∃ L : World → Prop, ∀ w', L w' ↔ (w'.cell? ⟨r, 0, none⟩ = some (.slice (some ⟨gg, oo, none⟩) n cap)) := ⟨_, fun _ => Iff.rfl⟩
        have hS1 : ∀ y : { w' : World // L w' }, y.1.cell? ⟨r, 0, none⟩ = some (.slice (some ⟨gg, oo, none⟩) n cap) := fun y => (hL _).1 y.2
        have HL := Lib.hid hL
        have l9 : L W9 := (hL _).2 (HFD.out W9 S st hd).1
        have hSA : Nonempty { w' : World // L w' } := ⟨⟨_, l9⟩⟩
        clear hL
        refine wp_region_plan (Cls L) (List.range 10) (.reads [0, 1, 2, 3, 4, 5, 6, 7] (.only 8 (.reads [9] .done))) (by kernel_rfl) (by kernel_rfl) (fun _ _ _ _ _ h => h) ?_
        simp only [Plan.pures, Plan.reads, Plan.only, List.foldr_cons, List.foldr_nil]
        rw [hW9]
        clear hW9 h q0 q1
        iterate 8 (refine wpPlan_readS l9 (fun K hK => ?_); simp only [List.getD_cons_zero, List.getD_cons_succ]; go_simp; refine hK _ ?_; clear hK K)
        refine wpPlan_only (fun K hK => ?_)
        simp only [List.getD_cons_zero, List.getD_cons_succ]
        go_simp
        refine (refQGetIn n 64 0 hd (by rw [HG0.out]; simp) (by rw [HG0.out]; simp; omega)).mono ?_; rintro e w3 ⟨a1, c1, rfl, L3, h3, c3⟩
        rw [List.take_zero, List.length_nil]
        rw [List.drop_zero] at h3
        replace h3 : RefAt w3 S r (.slice (some ⟨gg, oo, none⟩) n cap) Y st := h3
        have l3 : L w3 := (HL.out _).2 (HFD.out w3 S _ h3).1
        refine hK _ _ (fun _ => Cls.mk l3) ?_
        clear hK K l9
        refine wpPlan_readS l3 (fun K hK => ?_); simp only [List.getD_cons_zero, List.getD_cons_succ]; go_simp; refine hK _ ?_; clear hK K
        refine wpPlan_done ?_
        clear l3 hS1 hSA HL hd L3
        have cw3 : Ch (ownR r (.slice (some ⟨gg, oo, none⟩) n cap) Y) w2 w3 := (cd.mono (by simp)).trans (c3.mono (fun q hq => by simp at hq; subst hq; exact .inl (mem_ownR.2 (.inl rfl))))
        obtain ⟨q0, q1⟩ := HFD.out w3 S st h3
        clear cd c3
        obtain ⟨gg', oo', cap', e', _, hfq⟩ := h3.cells hz
        have hcz : ∀ w' st', RefAt w' S r (.slice (some ⟨gg, oo, none⟩) n cap) Y st' → w'.cell? ⟨gg, oo + q, none⟩ = some (.pointer (some ⟨z, 0, none⟩)) := fun w' st' h' => by
          simp only [Value.slice.injEq, Option.some.injEq, Addr.mk.injEq, and_true, true_and] at e'
          obtain ⟨⟨rfl, rfl⟩, _⟩ := e'
          exact (hfq w' S st' h').2
        have HCZ := Lib.hid hcz
        clear hcz hfq e'
        go_upto_region 18 with fail
        have hd := h3.still ((Ch.refl [] w3).drewN 1)
        obtain ⟨W9, hW9⟩ : ∃ W9, w3.drewN 1 = W9 := ⟨_, rfl⟩
        have cd : Ch [] w3 W9 := by rw [← hW9]; exact (Ch.refl [] w3).drewN 1
        rw [hW9] at hd
        obtain ⟨L, hL⟩ : ∃ L : World → Prop, ∀ w', L w' ↔ (w'.cell? ⟨r, 0, none⟩ = some (.slice (some ⟨gg, oo, none⟩) n cap) ∧ w'.cell? ⟨gg, oo + i, none⟩ = some (.pointer (some ⟨y, 0, none⟩)) ∧ w'.cell? ⟨gg, oo + q, none⟩ = some (.pointer (some ⟨z, 0, none⟩))) := ⟨_, fun _ => Iff.rfl⟩
        have hS1 : ∀ y : { w' : World // L w' }, y.1.cell? ⟨r, 0, none⟩ = some (.slice (some ⟨gg, oo, none⟩) n cap) := fun y => ((hL _).1 y.2).1
        have hS2 : ∀ x : { w' : World // L w' }, x.1.cell? ⟨gg, oo + i, none⟩ = some (.pointer (some ⟨y, 0, none⟩)) := fun x => ((hL _).1 x.2).2.1
        have hS3 : ∀ x : { w' : World // L w' }, x.1.cell? ⟨gg, oo + q, none⟩ = some (.pointer (some ⟨z, 0, none⟩)) := fun x => ((hL _).1 x.2).2.2
        have hLk : ∀ w' st', RefAt w' S r (.slice (some ⟨gg, oo, none⟩) n cap) Y st' → L w' := fun w' st' h' => (hL _).2 ⟨(HFD.out w' S st' h').1, (HFD.out w' S st' h').2, HCZ.out w' st' h'⟩
        have HLk := Lib.hid hLk
        have l9 := hLk _ _ hd
        have hSA : Nonempty { w' : World // L w' } := ⟨⟨_, l9⟩⟩
        clear hL hLk
        refine wp_region_plan (Cls L) (List.range 15) (.reads [0, 1, 2, 3, 4, 5, 6, 7, 8, 9, 10, 11, 12, 13] (.only 14 .done)) (by kernel_rfl) (by kernel_rfl) (fun _ _ _ _ _ h => h) ?_
        simp only [Plan.pures, Plan.reads, Plan.only, List.foldr_cons, List.foldr_nil]
        rw [hW9]
        clear hW9 h3 q0 q1
        iterate 14 (refine wpPlan_readS l9 (fun K hK => ?_); simp only [List.getD_cons_zero, List.getD_cons_succ]; go_simp; refine hK _ ?_; clear hK K)
        refine wpPlan_only (fun K hK => ?_)
        simp only [List.getD_cons_zero, List.getD_cons_succ]
        go_simp
        refine (stealRefS hd hy hz hqi HLE.out).mono ?_; rintro e w4 ⟨⟨kk, rfl⟩, h4, c4⟩
        rw [HST.out] at h4
        refine hK _ _ (fun _ => Cls.mk (HLk.out _ _ h4)) ?_
        clear hK K l9
        refine wpPlan_done ?_
        have cw4 := cw3.trans ((cd.mono (by simp)).trans c4)
        obtain ⟨q0, q1⟩ := HFD.out w4 S st2 h4
        clear hS1 hS2 hS3 hSA HLk hd cd c4 cw3
        have hG := getRefS h4 hy (HLE2.out i)
        rw [HPV.out, HPB.out] at hG
        clear h4
        go_wp2_with fail
        refine hG.mono ?_; rintro e w5 ⟨rfl, h5, c5⟩
        have hfin : RefT w2 S r (.slice (some ⟨gg, oo, none⟩) n cap) Y (getSt st2 i) w5 := ⟨h5, cw4.trans (own_y hy c5)⟩
        clear hG h5 c5
        go_wp2_with fail
        go_ret2
        exact ⟨rfl, hfin⟩
/-- Pick whatever the case. -/
theorem refPick (tick vic : Int) (h : RefAt w S r vs Y st) (hy : Y[i]? = some y) (hle : ∀ p, (st.row p).length ≤ 256) (hl : st.com.length ≤ 80000) :
    Calls Try.prog 53 #[.pointer (some ⟨r, 0, none⟩), .int .i64 i, .int .i64 tick, .int .i64 vic] w fun e w' => e = .returned (.tuple #[.int .i64 (pickV st i Y.length tick vic), .bool (pickB st i Y.length tick vic)]) ∧ RefT w S r vs Y (pickS st i Y.length tick vic) w' := by
  cases hF : fairB st tick with
  | true =>
    obtain ⟨y1, y2, y3⟩ := of_decide_eq_true hF
    obtain ⟨g, t, hgt⟩ := List.exists_cons_of_ne_nil y3
    obtain ⟨a, b, c⟩ := pick_fair (p := i) (n := Y.length) (vic := vic) hF
    rw [a, b, c, hgt]
    exact refPick_fair tick vic h hy y1 y2 hgt (by omega)
  | false =>
    cases hO : getB (st.hs i) (st.row i) with
    | true =>
      obtain ⟨a, b, c⟩ := pick_own (n := Y.length) (vic := vic) hF hO
      rw [a, b, c]
      exact refPick_own tick vic h hy (hle i) hF hO
    | false =>
      by_cases hc : st.com = []
      · obtain ⟨a, b, c⟩ := pick_steal (n := Y.length) (tick := tick) (vic := vic) hO hc
        rw [a, b, c]
        exact refPick_steal tick vic h hy hle hF hO hc rfl rfl rfl rfl
      · obtain ⟨a, b, c⟩ := pick_part (n := Y.length) (vic := vic) hF hO hc
        rw [a, b, c]
        exact refPick_part tick vic h hy hle hF hO hc hl
end
end Go.Proofs.Yteghenfdncgpeaa
