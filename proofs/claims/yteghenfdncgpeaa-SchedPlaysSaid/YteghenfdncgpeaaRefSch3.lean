/-
  The document's answer for layer 27: Pick out of one's own ring, a part of the common list. Conditions: none beyond what each theorem names.
-/
import Derived.Test.YteghenfdncgpeaaRefSch2
import Derived.Test.YteghenfdncgpeaaSch6
namespace Go.Proofs.Yteghenfdncgpeaa
open Go.RowKit
section
variable {w w1 w2 : World} {r i y : Nat} {vs v : Value} {Y S T U : List Nat} {st : SSt}
theorem getB_no' {hs : Bool} {Z : List Int} (h : getB hs Z = false) : hs = false ∧ Z = [] := by
  unfold getB at h
  simp only [Bool.or_eq_false_iff, Bool.not_eq_false', List.isEmpty_iff] at h
  exact h
theorem getRefS (h : RefAt w S r vs Y st) (hy : Y[i]? = some y) (hl : (st.row i).length ≤ 256) :
    Calls Try.prog 26 #[.pointer (some ⟨y, 0, none⟩)] w fun e w' => e = .returned (.tuple #[.int .i64 (getV (st.nx i) (st.hs i) (st.row i)), .bool (getB (st.hs i) (st.row i))]) ∧ RefAt w' S r vs Y (getSt st i) ∧ Ch [y] w w' :=
  (refGetAny y S _ _ _ w (h.ring i y hy) (h.yS y (List.mem_of_getElem? hy)) hl).mono fun _ _ ⟨a, b, d⟩ => ⟨a, h.setRing hy b d, d⟩
theorem refPick_own (tick vic : Int) (h : RefAt w S r vs Y st) (hy : Y[i]? = some y) (hl : (st.row i).length ≤ 256) (hf : fairB st tick = false) (hb : getB (st.hs i) (st.row i) = true) :
    Calls Try.prog 53 #[.pointer (some ⟨r, 0, none⟩), .int .i64 i, .int .i64 tick, .int .i64 vic] w fun e w' => e = .returned (.tuple #[.int .i64 (getV (st.nx i) (st.hs i) (st.row i)), .bool true]) ∧ RefT w S r vs Y (getSt st i) w' := by
  have hi := (List.getElem?_eq_some_iff.1 hy).1
  obtain ⟨gg, oo, cap, rfl, hcap, hfd⟩ := h.cells hy
  obtain ⟨n, hn⟩ : ∃ n, Y.length = n := ⟨_, rfl⟩
  have HN := Lib.hid hn
  rw [hn] at h hi hfd ⊢
  obtain ⟨q0, q1⟩ := hfd w S st h
  have t0 : decide ((i : Int) < 0) = false := decide_eq_false (by omega)
  have t1 : (i : Int) < n := by omega
  have t2 : (0 : Int) ≤ i := by omega
  have t3 : decide ((i : Int) ≥ (n : Int)) = false := decide_eq_false (by omega)
  have t4 : ¬ (i : Int) < 0 := by omega
  have t5 : ¬ (n : Int) ≤ i := by omega
  clear hn hcap
  clear hfd
  obtain ⟨a, c, hbk, _⟩ := h.top
  have c1 := hbk.cell 1
  have hG := getRefS h hy hl
  rw [hb] at hG
  obtain ⟨V, hV⟩ : ∃ V, getV (st.nx i) (st.hs i) (st.row i) = V := ⟨_, rfl⟩
  rw [hV] at hG
  have HV := Lib.hid hV
  clear hV hb h hbk
  rcases fair_why hf with rfl | ⟨a1, a2⟩ | ⟨a1, a2, a3⟩
  · clear hf c1
    go_enter Try.func53, Try.ntmps53
    go_wp2_with fail
    refine hG.mono ?_; rintro e w2 ⟨rfl, h2, c2⟩
    have hfin : RefT w S r (.slice (some ⟨gg, oo, none⟩) n cap) Y (getSt st i) w2 := ⟨h2, own_y hy c2⟩
    clear hG h2 c2
    go_wp2_with fail
    go_ret2
    exact ⟨by rw [HV.out]; rfl, hfin⟩
  · have z0 : (tick != 0) = true := by simpa using a1
    obtain ⟨m, hm⟩ : ∃ m, tick.tmod 61 = m := ⟨_, rfl⟩
    rw [hm] at a2
    have z1 : (m == 0) = false := by rw [beq_eq_false_iff_ne]; exact a2
    clear hf c1
    go_enter Try.func53, Try.ntmps53
    go_wp2_with fail
    refine hG.mono ?_; rintro e w2 ⟨rfl, h2, c2⟩
    have hfin : RefT w S r (.slice (some ⟨gg, oo, none⟩) n cap) Y (getSt st i) w2 := ⟨h2, own_y hy c2⟩
    clear hG h2 c2
    go_wp2_with fail
    go_ret2
    exact ⟨by rw [HV.out]; rfl, hfin⟩
  · have z0 : (tick != 0) = true := by simpa using a1
    rw [a3, List.length_nil] at c1
    clear hf a3
    go_enter Try.func53, Try.ntmps53
    go_wp2_with fail
    refine hG.mono ?_; rintro e w2 ⟨rfl, h2, c2⟩
    have hfin : RefT w S r (.slice (some ⟨gg, oo, none⟩) n cap) Y (getSt st i) w2 := ⟨h2, own_y hy c2⟩
    clear hG h2 c2
    go_wp2_with fail
    go_ret2
    exact ⟨by rw [HV.out]; rfl, hfin⟩
theorem ringRow_le {X : List Int} {g : Int} (h : X.length ≤ 256) : (ringRow X g).length ≤ 256 := by
  unfold ringRow
  split
  · simp; omega
  · simp; omega
theorem putX_le {nx : Int} {hs : Bool} {X : List Int} {g : Int} {nb : Bool} (h : X.length ≤ 256) : (putX nx hs X g nb).length ≤ 256 := by
  unfold putX
  split
  · split
    · exact ringRow_le h
    · exact h
  · exact ringRow_le h
theorem ready_rowLe {p0 : Nat} {g : Int} {nb : Bool} (h : ∀ p, (st.row p).length ≤ 256) (p : Nat) : ((readyS st p0 g nb).row p).length ≤ 256 := by
  by_cases e : p = p0
  · subst e
    rw [(ready_at (st := st) (p := p) (g := g) (nb := nb)).2.2.1]
    exact putX_le (h p)
  · rw [(ready_ne (st := st) (p := p0) (g := g) (nb := nb) e).2.2]
    exact h p
set_option maxRecDepth 100000 in
set_option maxHeartbeats 4000000 in
theorem refPick_part (tick vic : Int) (h : RefAt w S r vs Y st) (hy : Y[i]? = some y) (hle : ∀ p, (st.row p).length ≤ 256) (hf : fairB st tick = false) (hb : getB (st.hs i) (st.row i) = false) (hg : st.com ≠ []) (hl : st.com.length ≤ 80000) :
    Calls Try.prog 53 #[.pointer (some ⟨r, 0, none⟩), .int .i64 i, .int .i64 tick, .int .i64 vic] w fun e w' => e = .returned (.tuple #[.int .i64 (gI st.com 0), .bool true]) ∧ RefT w S r vs Y (partS st i Y.length) w' := by
  have hi := (List.getElem?_eq_some_iff.1 hy).1
  obtain ⟨gg, oo, cap, rfl, hcap, hfd⟩ := h.cells hy
  obtain ⟨n, hn⟩ : ∃ n, Y.length = n := ⟨_, rfl⟩
  have HN := Lib.hid hn
  rw [hn] at h hi hfd ⊢
  obtain ⟨q0, q1⟩ := hfd w S st h
  have t0 : decide ((i : Int) < 0) = false := decide_eq_false (by omega)
  have t1 : (i : Int) < n := by omega
  have t2 : (0 : Int) ≤ i := by omega
  have t3 : decide ((i : Int) ≥ (n : Int)) = false := decide_eq_false (by omega)
  have t4 : ¬ (i : Int) < 0 := by omega
  have t5 : ¬ (n : Int) ≤ i := by omega
  clear hn hcap
  have HFD := Lib.hid hfd
  have HLE := Lib.hid hle
  obtain ⟨x1, x2⟩ := getB_no' hb
  have hG := refRingGetEmpty y S w (by have := h.ring i y hy; rw [x1, x2] at this; exact this)
  obtain ⟨k, hk⟩ : ∃ k, getN st.com.length n = k := ⟨_, rfl⟩
  have hkk := getN_le st.com.length n
  have hkis := getN_is st.com.length n (by omega)
  rw [hk] at hkk hkis
  have hk0 : 0 < k := hkk.2.2 (List.length_pos_iff.2 hg)
  obtain ⟨l, hll⟩ : ∃ l, (st.com.take k).drop 1 = l := ⟨_, rfl⟩
  have hlen : l.length = k - 1 := by rw [← hll, List.length_drop, List.length_take]; omega
  have htk : (st.com.take k).length = k := by rw [List.length_take]; omega
  obtain ⟨st0, hst0⟩ : ∃ st0, st.setCom (st.com.drop k) = st0 := ⟨_, rfl⟩
  have hpart : partS st i n = foldR st0 i l := by unfold partS; rw [hk, hst0, hll]
  have hcom0 : st0.com.length ≤ 80000 := by rw [← hst0]; show (st.com.drop k).length ≤ _; rw [List.length_drop]; omega
  have htl : ∀ j, j < k → gI (st.com.take k) j = gI st.com j := fun j hj => by
    unfold gI
    rw [List.getD_eq_getElem?_getD, List.getD_eq_getElem?_getD, List.getElem?_take, if_pos hj]
  have hgl : ∀ j, j < k - 1 → gI l j = gI st.com (j + 1) := fun j hj => by
    unfold gI
    rw [List.getD_eq_getElem?_getD, List.getD_eq_getElem?_getD, ← hll, List.getElem?_drop, List.getElem?_take, if_pos (by omega), Nat.add_comm 1 j]
  rw [hpart]
  obtain ⟨y0, hy0⟩ : ∃ y0, gI st.com 0 = y0 := ⟨_, rfl⟩
  have HST := Lib.hid hst0
  have HLEN := Lib.hid hlen
  have HTK := Lib.hid htk
  have HGL := Lib.hid hgl
  have HTL := Lib.hid htl
  have HIS := Lib.hid hkis
  have HY0 := Lib.hid hy0
  have hk64 : k ≤ 64 := hkk.2.1
  clear hfd hle hk hkk hkis hll hlen htk hst0 hpart hgl htl hy0 hb x1 x2
  rcases fair_why hf with rfl | ⟨a1, a2⟩ | ⟨a1, a2, a3⟩
  · clear hf hg
    go_enter Try.func53, Try.ntmps53
    go_wp2_with fail
    refine hG.mono ?_; rintro e w2 ⟨rfl, rfl⟩
    clear hG
    go_upto_region 10 with fail
    have hd := h.still ((Ch.refl [] w2).drewN 1)
    obtain ⟨W9, hW9⟩ : ∃ W9, w2.drewN 1 = W9 := ⟨_, rfl⟩
    have cd : Ch [] w2 W9 := by rw [← hW9]; exact (Ch.refl [] w2).drewN 1
    rw [hW9] at hd
    obtain ⟨L, hL⟩ : ∃ L : World → Prop, ∀ w', L w' ↔ (w'.cell? ⟨r, 0, none⟩ = some (.slice (some ⟨gg, oo, none⟩) n cap)) := ⟨_, fun _ => Iff.rfl⟩
    have hS1 : ∀ y : { w' : World // L w' }, y.1.cell? ⟨r, 0, none⟩ = some (.slice (some ⟨gg, oo, none⟩) n cap) := fun y => (hL _).1 y.2
    have HL := Lib.hid hL
    have l9 : L W9 := (hL _).2 (HFD.out W9 S st hd).1
    have hSA : Nonempty { w' : World // L w' } := ⟨⟨_, l9⟩⟩
    clear hL
    refine wp_region_plan (Cls L) (List.range 10) (.reads [0, 1, 2, 3, 4, 5, 6, 7] (.only 8 (.reads [9] .done))) (by kernel_rfl) (by kernel_rfl) (fun _ _ _ _ _ h => h) ?_
    simp only [Plan.pures, Plan.reads, Plan.only, List.foldr_cons, List.foldr_nil]
    rw [hW9]
    clear hW9 h q0 q1
    iterate 8 (refine wpPlan_readS l9 (fun K hK => ?_); simp only [List.getD_cons_zero, List.getD_cons_succ]; go_simp; refine hK _ ?_; clear hK K)
    refine wpPlan_only (fun K hK => ?_)
    simp only [List.getD_cons_zero, List.getD_cons_succ]
    go_simp
    refine (refQGetIn n 64 k hd (by omega) HIS.out).mono ?_; rintro e w3 ⟨a1, c1, rfl, L3, h3, c3⟩
    rw [HTK.out]
    rw [HST.out] at h3
    have l3 : L w3 := (HL.out _).2 (HFD.out w3 S _ h3).1
    refine hK _ _ (fun _ => Cls.mk l3) ?_
    clear hK K l9
    refine wpPlan_readS l3 (fun K hK => ?_); simp only [List.getD_cons_zero, List.getD_cons_succ]; go_simp; refine hK _ ?_; clear hK K
    refine wpPlan_done ?_
    clear l3 hS1 hSA HL hd
    have cw3 : Ch (ownR r (.slice (some ⟨gg, oo, none⟩) n cap) Y) w2 w3 := (cd.mono (by simp)).trans (c3.mono (fun q hq => by simp at hq; subst hq; exact .inl (mem_ownR.2 (.inl rfl))))
    have kk0 : decide ((k : Int) > 0) = true := decide_eq_true (by omega)
    have kk1 : (0 : Int) < k := by omega
    clear cd c3
    go_wp2_with fail
    go_loopw [14] (fun s14 wr => ∃ j : Nat, s14 = .int .i64 ((j : Int) + 1) ∧ j + 1 ≤ k ∧ RefAt wr S r (.slice (some ⟨gg, oo, none⟩) n cap) Y (foldR st0 i (l.take j)) ∧ LsF wr S a1 c1 (st.com.take k) ∧ Ch (ownR r (.slice (some ⟨gg, oo, none⟩) n cap) Y) w2 wr ∧ (∀ p, ((foldR st0 i (l.take j)).row p).length ≤ 256)) (fun s14 _ => k + 1 - (intOf s14).toNat)
    case atStart => exact ⟨0, rfl, by omega, h3, L3, cw3, fun p => by show (st0.row p).length ≤ 256; rw [← HST.out]; exact HLE.out p⟩
    case round =>
      clear h3 L3 cw3
      obtain ⟨j, rfl, hjk, h4, L4, c4, hle4⟩ := hrel
      by_cases hlt : j + 1 < k
      · have u1 : decide ((j : Int) + 1 < k) = true := decide_eq_true (by omega)
        have u2 : (j : Int) + 1 < k := by omega
        have u3 : (0 : Int) ≤ (j : Int) + 1 := by omega
        obtain ⟨b1, o1, rfl, hc1⟩ := L4.rd.at (i := j + 1) (by rw [HTK.out]; exact hlt)
        have d5 := hc1 (j + 1) (by rw [HTK.out]; exact hlt)
        have hft := foldR_take st0 i l (j := j) (by rw [HLEN.out]; omega)
        have hfc := foldR_com i (l.take j) st0
        rw [List.length_take, HLEN.out] at hfc
        rw [HTL.out (j + 1) hlt, ← HGL.out j (by omega)] at d5
        obtain ⟨y1, hy1⟩ : ∃ y1, gI l j = y1 := ⟨_, rfl⟩
        rw [hy1] at d5 hft
        obtain ⟨stj, hstj⟩ : ∃ stj, foldR st0 i (l.take j) = stj := ⟨_, rfl⟩
        rw [hstj] at h4 hft hfc hle4
        have HFT := Lib.hid hft
        have hcb : stj.com.length ≤ 89000 := by omega
        have hlj := hle4 i
        have HLE4 := Lib.hid hle4
        clear hy1 hft hfc hstj hc1 hle4
        obtain ⟨jj, hjj⟩ : ∃ jj, j + 1 = jj := ⟨_, rfl⟩
        rw [hjj] at d5
        have hji : (j : Int) + 1 = (jj : Int) := by omega
        have HJI := Lib.hid hji
        have HJJ := Lib.hid hjj
        have u4 : (jj : Int) < k := by omega
        have u5 : (0 : Int) ≤ jj := by omega
        clear hjj
        go_upto_region 15 with fail
        have hd := h4.still ((Ch.refl [] wr).drewN 1)
        have Ld := L4.keep ((Ch.refl [] wr).drewN 1) (by simp)
        have d5d : (wr.drewN 1).cell? ⟨b1, o1 + jj, none⟩ = some (.int .i64 y1) := d5
        obtain ⟨W7, hW7⟩ : ∃ W7, wr.drewN 1 = W7 := ⟨_, rfl⟩
        have cd : Ch [] wr W7 := by rw [← hW7]; exact (Ch.refl [] wr).drewN 1
        rw [hW7] at hd Ld d5d
        obtain ⟨L, hL⟩ : ∃ L : World → Prop, ∀ w', L w' ↔ (w'.cell? ⟨r, 0, none⟩ = some (.slice (some ⟨gg, oo, none⟩) n cap) ∧ w'.cell? ⟨gg, oo + i, none⟩ = some (.pointer (some ⟨y, 0, none⟩)) ∧ w'.cell? ⟨b1, o1 + jj, none⟩ = some (.int .i64 y1)) := ⟨_, fun _ => Iff.rfl⟩
        have hS1 : ∀ y : { w' : World // L w' }, y.1.cell? ⟨r, 0, none⟩ = some (.slice (some ⟨gg, oo, none⟩) n cap) := fun y => ((hL _).1 y.2).1
        have hS2 : ∀ z : { w' : World // L w' }, z.1.cell? ⟨gg, oo + i, none⟩ = some (.pointer (some ⟨y, 0, none⟩)) := fun z => ((hL _).1 z.2).2.1
        have hS3 : ∀ y : { w' : World // L w' }, y.1.cell? ⟨b1, o1 + jj, none⟩ = some (.int .i64 y1) := fun y => ((hL _).1 y.2).2.2
        have hLk : ∀ w' st', RefAt w' S r (.slice (some ⟨gg, oo, none⟩) n cap) Y st' → LsF w' S (some ⟨b1, o1, none⟩) c1 (st.com.take k) → L w' := fun w' st' q1 q2 => (hL _).2 ⟨(HFD.out w' S st' q1).1, (HFD.out w' S st' q1).2, by
          obtain ⟨b2, o2, e2, hc2⟩ := q2.rd.at (i := j + 1) (by rw [HTK.out]; exact hlt)
          cases e2
          have d6 := hc2 (j + 1) (by rw [HTK.out]; exact hlt)
          obtain ⟨b3, o3, e3, hc3⟩ := Ld.rd.at (i := j + 1) (by rw [HTK.out]; exact hlt)
          cases e3
          have d7 := hc3 (j + 1) (by rw [HTK.out]; exact hlt)
          rw [HJJ.out] at d6 d7
          rw [d6, ← d7]
          exact d5d⟩
        have HLk := Lib.hid hLk
        have l7 := hLk _ _ hd Ld
        have hSA : Nonempty { w' : World // L w' } := ⟨⟨_, l7⟩⟩
        clear hL hLk
        refine wp_region_plan (Cls L) (List.range 14) (.reads [0, 1, 2, 3, 4, 5, 6, 7, 8, 9, 10, 11] (.only 12 (.only 13 .done))) (by kernel_rfl) (by kernel_rfl) (fun _ _ _ _ _ h => h) ?_
        simp only [Plan.pures, Plan.reads, Plan.only, List.foldr_cons, List.foldr_nil]
        rw [hW7]
        clear hW7 h4 L4 d5
        iterate 12 (refine wpPlan_readS l7 (fun K hK => ?_); simp only [List.getD_cons_zero, List.getD_cons_succ]; go_simp; refine hK _ ?_; clear hK K)
        refine wpPlan_only (fun K hK => ?_)
        simp only [List.getD_cons_zero, List.getD_cons_succ]
        go_simp
        refine (putRefS y1 false hd hy hlj).mono ?_; rintro e w5 ⟨xv, rfl, r5, h5, c5⟩
        have hyS : ∀ q ∈ [y], q ∈ S ∨ W7.heap.size ≤ q := fun q hq => by simp at hq; subst hq; exact .inl (hd.yS q (List.mem_of_getElem? hy))
        have L5 := Ld.keep c5 hyS
        have l5 := HLk.out _ _ h5 L5
        refine hK _ _ (fun _ => Cls.mk l5) ?_
        clear hK K l7
        refine wpPlan_only (fun K hK => ?_)
        simp only [List.getD_cons_zero, List.getD_cons_succ]
        go_simp
        have hbound := putO_len (stj.nx i) (stj.hs i) (stj.row i) y1 false
        refine (refGlobal h5 r5 (by show stj.com.length + _ ≤ _; omega)).mono ?_; rintro e w6 ⟨rfl, h6, c6⟩
        have hoS : ∀ q ∈ ownR r (.slice (some ⟨gg, oo, none⟩) n cap) Y, q ∈ S ∨ w5.heap.size ≤ q := fun q hq => by
          rcases mem_ownR.1 hq with e | e | e
          · subst e; exact .inl h5.rS
          · exact .inl (h5.yS q e)
          · exact .inl (h5.vS q e)
        have L6 := L5.keep c6 hoS
        refine hK _ _ (fun _ => Cls.mk (HLk.out _ _ h6 L6)) ?_
        clear hK K
        refine wpPlan_done ?_
        have h7 : RefAt w6 S r (.slice (some ⟨gg, oo, none⟩) n cap) Y (foldR st0 i (l.take (j + 1))) := by rw [HFT.out]; exact h6
        have c7 := c4.trans (((cd.mono (by simp)).trans (own_y hy c5)).trans c6)
        have hle7 : ∀ p, ((foldR st0 i (l.take (j + 1))).row p).length ≤ 256 := fun p => by rw [HFT.out]; exact ready_rowLe (HLE4.out) p
        have hji2 := HJI.out
        clear h5 h6 c4 c5 c6 hd Ld L5 r5 hS1 hS2 hS3 hSA HLk l5 d5d hyS hoS cd hji
        go_wp2_with fail
        go_roundw
        case rel => exact ⟨j + 1, by go_num, by omega, h7, L6, c7, hle7⟩
        case measure => simp [intOf]; omega
      · obtain rfl : k = j + 1 := by omega
        have u1 : decide ((j : Int) + 1 < ((j + 1 : Nat) : Int)) = false := decide_eq_false (by omega)
        obtain ⟨b1, o1, rfl, hc1⟩ := L4.rd.at (i := 0) (by rw [HTK.out]; omega)
        have d6 := hc1 0 (by rw [HTK.out]; omega)
        rw [HTL.out 0 (by omega), HY0.out, Nat.add_zero] at d6
        rw [List.take_of_length_le (by rw [HLEN.out]; omega)] at h4
        have hfin : RefT w2 S r (.slice (some ⟨gg, oo, none⟩) n cap) Y (foldR st0 i l) wr := ⟨h4, c4⟩
        clear h4 c4 L4 hc1 hle4
        go_wp2_with fail
        go_ret2
        exact ⟨by rw [HY0.out]; rfl, hfin⟩
  · have z0 : (tick != 0) = true := by simpa using a1
    obtain ⟨m, hm⟩ : ∃ m, tick.tmod 61 = m := ⟨_, rfl⟩
    rw [hm] at a2
    have z1 : (m == 0) = false := by rw [beq_eq_false_iff_ne]; exact a2
    clear hf hg
    go_enter Try.func53, Try.ntmps53
    go_wp2_with fail
    refine hG.mono ?_; rintro e w2 ⟨rfl, rfl⟩
    clear hG
    go_upto_region 10 with fail
    have hd := h.still ((Ch.refl [] w2).drewN 1)
    obtain ⟨W9, hW9⟩ : ∃ W9, w2.drewN 1 = W9 := ⟨_, rfl⟩
    have cd : Ch [] w2 W9 := by rw [← hW9]; exact (Ch.refl [] w2).drewN 1
    rw [hW9] at hd
    obtain ⟨L, hL⟩ : ∃ L : World → Prop, ∀ w', L w' ↔ (w'.cell? ⟨r, 0, none⟩ = some (.slice (some ⟨gg, oo, none⟩) n cap)) := ⟨_, fun _ => Iff.rfl⟩
    have hS1 : ∀ y : { w' : World // L w' }, y.1.cell? ⟨r, 0, none⟩ = some (.slice (some ⟨gg, oo, none⟩) n cap) := fun y => (hL _).1 y.2
    have HL := Lib.hid hL
    have l9 : L W9 := (hL _).2 (HFD.out W9 S st hd).1
    have hSA : Nonempty { w' : World // L w' } := ⟨⟨_, l9⟩⟩
    clear hL
    refine wp_region_plan (Cls L) (List.range 10) (.reads [0, 1, 2, 3, 4, 5, 6, 7] (.only 8 (.reads [9] .done))) (by kernel_rfl) (by kernel_rfl) (fun _ _ _ _ _ h => h) ?_
    simp only [Plan.pures, Plan.reads, Plan.only, List.foldr_cons, List.foldr_nil]
    rw [hW9]
    clear hW9 h q0 q1
    iterate 8 (refine wpPlan_readS l9 (fun K hK => ?_); simp only [List.getD_cons_zero, List.getD_cons_succ]; go_simp; refine hK _ ?_; clear hK K)
    refine wpPlan_only (fun K hK => ?_)
    simp only [List.getD_cons_zero, List.getD_cons_succ]
    go_simp
    refine (refQGetIn n 64 k hd (by omega) HIS.out).mono ?_; rintro e w3 ⟨a1, c1, rfl, L3, h3, c3⟩
    rw [HTK.out]
    rw [HST.out] at h3
    have l3 : L w3 := (HL.out _).2 (HFD.out w3 S _ h3).1
    refine hK _ _ (fun _ => Cls.mk l3) ?_
    clear hK K l9
    refine wpPlan_readS l3 (fun K hK => ?_); simp only [List.getD_cons_zero, List.getD_cons_succ]; go_simp; refine hK _ ?_; clear hK K
    refine wpPlan_done ?_
    clear l3 hS1 hSA HL hd
    have cw3 : Ch (ownR r (.slice (some ⟨gg, oo, none⟩) n cap) Y) w2 w3 := (cd.mono (by simp)).trans (c3.mono (fun q hq => by simp at hq; subst hq; exact .inl (mem_ownR.2 (.inl rfl))))
    have kk0 : decide ((k : Int) > 0) = true := decide_eq_true (by omega)
    have kk1 : (0 : Int) < k := by omega
    clear cd c3
    go_wp2_with fail
    go_loopw [14] (fun s14 wr => ∃ j : Nat, s14 = .int .i64 ((j : Int) + 1) ∧ j + 1 ≤ k ∧ RefAt wr S r (.slice (some ⟨gg, oo, none⟩) n cap) Y (foldR st0 i (l.take j)) ∧ LsF wr S a1 c1 (st.com.take k) ∧ Ch (ownR r (.slice (some ⟨gg, oo, none⟩) n cap) Y) w2 wr ∧ (∀ p, ((foldR st0 i (l.take j)).row p).length ≤ 256)) (fun s14 _ => k + 1 - (intOf s14).toNat)
    case atStart => exact ⟨0, rfl, by omega, h3, L3, cw3, fun p => by show (st0.row p).length ≤ 256; rw [← HST.out]; exact HLE.out p⟩
    case round =>
      clear h3 L3 cw3
      obtain ⟨j, rfl, hjk, h4, L4, c4, hle4⟩ := hrel
      by_cases hlt : j + 1 < k
      · have u1 : decide ((j : Int) + 1 < k) = true := decide_eq_true (by omega)
        have u2 : (j : Int) + 1 < k := by omega
        have u3 : (0 : Int) ≤ (j : Int) + 1 := by omega
        obtain ⟨b1, o1, rfl, hc1⟩ := L4.rd.at (i := j + 1) (by rw [HTK.out]; exact hlt)
        have d5 := hc1 (j + 1) (by rw [HTK.out]; exact hlt)
        have hft := foldR_take st0 i l (j := j) (by rw [HLEN.out]; omega)
        have hfc := foldR_com i (l.take j) st0
        rw [List.length_take, HLEN.out] at hfc
        rw [HTL.out (j + 1) hlt, ← HGL.out j (by omega)] at d5
        obtain ⟨y1, hy1⟩ : ∃ y1, gI l j = y1 := ⟨_, rfl⟩
        rw [hy1] at d5 hft
        obtain ⟨stj, hstj⟩ : ∃ stj, foldR st0 i (l.take j) = stj := ⟨_, rfl⟩
        rw [hstj] at h4 hft hfc hle4
        have HFT := Lib.hid hft
        have hcb : stj.com.length ≤ 89000 := by omega
        have hlj := hle4 i
        have HLE4 := Lib.hid hle4
        clear hy1 hft hfc hstj hc1 hle4
        obtain ⟨jj, hjj⟩ : ∃ jj, j + 1 = jj := ⟨_, rfl⟩
        rw [hjj] at d5
        have hji : (j : Int) + 1 = (jj : Int) := by omega
        have HJI := Lib.hid hji
        have HJJ := Lib.hid hjj
        have u4 : (jj : Int) < k := by omega
        have u5 : (0 : Int) ≤ jj := by omega
        clear hjj
        go_upto_region 15 with fail
        have hd := h4.still ((Ch.refl [] wr).drewN 1)
        have Ld := L4.keep ((Ch.refl [] wr).drewN 1) (by simp)
        have d5d : (wr.drewN 1).cell? ⟨b1, o1 + jj, none⟩ = some (.int .i64 y1) := d5
        obtain ⟨W7, hW7⟩ : ∃ W7, wr.drewN 1 = W7 := ⟨_, rfl⟩
        have cd : Ch [] wr W7 := by rw [← hW7]; exact (Ch.refl [] wr).drewN 1
        rw [hW7] at hd Ld d5d
        obtain ⟨L, hL⟩ : ∃ L : World → Prop, ∀ w', L w' ↔ (w'.cell? ⟨r, 0, none⟩ = some (.slice (some ⟨gg, oo, none⟩) n cap) ∧ w'.cell? ⟨gg, oo + i, none⟩ = some (.pointer (some ⟨y, 0, none⟩)) ∧ w'.cell? ⟨b1, o1 + jj, none⟩ = some (.int .i64 y1)) := ⟨_, fun _ => Iff.rfl⟩
        have hS1 : ∀ y : { w' : World // L w' }, y.1.cell? ⟨r, 0, none⟩ = some (.slice (some ⟨gg, oo, none⟩) n cap) := fun y => ((hL _).1 y.2).1
        have hS2 : ∀ z : { w' : World // L w' }, z.1.cell? ⟨gg, oo + i, none⟩ = some (.pointer (some ⟨y, 0, none⟩)) := fun z => ((hL _).1 z.2).2.1
        have hS3 : ∀ y : { w' : World // L w' }, y.1.cell? ⟨b1, o1 + jj, none⟩ = some (.int .i64 y1) := fun y => ((hL _).1 y.2).2.2
        have hLk : ∀ w' st', RefAt w' S r (.slice (some ⟨gg, oo, none⟩) n cap) Y st' → LsF w' S (some ⟨b1, o1, none⟩) c1 (st.com.take k) → L w' := fun w' st' q1 q2 => (hL _).2 ⟨(HFD.out w' S st' q1).1, (HFD.out w' S st' q1).2, by
          obtain ⟨b2, o2, e2, hc2⟩ := q2.rd.at (i := j + 1) (by rw [HTK.out]; exact hlt)
          cases e2
          have d6 := hc2 (j + 1) (by rw [HTK.out]; exact hlt)
          obtain ⟨b3, o3, e3, hc3⟩ := Ld.rd.at (i := j + 1) (by rw [HTK.out]; exact hlt)
          cases e3
          have d7 := hc3 (j + 1) (by rw [HTK.out]; exact hlt)
          rw [HJJ.out] at d6 d7
          rw [d6, ← d7]
          exact d5d⟩
        have HLk := Lib.hid hLk
        have l7 := hLk _ _ hd Ld
        have hSA : Nonempty { w' : World // L w' } := ⟨⟨_, l7⟩⟩
        clear hL hLk
        refine wp_region_plan (Cls L) (List.range 14) (.reads [0, 1, 2, 3, 4, 5, 6, 7, 8, 9, 10, 11] (.only 12 (.only 13 .done))) (by kernel_rfl) (by kernel_rfl) (fun _ _ _ _ _ h => h) ?_
        simp only [Plan.pures, Plan.reads, Plan.only, List.foldr_cons, List.foldr_nil]
        rw [hW7]
        clear hW7 h4 L4 d5
        iterate 12 (refine wpPlan_readS l7 (fun K hK => ?_); simp only [List.getD_cons_zero, List.getD_cons_succ]; go_simp; refine hK _ ?_; clear hK K)
        refine wpPlan_only (fun K hK => ?_)
        simp only [List.getD_cons_zero, List.getD_cons_succ]
        go_simp
        refine (putRefS y1 false hd hy hlj).mono ?_; rintro e w5 ⟨xv, rfl, r5, h5, c5⟩
        have hyS : ∀ q ∈ [y], q ∈ S ∨ W7.heap.size ≤ q := fun q hq => by simp at hq; subst hq; exact .inl (hd.yS q (List.mem_of_getElem? hy))
        have L5 := Ld.keep c5 hyS
        have l5 := HLk.out _ _ h5 L5
        refine hK _ _ (fun _ => Cls.mk l5) ?_
        clear hK K l7
        refine wpPlan_only (fun K hK => ?_)
        simp only [List.getD_cons_zero, List.getD_cons_succ]
        go_simp
        have hbound := putO_len (stj.nx i) (stj.hs i) (stj.row i) y1 false
        refine (refGlobal h5 r5 (by show stj.com.length + _ ≤ _; omega)).mono ?_; rintro e w6 ⟨rfl, h6, c6⟩
        have hoS : ∀ q ∈ ownR r (.slice (some ⟨gg, oo, none⟩) n cap) Y, q ∈ S ∨ w5.heap.size ≤ q := fun q hq => by
          rcases mem_ownR.1 hq with e | e | e
          · subst e; exact .inl h5.rS
          · exact .inl (h5.yS q e)
          · exact .inl (h5.vS q e)
        have L6 := L5.keep c6 hoS
        refine hK _ _ (fun _ => Cls.mk (HLk.out _ _ h6 L6)) ?_
        clear hK K
        refine wpPlan_done ?_
        have h7 : RefAt w6 S r (.slice (some ⟨gg, oo, none⟩) n cap) Y (foldR st0 i (l.take (j + 1))) := by rw [HFT.out]; exact h6
        have c7 := c4.trans (((cd.mono (by simp)).trans (own_y hy c5)).trans c6)
        have hle7 : ∀ p, ((foldR st0 i (l.take (j + 1))).row p).length ≤ 256 := fun p => by rw [HFT.out]; exact ready_rowLe (HLE4.out) p
        have hji2 := HJI.out
        clear h5 h6 c4 c5 c6 hd Ld L5 r5 hS1 hS2 hS3 hSA HLk l5 d5d hyS hoS cd hji
        go_wp2_with fail
        go_roundw
        case rel => exact ⟨j + 1, by go_num, by omega, h7, L6, c7, hle7⟩
        case measure => simp [intOf]; omega
      · obtain rfl : k = j + 1 := by omega
        have u1 : decide ((j : Int) + 1 < ((j + 1 : Nat) : Int)) = false := decide_eq_false (by omega)
        obtain ⟨b1, o1, rfl, hc1⟩ := L4.rd.at (i := 0) (by rw [HTK.out]; omega)
        have d6 := hc1 0 (by rw [HTK.out]; omega)
        rw [HTL.out 0 (by omega), HY0.out, Nat.add_zero] at d6
        rw [List.take_of_length_le (by rw [HLEN.out]; omega)] at h4
        have hfin : RefT w2 S r (.slice (some ⟨gg, oo, none⟩) n cap) Y (foldR st0 i l) wr := ⟨h4, c4⟩
        clear h4 c4 L4 hc1 hle4
        go_wp2_with fail
        go_ret2
        exact ⟨by rw [HY0.out]; rfl, hfin⟩
  · exact absurd a3 hg
end
end Go.Proofs.Yteghenfdncgpeaa
