/-
  Contracts of package span: Sweep. Conditions: none beyond what each theorem names.
-/
import Derived.Test.YtheniiinioggiaaDoorSpan2
import Derived.Test.YtheniiinioggiaaDoorBitsPl
namespace Go.Proofs.YtheniiinioggiaaDoor
open Go.RowKit
theorem filter_take_succ (l : List Int) (p : Int → Bool) (i : Nat) (h : i < l.length) : (l.take (i + 1)).filter p = (l.take i).filter p ++ (if p (gI l i) then [gI l i] else []) := by
  rw [List.take_add_one, List.filter_append, gI_at l i h]
  congr 1
  simp [List.getElem?_eq_getElem h, List.filter_cons]
theorem drop_gI (l : List Int) (i : Nat) (h : i < l.length) : l.drop i = gI l i :: l.drop (i + 1) := by
  rw [gI_at l i h]
  exact List.drop_eq_getElem_cons h
/-- What a sweep tells. -/
def gone (U M : Nat → Bool) (n : Nat) : List Int := (els U n).filter fun x => !hasI M n x
section
variable {w : World} {s n bu bm fr : Nat} {f k : Int} {U M : Nat → Bool} {Gu Gm : List Nat}
theorem SpanAt.swap (h : SpanAt w s f k n bu bm U M Gu Gm fr) : SpanAt (((w.setCell ⟨s, 2, none⟩ (.pointer (some ⟨bm, 0, none⟩))).setCell ⟨s, 3, none⟩ (.pointer (some ⟨bu, 0, none⟩))).setCell ⟨s, 4, none⟩ (.int .i64 0)) s f k n bm bu M U Gm Gu 0 ∧ Ch [s] w (((w.setCell ⟨s, 2, none⟩ (.pointer (some ⟨bm, 0, none⟩))).setCell ⟨s, 3, none⟩ (.pointer (some ⟨bu, 0, none⟩))).setCell ⟨s, 4, none⟩ (.int .i64 0)) := by
  have e1 := h.us.neS h.top
  have e2 := h.ms.neS h.top
  have cs : Ch [s] w (((w.setCell ⟨s, 2, none⟩ (.pointer (some ⟨bm, 0, none⟩))).setCell ⟨s, 3, none⟩ (.pointer (some ⟨bu, 0, none⟩))).setCell ⟨s, 4, none⟩ (.int .i64 0)) := (((Ch.refl _ _).setCell (.inl (by simp)) _).setCell (.inl (by simp)) _).setCell (.inl (by simp)) _
  exact ⟨⟨((h.top.set 2 _).set 3 _).set 4 _, h.ms.keep cs (by simp; exact e2.1.symm) (by intro x hx hx2; simp at hx2; subst hx2; exact e2.2 hx), h.us.keep cs (by simp; exact e1.1.symm) (by intro x hx hx2; simp at hx2; subst hx2; exact e1.2 hx), h.ne.symm, fun x hx hx2 => h.ap x hx2 hx, h.sl, h.sz, h.fb, Nat.zero_le _⟩, cs⟩
set_option maxHeartbeats 4000000 in
theorem spanSweep (h : SpanAt w s f k n bu bm U M Gu Gm fr) (hT : TabW w) (hn : n ≤ 100000) (hs0 : 0 < s) :
    Calls Tryd.prog 33 #[.pointer (some ⟨s, 0, none⟩)] w fun e w' => ∃ v, e = .returned v ∧ OwI w' w.heap.size v (gone U M n) ∧ SpanAt w' s f k n bm bu M none_ Gm Gu 0 ∧ Ch (s :: (bu :: Gu ++ (bm :: Gm))) w w' := by
  have HT := Lib.hid hT
  clear hT
  go_enter Tryd.func33, Tryd.ntmps33
  go_upto_region 1 with fail
  obtain ⟨W1, hW1⟩ : ∃ W1, w.alloc (.cells #[.pointer (some ⟨s, 0, none⟩)] 45) = W1 := ⟨_, rfl⟩
  obtain ⟨q, hq⟩ : ∃ q, w.heap.size = q := ⟨_, rfl⟩
  have bq : Blk W1 q #[.pointer (some ⟨s, 0, none⟩)] 45 := by rw [← hW1, ← hq]; exact Blk.new _ _ _
  have cw1 : Ch [] w W1 := by rw [← hW1]; exact (Ch.refl [] w).alloc _
  have h1 := h.ch cw1
  have hsq : q ≤ W1.heap.size := by rw [← hq]; exact cw1.size
  have HQ := Lib.hid hq
  have hsw : s < w.heap.size := h.top.lt
  have hub : ∀ x ∈ bu :: Gu, x < w.heap.size := fun x hx => by
    rcases List.mem_cons.1 hx with rfl | hx
    · exact h.us.lt
    · exact h.us.hi x hx
  rw [hW1, hq]
  clear hW1 h
  have e0 := bq.cell 0
  have e2 := h1.top.cell 2
  obtain ⟨m, hm⟩ : ∃ m, cnt U n = m := ⟨_, rfl⟩
  have hmn : m ≤ n := by rw [← hm]; exact cnt_le U n
  have hL : (els U n).length = m := by rw [els_len]; exact hm
  have hA := bitsAllN bu n m U Gu W1 h1.us (HT.out.ch cw1) hn hm
  have HL := Lib.hid hL
  clear hm hq hL
  go_upto_region 5 with fail
  go_wp2_with fail
  refine hA.mono ?_; rintro e w5 ⟨a5, c5, rfl, o5, ch5⟩
  have h5 := h1.ch ch5
  have bq5 := bq.keep ch5 (by simp)
  have cw5 := cw1.trans ch5
  clear hA e0 e2 h1 bq ch5
  go_wp2_with fail
  obtain ⟨X, hX⟩ : ∃ X, (fun x => !hasI M n x) = X := ⟨_, rfl⟩
  have HX := Lib.hid hX
  have rd5 := o5.rdN
  clear hX
  go_loopw [3, 18] (fun s3 s18 wr => ∃ (i : Nat) (v : Value), s3 = v ∧ s18 = .int .i64 i ∧ i ≤ m ∧ Ch [] w5 wr ∧ OwI wr w5.heap.size v (((els U n).take i).filter X)) (fun _ s18 _ => m - (intOf s18).toNat)
  case atStart => exact ⟨0, _, rfl, rfl, Nat.zero_le _, Ch.refl _ _, by simpa using OwI.nil w5 w5.heap.size⟩
  case round =>
    obtain ⟨i, v, rfl, rfl, him, cr, ov⟩ := hrel
    by_cases hi : i < m
    · have t1 : decide ((i : Int) < m) = true := decide_eq_true (by omega)
      have hil : i < (els U n).length := by rw [HL.out]; exact hi
      have hft := filter_take_succ (els U n) X i hil
      obtain ⟨b1, o1, rfl, c1⟩ := (rd5.keep cr (by simp)).at hil
      have d1 := c1 i hil
      obtain ⟨x, hx⟩ : ∃ x, gI (els U n) i = x := ⟨_, rfl⟩
      rw [hx] at d1 hft
      have hcl := sweep1 x q (h5.ch cr) (bq5.keep cr (by simp))
      obtain ⟨B, hB⟩ : ∃ B, hasI M n x = B := ⟨_, rfl⟩
      rw [← HX.out] at hft
      simp only [hB] at hft
      rw [HX.out] at hft
      rw [hB] at hcl
      have HFT := Lib.hid hft
      clear c1 hx hB hft
      cases B
      · go_wp2_with fail
        refine hcl.mono ?_; rintro e w6 ⟨rfl, rfl⟩
        clear hcl d1
        have ca := (Ch.refl [] w6).alloc (.cells #[.int .i64 x] 3)
        have oa := ov.keep ca (by simp)
        have hsz : w5.heap.size ≤ (w6.alloc (.cells #[.int .i64 x] 3)).heap.size := Nat.le_trans cr.size ca.size
        have hle := List.length_filter_le X ((els U n).take i)
        have hle2 : ((els U n).take i).length ≤ 100000 := by rw [List.length_take, HL.out]; omega
        go_wp2_with (at_builtin; refine wpList_app rfl (.tmp 26) (.tmp 28) rfl w5.heap.size _ _ rfl oa hsz _ [x] rfl (srcOne w6 x) (by simp; omega) ?_)
        intro v7 w7 o7 c7 n7
        have cc7 : Ch [] w5 w7 := (cr.trans ca).transT c7 (by intro y hy; simp at hy; exact .inr (ov.2 y hy))
        clear oa hsz hle hle2 c7 n7
        go_wp2_with fail
        go_roundw
        case rel => exact ⟨i + 1, v7, rfl, by go_num, by omega, cc7, by rw [HFT.out]; exact o7⟩
        case measure => simp [intOf]; omega
      · go_wp2_with fail
        refine hcl.mono ?_; rintro e w6 ⟨rfl, rfl⟩
        clear hcl d1
        go_wp2_with fail
        go_roundw
        case rel => exact ⟨i + 1, _, rfl, by go_num, by omega, cr, by rw [HFT.out]; simpa using ov⟩
        case measure => simp [intOf]; omega
    · obtain rfl : i = m := by omega
      have t1 : decide ((i : Int) < i) = false := decide_eq_false (by omega)
      rw [List.take_of_length_le (by rw [HL.out]; omega)] at ov
      have hg : ((els U n).filter X) = gone U M n := by rw [← HX.out]; rfl
      rw [hg] at ov
      have h6 := h5.ch cr
      have bq6 := bq5.keep cr (by simp)
      have cw6 := cw5.trans cr
      have hB5 : w.heap.size ≤ w5.heap.size := cw5.size
      have ov := ov.mono hB5
      clear rd5 o5 h5 bq5 hg
      go_upto_region 11 with fail
      have cd := (Ch.refl [] wr).drewN 1
      have h7 := h6.ch cd
      have bq7 := bq6.keep cd (by simp)
      have cw7 := cw6.trans cd
      have ov7 := ov.keep cd (by simp)
      obtain ⟨L, hL⟩ : ∃ L : World → Prop, ∀ w', L w' ↔ w'.cell? ⟨q, 0, none⟩ = some (.pointer (some ⟨s, 0, none⟩)) := ⟨_, fun _ => Iff.rfl⟩
      have hS1 : ∀ x : { w' : World // L w' }, x.1.cell? ⟨q, 0, none⟩ = some (.pointer (some ⟨s, 0, none⟩)) := fun x => (hL _).1 x.2
      have hS0 : L (wr.drewN 1) := (hL _).2 (bq7.cell 0)
      have hSA : Nonempty { w' : World // L w' } := ⟨⟨_, hS0⟩⟩
      have hLk : ∀ w', Blk w' q #[.pointer (some ⟨s, 0, none⟩)] 45 → L w' := fun w' hb => (hL _).2 (hb.cell 0)
      have HLk := Lib.hid hLk
      clear hL hLk
      refine wp_region_plan (Cls L) (List.range 17) (.reads [0, 1, 2, 3, 4, 5, 7, 8, 9] (.alt 6 (.only 10 (.reads [11, 12] (.only 13 (.reads [14, 15] (.only 16 (.pures [17, 18] (.only 19 .done))))))) (.alt 10 (.only 6 (.reads [11, 12] (.only 13 (.reads [14, 15] (.only 16 (.pures [17, 18] (.only 19 .done))))))) .done))) (by kernel_rfl) (by kernel_rfl) (fun _ _ _ _ _ h => h) ?_
      simp only [Plan.reads, Plan.pures, Plan.only, List.foldr_cons, List.foldr_nil]
      iterate 9 (refine wpPlan_readS hS0 (fun K hK => ?_); simp only [List.getD_cons_zero, List.getD_cons_succ]; go_simp; refine hK _ ?_; clear hK K)
      obtain ⟨W, hW⟩ : ∃ W, wr.drewN 1 = W := ⟨_, rfl⟩
      rw [hW] at h7 bq7 cw7 ov7 hS0 ⊢
      clear hW h6 bq6 cw6 cd ov
      have hqs : s ≠ q := h7.top.ne bq7 (by decide)
      have b1 : Blk (W.setCell ⟨s, 2, none⟩ (.pointer (some ⟨bm, 0, none⟩))) s #[.int .i64 f, .int .i64 k, .pointer (some ⟨bm, 0, none⟩), .pointer (some ⟨bm, 0, none⟩), .int .i64 fr] 72 := h7.top.set 2 _
      have q1 : Blk (W.setCell ⟨s, 2, none⟩ (.pointer (some ⟨bm, 0, none⟩))) q #[.pointer (some ⟨s, 0, none⟩)] 45 := bq7.keep ((Ch.refl [s] W).setCell (.inl (by simp)) _) (by simp; exact hqs.symm)
      have b2 : Blk ((W.setCell ⟨s, 2, none⟩ (.pointer (some ⟨bm, 0, none⟩))).setCell ⟨s, 3, none⟩ (.pointer (some ⟨bu, 0, none⟩))) s #[.int .i64 f, .int .i64 k, .pointer (some ⟨bm, 0, none⟩), .pointer (some ⟨bu, 0, none⟩), .int .i64 fr] 72 := b1.set 3 _
      have q2 : Blk ((W.setCell ⟨s, 2, none⟩ (.pointer (some ⟨bm, 0, none⟩))).setCell ⟨s, 3, none⟩ (.pointer (some ⟨bu, 0, none⟩))) q #[.pointer (some ⟨s, 0, none⟩)] 45 := q1.keep ((Ch.refl [s] _).setCell (.inl (by simp)) _) (by simp; exact hqs.symm)
      have l1 := HLk.out _ q1
      have l2 := HLk.out _ q2
      have f2 := h7.top.frozen 2
      have p2 := h7.top.cell 2
      have u3 := h7.top.cell 3
      have f3 := b1.frozen 3
      have p3 := b1.cell 3
      have f4 := b2.frozen 4
      have p4 := b2.cell 4
      clear hqs b1 q1 b2 q2
      refine wpPlan_altU rfl (fun K hK => ?_) ?_; simp only [List.getD_cons_zero, List.getD_cons_succ]
      · go_simp
        refine hK _ _ (fun _ => Cls.mk hS0) ?_
        clear hK K
        refine wpPlan_only (fun K hK => ?_)
        simp only [List.getD_cons_zero, List.getD_cons_succ]
        go_simp
        refine hK _ _ (fun _ => Cls.mk hS0) ?_
        clear hK K
        iterate 2 (refine wpPlan_readS hS0 (fun K hK => ?_); simp only [List.getD_cons_zero, List.getD_cons_succ]; go_simp; refine hK _ ?_; clear hK K)
        refine wpPlan_only (fun K hK => ?_)
        simp only [List.getD_cons_zero, List.getD_cons_succ]
        go_simp
        refine hK _ _ (fun _ => Cls.mk l1) ?_
        clear hK K f2 p2 u3
        iterate 2 (refine wpPlan_readS l1 (fun K hK => ?_); simp only [List.getD_cons_zero, List.getD_cons_succ]; go_simp; refine hK _ ?_; clear hK K)
        refine wpPlan_only (fun K hK => ?_)
        simp only [List.getD_cons_zero, List.getD_cons_succ]
        go_simp
        refine hK _ _ (fun _ => Cls.mk l2) ?_
        clear hK K f3 p3
        iterate 2 (refine wpPlan_pure (fun K hK => ?_); simp only [List.getD_cons_zero, List.getD_cons_succ]; go_simp; refine hK _ ?_; clear hK K)
        refine wpPlan_only (fun K hK => ?_)
        simp only [List.getD_cons_zero, List.getD_cons_succ]
        go_simp
        refine hK _ _ (by simp) ?_
        clear hK K f4 p4
        refine wpPlan_done ?_
        clear hS0 hS1 hSA l1 l2
        obtain ⟨h8, c8⟩ := h7.swap
        obtain ⟨W8, hW8⟩ : ∃ W8, ((W.setCell ⟨s, 2, none⟩ (.pointer (some ⟨bm, 0, none⟩))).setCell ⟨s, 3, none⟩ (.pointer (some ⟨bu, 0, none⟩))).setCell ⟨s, 4, none⟩ (.int .i64 0) = W8 := ⟨_, rfl⟩
        rw [hW8] at h8 c8 ⊢
        clear hW8
        have hqs : q ∉ [s] := by simp; have := HQ.out; omega
        have bq8 := bq7.keep c8 hqs
        have cw8 : Ch (s :: (bu :: Gu ++ (bm :: Gm))) w W8 := (cw7.mono (by simp)).trans (c8.mono (fun x hx => by simp at hx; subst hx; exact .inl (by simp)))
        have ov8 := ov7.keepLt c8 (by simp; exact hsw)
        have t8 : TabW W8 := (HT.out.ch cw7).keep c8 (by simp; exact hs0)
        have hA := bitsAllN bu n i U Gu W8 h8.ms t8 hn (by rw [← els_len]; exact HL.out)
        have e0 := bq8.cell 0
        have e3 := h8.top.cell 3
        clear h7 bq7 cw7 ov7 c8 t8 hqs
        go_wp2_with fail
        refine hA.mono ?_; rintro e W9 ⟨a9, c9, rfl, o9, ch9⟩
        have h9 := h8.ch ch9
        have bq9 := bq8.keep ch9 (by simp)
        have ov9 := ov8.keep ch9 (by simp)
        have cw9 := cw8.trans (ch9.mono (T := s :: (bu :: Gu ++ (bm :: Gm))) (by simp))
        have rd9 := o9.rdN
        have hna : ∀ y, a9 = some y → y.block ∉ bu :: Gu := fun y hy hk => by
          have k1 := o9.2 y.block (by subst hy; rfl)
          have k2 := hub _ hk
          have k3 := cw8.size
          omega
        have hqb : q ∉ bu :: Gu := fun hk => by have := hub _ hk; have := HQ.out; omega
        have HTop := Lib.hid (show ∀ x ∈ bu :: Gu, x < w.heap.size from hub)
        clear hA e0 e3 h8 bq8 ov8 cw8 o9 ch9 hub
        go_wp2_with fail
        go_loopw [54] (fun s54 wr => ∃ (j : Nat) (V : Nat → Bool), s54 = .int .i64 j ∧ j ≤ i ∧ SpanAt wr s f k n bm bu M V Gm Gu 0 ∧ Ch (bu :: Gu) W9 wr ∧ ∀ y, y < n → V y = true → (y : Int) ∈ (els U n).drop j) (fun s54 _ => i - (intOf s54).toNat)
        case atStart => exact ⟨0, U, rfl, Nat.zero_le _, h9, Ch.refl _ _, fun y hy hU => by rw [List.drop_zero, mem_els, hasI_in hy]; exact hU⟩
        case round =>
          clear h9
          obtain ⟨j, V, rfl, hji, hsp, cr, HV⟩ := hrel
          have HV := Lib.hid HV
          by_cases hj : j < i
          · have t1 : decide ((j : Int) < i) = true := decide_eq_true (by omega)
            have hjl : j < (els U n).length := by rw [HL.out]; exact hj
            have hdr := drop_gI (els U n) j hjl
            obtain ⟨b1, o1, rfl, c1⟩ := (rd9.keep cr hna).at hjl
            have d1 := c1 j hjl
            obtain ⟨x, hx⟩ : ∃ x, gI (els U n) j = x := ⟨_, rfl⟩
            rw [hx] at d1 hdr
            have bqr := bq9.keep cr hqb
            have e0 := bqr.cell 0
            have e3 := hsp.top.cell 3
            have hcl := bitsClear bu n V Gu x _ hsp.ms
            have HDR := Lib.hid hdr
            clear c1 hx hdr bqr
            go_wp2_with fail
            refine hcl.mono ?_; rintro e w10 ⟨rfl, s10, c10⟩
            have h10 := hsp.turnM s10 c10
            have cr10 := cr.trans c10
            clear hcl d1 e0 e3 s10 hsp
            go_wp2_with fail
            go_roundw
            case rel =>
              refine ⟨j + 1, _, by go_num, by omega, h10, cr10, fun y hy hyV => ?_⟩
              have hxm : x ∈ els U n := List.mem_of_mem_drop (by rw [HDR.out]; simp : x ∈ (els U n).drop j)
              have hxi := (mem_els U n x).1 hxm
              simp only [hasI, Bool.and_eq_true, decide_eq_true_eq] at hxi
              have hq2 := hasI_put V n x y false ⟨hxi.1, hxi.2.1⟩
              rw [hasI_in hy, hyV] at hq2
              by_cases hyx : (y : Int) = x
              · rw [if_pos hyx] at hq2; cases hq2
              · rw [if_neg hyx, hasI_in hy] at hq2
                have := HV.out y hy hq2.symm
                rw [HDR.out] at this
                rcases List.mem_cons.1 this with h | h
                · exact absurd h hyx
                · exact h
            case measure => simp [intOf]; omega
          · obtain rfl : j = i := by omega
            have t1 : decide ((j : Int) < j) = false := decide_eq_false (by omega)
            have hno : ∀ y, y < n → V y = none_ y := fun y hy => by
              cases h : V y with
              | false => rfl
              | true =>
                have := HV.out y hy h
                rw [List.drop_of_length_le (by rw [HL.out]; omega)] at this
                cases this
            have hfin : SpanAt _ s f k n bm bu M none_ Gm Gu 0 := ⟨hsp.top, hsp.us, hsp.ms.congr hno, hsp.ne, hsp.ap, hsp.sl, hsp.sz, hsp.fb, hsp.frn⟩
            have ovf := ov9.keepLt cr HTop.out
            have cwf := cw9.trans (cr.mono (T := s :: (bu :: Gu ++ (bm :: Gm))) (fun x hx => .inl (List.mem_cons_of_mem _ (List.mem_append_left _ hx))))
            clear rd9 hsp cr bq9 ov9 cw9 hna
            go_wp2_with fail
            go_ret
            exact ⟨_, rfl, ovf, hfin, cwf⟩
      · refine wpPlan_altU rfl (fun K hK => ?_) (by simp [wpPlan]); simp only [List.getD_cons_zero, List.getD_cons_succ]
        go_simp
        refine hK _ _ (fun _ => Cls.mk hS0) ?_
        clear hK K
        refine wpPlan_only (fun K hK => ?_)
        simp only [List.getD_cons_zero, List.getD_cons_succ]
        go_simp
        refine hK _ _ (fun _ => Cls.mk hS0) ?_
        clear hK K
        iterate 2 (refine wpPlan_readS hS0 (fun K hK => ?_); simp only [List.getD_cons_zero, List.getD_cons_succ]; go_simp; refine hK _ ?_; clear hK K)
        refine wpPlan_only (fun K hK => ?_)
        simp only [List.getD_cons_zero, List.getD_cons_succ]
        go_simp
        refine hK _ _ (fun _ => Cls.mk l1) ?_
        clear hK K f2 p2 u3
        iterate 2 (refine wpPlan_readS l1 (fun K hK => ?_); simp only [List.getD_cons_zero, List.getD_cons_succ]; go_simp; refine hK _ ?_; clear hK K)
        refine wpPlan_only (fun K hK => ?_)
        simp only [List.getD_cons_zero, List.getD_cons_succ]
        go_simp
        refine hK _ _ (fun _ => Cls.mk l2) ?_
        clear hK K f3 p3
        iterate 2 (refine wpPlan_pure (fun K hK => ?_); simp only [List.getD_cons_zero, List.getD_cons_succ]; go_simp; refine hK _ ?_; clear hK K)
        refine wpPlan_only (fun K hK => ?_)
        simp only [List.getD_cons_zero, List.getD_cons_succ]
        go_simp
        refine hK _ _ (by simp) ?_
        clear hK K f4 p4
        refine wpPlan_done ?_
        clear hS0 hS1 hSA l1 l2
        obtain ⟨h8, c8⟩ := h7.swap
        obtain ⟨W8, hW8⟩ : ∃ W8, ((W.setCell ⟨s, 2, none⟩ (.pointer (some ⟨bm, 0, none⟩))).setCell ⟨s, 3, none⟩ (.pointer (some ⟨bu, 0, none⟩))).setCell ⟨s, 4, none⟩ (.int .i64 0) = W8 := ⟨_, rfl⟩
        rw [hW8] at h8 c8 ⊢
        clear hW8
        have hqs : q ∉ [s] := by simp; have := HQ.out; omega
        have bq8 := bq7.keep c8 hqs
        have cw8 : Ch (s :: (bu :: Gu ++ (bm :: Gm))) w W8 := (cw7.mono (by simp)).trans (c8.mono (fun x hx => by simp at hx; subst hx; exact .inl (by simp)))
        have ov8 := ov7.keepLt c8 (by simp; exact hsw)
        have t8 : TabW W8 := (HT.out.ch cw7).keep c8 (by simp; exact hs0)
        have hA := bitsAllN bu n i U Gu W8 h8.ms t8 hn (by rw [← els_len]; exact HL.out)
        have e0 := bq8.cell 0
        have e3 := h8.top.cell 3
        clear h7 bq7 cw7 ov7 c8 t8 hqs
        go_wp2_with fail
        refine hA.mono ?_; rintro e W9 ⟨a9, c9, rfl, o9, ch9⟩
        have h9 := h8.ch ch9
        have bq9 := bq8.keep ch9 (by simp)
        have ov9 := ov8.keep ch9 (by simp)
        have cw9 := cw8.trans (ch9.mono (T := s :: (bu :: Gu ++ (bm :: Gm))) (by simp))
        have rd9 := o9.rdN
        have hna : ∀ y, a9 = some y → y.block ∉ bu :: Gu := fun y hy hk => by
          have k1 := o9.2 y.block (by subst hy; rfl)
          have k2 := hub _ hk
          have k3 := cw8.size
          omega
        have hqb : q ∉ bu :: Gu := fun hk => by have := hub _ hk; have := HQ.out; omega
        have HTop := Lib.hid (show ∀ x ∈ bu :: Gu, x < w.heap.size from hub)
        clear hA e0 e3 h8 bq8 ov8 cw8 o9 ch9 hub
        go_wp2_with fail
        go_loopw [54] (fun s54 wr => ∃ (j : Nat) (V : Nat → Bool), s54 = .int .i64 j ∧ j ≤ i ∧ SpanAt wr s f k n bm bu M V Gm Gu 0 ∧ Ch (bu :: Gu) W9 wr ∧ ∀ y, y < n → V y = true → (y : Int) ∈ (els U n).drop j) (fun s54 _ => i - (intOf s54).toNat)
        case atStart => exact ⟨0, U, rfl, Nat.zero_le _, h9, Ch.refl _ _, fun y hy hU => by rw [List.drop_zero, mem_els, hasI_in hy]; exact hU⟩
        case round =>
          clear h9
          obtain ⟨j, V, rfl, hji, hsp, cr, HV⟩ := hrel
          have HV := Lib.hid HV
          by_cases hj : j < i
          · have t1 : decide ((j : Int) < i) = true := decide_eq_true (by omega)
            have hjl : j < (els U n).length := by rw [HL.out]; exact hj
            have hdr := drop_gI (els U n) j hjl
            obtain ⟨b1, o1, rfl, c1⟩ := (rd9.keep cr hna).at hjl
            have d1 := c1 j hjl
            obtain ⟨x, hx⟩ : ∃ x, gI (els U n) j = x := ⟨_, rfl⟩
            rw [hx] at d1 hdr
            have bqr := bq9.keep cr hqb
            have e0 := bqr.cell 0
            have e3 := hsp.top.cell 3
            have hcl := bitsClear bu n V Gu x _ hsp.ms
            have HDR := Lib.hid hdr
            clear c1 hx hdr bqr
            go_wp2_with fail
            refine hcl.mono ?_; rintro e w10 ⟨rfl, s10, c10⟩
            have h10 := hsp.turnM s10 c10
            have cr10 := cr.trans c10
            clear hcl d1 e0 e3 s10 hsp
            go_wp2_with fail
            go_roundw
            case rel =>
              refine ⟨j + 1, _, by go_num, by omega, h10, cr10, fun y hy hyV => ?_⟩
              have hxm : x ∈ els U n := List.mem_of_mem_drop (by rw [HDR.out]; simp : x ∈ (els U n).drop j)
              have hxi := (mem_els U n x).1 hxm
              simp only [hasI, Bool.and_eq_true, decide_eq_true_eq] at hxi
              have hq2 := hasI_put V n x y false ⟨hxi.1, hxi.2.1⟩
              rw [hasI_in hy, hyV] at hq2
              by_cases hyx : (y : Int) = x
              · rw [if_pos hyx] at hq2; cases hq2
              · rw [if_neg hyx, hasI_in hy] at hq2
                have := HV.out y hy hq2.symm
                rw [HDR.out] at this
                rcases List.mem_cons.1 this with h | h
                · exact absurd h hyx
                · exact h
            case measure => simp [intOf]; omega
          · obtain rfl : j = i := by omega
            have t1 : decide ((j : Int) < j) = false := decide_eq_false (by omega)
            have hno : ∀ y, y < n → V y = none_ y := fun y hy => by
              cases h : V y with
              | false => rfl
              | true =>
                have := HV.out y hy h
                rw [List.drop_of_length_le (by rw [HL.out]; omega)] at this
                cases this
            have hfin : SpanAt _ s f k n bm bu M none_ Gm Gu 0 := ⟨hsp.top, hsp.us, hsp.ms.congr hno, hsp.ne, hsp.ap, hsp.sl, hsp.sz, hsp.fb, hsp.frn⟩
            have ovf := ov9.keepLt cr HTop.out
            have cwf := cw9.trans (cr.mono (T := s :: (bu :: Gu ++ (bm :: Gm))) (fun x hx => .inl (List.mem_cons_of_mem _ (List.mem_append_left _ hx))))
            clear rd9 hsp cr bq9 ov9 cw9 hna
            go_wp2_with fail
            go_ret
            exact ⟨_, rfl, ovf, hfin, cwf⟩
end
end Go.Proofs.YtheniiinioggiaaDoor
