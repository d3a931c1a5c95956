/-
  Contracts of package central: Begin, Unswept, Any. Conditions: none beyond what each theorem names.
-/
import Derived.Test.YtaafdhohiekakaaCentral3
namespace Go.Proofs.Ytaafdhohiekakaa
open Go.RowKit
/-- The rows when the first m pairs of them have begun. -/
def begTo (Ls : List (List Int)) (m : Nat) : List (List Int) := (List.range 64).map fun i => if i / 4 * 2 + i % 2 < m then (if i % 4 < 2 then [] else gL Ls i ++ gL Ls (i - 2)) else gL Ls i
theorem begTo_len (Ls : List (List Int)) (m : Nat) : (begTo Ls m).length = 64 := by simp [begTo]
theorem gL_begTo (Ls : List (List Int)) (m i : Nat) (hi : i < 64) : gL (begTo Ls m) i = if i / 4 * 2 + i % 2 < m then (if i % 4 < 2 then [] else gL Ls i ++ gL Ls (i - 2)) else gL Ls i := by
  unfold begTo
  conv => lhs; unfold gL
  rw [List.getD_eq_getElem?_getD, List.getElem?_map, List.getElem?_range hi]
  rfl
theorem gL_out (Ls : List (List Int)) (i : Nat) (h : Ls.length ≤ i) : gL Ls i = [] := by
  unfold gL
  rw [List.getD_eq_getElem?_getD, List.getElem?_eq_none h]
  rfl
theorem rows_ext {A B : List (List Int)} (ha : A.length = 64) (hb : B.length = 64) (h : ∀ i, i < 64 → gL A i = gL B i) : A = B := by
  apply List.ext_getElem (by omega)
  intro n h1 h2
  have := h n (by omega)
  unfold gL at this
  simpa [List.getD_eq_getElem?_getD, h1, h2] using this
theorem begTo_zero (Ls : List (List Int)) (h : Ls.length = 64) : begTo Ls 0 = Ls := rows_ext (begTo_len _ _) h (fun i hi => by rw [gL_begTo _ _ _ hi, if_neg (by omega)])
theorem begTo_step (Ls : List (List Int)) (k f : Nat) (hk : k < 16) (hf : f < 2) :
    ((begTo Ls (k * 2 + f)).set (k * 4 + 2 + f) (gL (begTo Ls (k * 2 + f)) (k * 4 + 2 + f) ++ gL (begTo Ls (k * 2 + f)) (k * 4 + f))).set (k * 4 + f) [] = begTo Ls (k * 2 + f + 1) := by
  refine rows_ext (by simp [begTo_len]) (begTo_len _ _) (fun i hi => ?_)
  have e1 : gL (begTo Ls (k * 2 + f)) (k * 4 + 2 + f) = gL Ls (k * 4 + 2 + f) := by rw [gL_begTo _ _ _ (by omega), if_neg (by omega)]
  have e2 : gL (begTo Ls (k * 2 + f)) (k * 4 + f) = gL Ls (k * 4 + f) := by rw [gL_begTo _ _ _ (by omega), if_neg (by omega)]
  rw [e1, e2, gL_set _ _ _ _ (by simp [begTo_len]; omega), gL_set _ _ _ _ (by simp [begTo_len]; omega)]
  by_cases h1 : i = k * 4 + f
  · rw [if_pos h1, gL_begTo _ _ _ hi, if_pos (by omega), if_pos (by omega)]
  · by_cases h2 : i = k * 4 + 2 + f
    · rw [if_neg h1, if_pos h2, gL_begTo _ _ _ hi, if_pos (by omega), if_neg (by omega), h2, show k * 4 + 2 + f - 2 = k * 4 + f by omega]
    · rw [if_neg h1, if_neg h2, gL_begTo _ _ _ hi, gL_begTo _ _ _ hi]
      by_cases h3 : i / 4 * 2 + i % 2 < k * 2 + f
      · have h4 : i / 4 * 2 + i % 2 < k * 2 + f + 1 := by omega
        rw [if_pos h3, if_pos h4]
      · have h4 : ¬ i / 4 * 2 + i % 2 < k * 2 + f + 1 := by omega
        rw [if_neg h3, if_neg h4]
theorem begTo_le (Ls : List (List Int)) (m M : Nat) (hl : ∀ i, (gL Ls i).length ≤ M) : ∀ i, (gL (begTo Ls m) i).length ≤ 2 * M := by
  intro i
  by_cases hi : i < 64
  · rw [gL_begTo _ _ _ hi]
    have := hl i
    have := hl (i - 2)
    split
    · split
      · simp
      · rw [List.length_append]; omega
    · omega
  · rw [gL_out _ _ (by rw [begTo_len]; omega)]; simp
theorem centBeginNil (w : World) : Calls Try.prog 25 #[.pointer none] w fun e w' => e = .returned (.tuple #[]) ∧ w' = w := by
  go_enter Try.func25, Try.ntmps25
  go_wp2
  exact bodyPost_ret (results_none rfl _ _ _) rfl ⟨rfl, rfl⟩
set_option maxHeartbeats 4000000 in
theorem centBegin (c g : Nat) (vs : List Value) (Ls : List (List Int)) (w : World) (h : CentAt w c g vs Ls) (hl : ∀ i, (gL Ls i).length ≤ 20000) :
    Calls Try.prog 25 #[.pointer (some ⟨c, 0, none⟩)] w fun e w' => e = .returned (.tuple #[]) ∧ Turned w c g vs (begTo Ls 32) w' := by
  have HL := Lib.hid hl
  have hT0 : Turned w c g vs (begTo Ls 0) w := by rw [begTo_zero Ls h.len]; exact Turned.refl h
  have c0 := h.top.cell 0
  clear hl
  go_enter Try.func25, Try.ntmps25
  go_wp2_with fail
  go_loopw [2, 3, 11] (fun s2 s3 s11 wr => ∃ k : Nat, s11 = .int .i64 k ∧ k ≤ 16 ∧ Turned w c g vs (begTo Ls (k * 2)) wr) (fun _ _ s11 _ => 16 - (intOf s11).toNat)
  case atStart => exact ⟨0, rfl, by omega, hT0⟩
  case round =>
    clear hT0 c0
    obtain ⟨k, rfl, hk, hT⟩ := hrel
    by_cases hk16 : k < 16
    · have t1 : decide ((k : Int) < 16) = true := decide_eq_true (by omega)
      go_wp2_with fail
      go_loopw [3, 14] (fun s3 s14 wr => ∃ f : Nat, s14 = .int .i64 f ∧ f ≤ 2 ∧ Turned w c g vs (begTo Ls (k * 2 + f)) wr) (fun _ s14 _ => 2 - (intOf s14).toNat)
      case atStart => exact ⟨0, rfl, by omega, hT⟩
      case round =>
        clear hT
        obtain ⟨f, rfl, hf, hT⟩ := hrel
        by_cases hf2 : f < 2
        · have t2 : decide ((f : Int) < 2) = true := decide_eq_true (by omega)
          obtain ⟨vs1, h1, c1, n1⟩ := hT
          have hstep := begTo_step Ls k f hk16 hf2
          have hle := begTo_le Ls (k * 2 + f) 20000 HL.out
          obtain ⟨D, hD⟩ : ∃ D, begTo Ls (k * 2 + f) = D := ⟨_, rfl⟩
          rw [hD] at h1 hstep hle
          obtain ⟨i, hi⟩ : ∃ i, k * 4 + 2 + f = i := ⟨_, rfl⟩
          obtain ⟨j, hj⟩ : ∃ j, k * 4 + f = j := ⟨_, rfl⟩
          rw [hi, hj] at hstep
          have hij : i ≠ j := by omega
          have hi64 : i < 64 := by omega
          have hj64 : j < 64 := by omega
          obtain ⟨P, hP⟩ : ∃ P, gL D i = P := ⟨_, rfl⟩
          obtain ⟨Q, hQ⟩ : ∃ Q, gL D j = Q := ⟨_, rfl⟩
          have hPl := hle i
          have hQl := hle j
          rw [hP, hQ] at hstep
          rw [hP] at hPl
          rw [hQ] at hQl
          obtain ⟨vi, hvi, hOi, hci⟩ := h1.rows.at i (by rw [h1.vlen]; exact hi64)
          obtain ⟨vj, hvj, hOj, hcj⟩ := h1.rows.at j (by rw [h1.vlen]; exact hj64)
          rw [hP] at hOi
          rw [hQ] at hOj
          obtain ⟨ai, cpi, rfl, zi1, zi2, rdi⟩ := hOi.form
          obtain ⟨aj, cpj, rfl, zj1, zj2, rdj⟩ := hOj.form
          obtain ⟨n, hn⟩ : ∃ n, P.length = n := ⟨_, rfl⟩
          obtain ⟨m, hm⟩ : ∃ m, Q.length = m := ⟨_, rfl⟩
          rw [hn] at hvi hci hPl zi1 hOi
          rw [hm] at hvj hcj hQl zj1 hOj
          have c0 := h1.top.cell 0
          have k7 : (k : Int) < 16 := by omega
          have k9 : (f : Int) < 2 := by omega
          have k10 : (0 : Int) ≤ k := by omega
          have k12 : (0 : Int) ≤ f := by omega
          have HS := Lib.hid hstep
          have HVI := Lib.hid hvi
          have HN := Lib.hid hn
          have HM := Lib.hid hm
          have HH1 := Lib.hid h1
          have HIJ := Lib.hid hij
          clear hstep hle hD hP hQ hvi hvj hn hm hij hk hf hk16
          go_upto_region 7 with fail
          obtain ⟨L, hLL⟩ : ∃ L : World → Prop, ∀ w', L w' ↔ (w'.cell? ⟨c, 0, none⟩ = some (.slice (some ⟨g, 0, none⟩) 16 16) ∧ w'.cell? ⟨g, i, none⟩ = some (.slice ai n cpi) ∧ w'.cell? ⟨g, j, none⟩ = some (.slice aj m cpj)) := ⟨_, fun _ => Iff.rfl⟩
          have hS1 : ∀ y : { w' : World // L w' }, y.1.cell? ⟨c, 0, none⟩ = some (.slice (some ⟨g, 0, none⟩) 16 16) := fun y => ((hLL _).1 y.2).1
          have hS2 : ∀ y : { w' : World // L w' }, y.1.cell? ⟨g, i, none⟩ = some (.slice ai n cpi) := fun y => ((hLL _).1 y.2).2.1
          have hS3 : ∀ y : { w' : World // L w' }, y.1.cell? ⟨g, j, none⟩ = some (.slice aj m cpj) := fun y => ((hLL _).1 y.2).2.2
          have hLk : ∀ w', Ch [] wr w' → L w' := fun w' hc => (hLL _).2 ⟨(h1.top.keep hc (by simp)).cell 0, ((h1.rows.blk.keep hc (by simp)).cell i).trans ((h1.rows.blk.cell i).symm.trans hci), ((h1.rows.blk.keep hc (by simp)).cell j).trans ((h1.rows.blk.cell j).symm.trans hcj)⟩
          have hlc := hLk _ ((Ch.refl [] wr).drewN 1)
          have hSA : Nonempty { w' : World // L w' } := ⟨⟨_, hlc⟩⟩
          have HLk := Lib.hid hLk
          clear hLL hLk
          refine wp_region_plan (Cls L) (List.range 31) (.reads [0, 1, 2, 3, 4, 5, 6, 7, 8, 9, 10, 11, 12, 13, 14, 15, 16, 17, 18, 19, 20, 21, 22, 23, 24, 25] (.alt 26 (.alt 27 (.alt 28 (.alt 29 (.alt 30 (.alt 31 .done .done) .done) .done) .done) (.alt 28 (.alt 27 (.alt 29 (.alt 30 (.alt 31 .done .done) .done) .done) (.alt 29 (.alt 27 (.alt 30 (.alt 31 .done .done) .done) .done) .done)) .done)) (.alt 28 (.alt 26 (.alt 27 (.alt 29 (.alt 30 (.alt 31 .done .done) .done) .done) (.alt 29 (.alt 27 (.alt 30 (.alt 31 .done .done) .done) .done) .done)) (.alt 29 (.alt 26 (.alt 27 (.alt 30 (.alt 31 .done .done) .done) .done) .done) .done)) .done))) (by kernel_rfl) (by kernel_rfl) (fun _ _ _ _ _ h => h) ?_
          simp only [Plan.reads, Plan.only, List.foldr_cons, List.foldr_nil]
          iterate 26 (refine wpPlan_readS hlc (fun K hK => ?_); simp only [List.getD_cons_zero, List.getD_cons_succ]; go_simp; refine hK _ ?_; clear hK K)
          clear hS1 hS2 hS3 hSA
          refine wpPlan_alt (fun K hK => ?_) ?_
          · skip
            simp only [List.getD_cons_zero, List.getD_cons_succ]
            go_simp
            obtain ⟨W, hW⟩ : ∃ W, (wr.drewN 1).alloc (.cells #[.slice ai n cpi, .slice aj m cpj] 22) = W := ⟨_, rfl⟩
            have cW : Ch [] wr W := by rw [← hW]; exact ((Ch.refl [] wr).drewN 1).alloc _
            have bW : Blk W wr.heap.size #[.slice ai n cpi, .slice aj m cpj] 22 := by rw [← hW]; exact Blk.new (wr.drewN 1) _ _
            rw [hW]
            clear hW
            have hlc := HLk.out _ cW
            refine hK _ _ (fun _ => Cls.mk hlc) ?_
            clear hK K
            refine wpPlan_alt (fun K hK => ?_) ?_
            · skip
              simp only [List.getD_cons_zero, List.getD_cons_succ]
              go_simp
              refine (concatTwo wr.heap.size ai aj P Q cpi cpj W (by rw [HN.out, HM.out]; exact bW) (rdi.keep cW (by simp)) (rdj.keep cW (by simp)) (by rw [HN.out, HM.out]; omega)).mono ?_
              rintro e w2 ⟨v', rfl, o2, c2⟩
              have c12 := cW.trans c2
              have hlc := HLk.out _ c12
              refine hK _ _ (fun _ => Cls.mk hlc) ?_
              clear hK K
              refine wpPlan_only (fun K hK => ?_)
              simp only [List.getD_cons_zero, List.getD_cons_succ]
              go_simp
              refine hK _ _ (fun _ => Cls.mk hlc) ?_
              clear hK K
              refine wpPlan_only (fun K hK => ?_)
              simp only [List.getD_cons_zero, List.getD_cons_succ]
              go_simp
              refine hK _ _ (fun _ => Cls.mk hlc) ?_
              clear hK K
              refine wpPlan_only (fun K hK => ?_)
              simp only [List.getD_cons_zero, List.getD_cons_succ]
              go_simp
              refine hK _ _ (fun _ => Cls.mk hlc) ?_
              clear hK K
              have hsW := c12.size
              have hgl := HH1.out.rows.lt
              have h2 := HH1.out.ch c12
              have hT1 := HH1.out.turn HVI.out (c12.mono (by simp)) (o2.mono (show g + 1 ≤ _ by have := cW.size; omega)) (.inr (fun k hk => by have := o2.2 k hk; have := cW.size; omega))
              have q1 := h2.rows.blk.frozen i
              have q2 := h2.rows.blk.cell i
              rw [show vs1.toArray[i]? = some (Value.slice ai n cpi) by simpa using HVI.out] at q2
              obtain ⟨a4, cap4, rfl, _⟩ := o2.form
              generalize hz : (P ++ Q).length = z at *
              have HZ := Lib.hid hz
              clear hz
              obtain ⟨w3, hw3⟩ : ∃ w3, w2.setCell ⟨g, i, none⟩ (.slice a4 z cap4) = w3 := ⟨_, rfl⟩
              rw [hw3] at hT1
              refine wpPlan_only (fun K hK => ?_)
              simp only [List.getD_cons_zero, List.getD_cons_succ]
              go_simp
              refine hK _ _ (by simp) ?_
              clear hK K q1 q2 hlc
              refine wpPlan_done ?_
              obtain ⟨vs3, h3, c3, n3⟩ := hT1
              obtain ⟨v3, hv3, hO3, hc3⟩ := h3.rows.at j (by rw [h3.vlen]; exact hj64)
              have q3 := h3.rows.blk.frozen j
              have c03 := h3.top.cell 0
              have hT2 := h3.turn hv3 (Ch.refl _ _) (OwI.nil _ _) (.inr (fun k hk => by simp [Value.ownBlock] at hk))
              rw [HS.out] at hT2
              have hT3 := Turned.trans c1 n1 (Turned.trans c3 n3 hT2)
              clear hw3 h2 h3 hT2 hv3 hO3 c0 hci hcj hOi hOj c12 c2 cW bW o2 rdi rdj
              go_wp2_with fail
              go_roundw
              case rel => exact ⟨f + 1, by go_num, by omega, hT3⟩
              case measure => simp [intOf]; omega
            · refine wpPlan_alt (fun K hK => ?_) (by simp [wpPlan])
              simp only [List.getD_cons_zero, List.getD_cons_succ]
              go_simp
              refine hK _ _ (fun _ => Cls.mk hlc) ?_
              clear hK K
              refine wpPlan_alt (fun K hK => ?_) ?_
              · skip
                simp only [List.getD_cons_zero, List.getD_cons_succ]
                go_simp
                refine (concatTwo wr.heap.size ai aj P Q cpi cpj W (by rw [HN.out, HM.out]; exact bW) (rdi.keep cW (by simp)) (rdj.keep cW (by simp)) (by rw [HN.out, HM.out]; omega)).mono ?_
                rintro e w2 ⟨v', rfl, o2, c2⟩
                have c12 := cW.trans c2
                have hlc := HLk.out _ c12
                refine hK _ _ (fun _ => Cls.mk hlc) ?_
                clear hK K
                refine wpPlan_only (fun K hK => ?_)
                simp only [List.getD_cons_zero, List.getD_cons_succ]
                go_simp
                refine hK _ _ (fun _ => Cls.mk hlc) ?_
                clear hK K
                refine wpPlan_only (fun K hK => ?_)
                simp only [List.getD_cons_zero, List.getD_cons_succ]
                go_simp
                refine hK _ _ (fun _ => Cls.mk hlc) ?_
                clear hK K
                have hsW := c12.size
                have hgl := HH1.out.rows.lt
                have h2 := HH1.out.ch c12
                have hT1 := HH1.out.turn HVI.out (c12.mono (by simp)) (o2.mono (show g + 1 ≤ _ by have := cW.size; omega)) (.inr (fun k hk => by have := o2.2 k hk; have := cW.size; omega))
                have q1 := h2.rows.blk.frozen i
                have q2 := h2.rows.blk.cell i
                rw [show vs1.toArray[i]? = some (Value.slice ai n cpi) by simpa using HVI.out] at q2
                obtain ⟨a4, cap4, rfl, _⟩ := o2.form
                generalize hz : (P ++ Q).length = z at *
                have HZ := Lib.hid hz
                clear hz
                obtain ⟨w3, hw3⟩ : ∃ w3, w2.setCell ⟨g, i, none⟩ (.slice a4 z cap4) = w3 := ⟨_, rfl⟩
                rw [hw3] at hT1
                refine wpPlan_only (fun K hK => ?_)
                simp only [List.getD_cons_zero, List.getD_cons_succ]
                go_simp
                refine hK _ _ (by simp) ?_
                clear hK K q1 q2 hlc
                refine wpPlan_done ?_
                obtain ⟨vs3, h3, c3, n3⟩ := hT1
                obtain ⟨v3, hv3, hO3, hc3⟩ := h3.rows.at j (by rw [h3.vlen]; exact hj64)
                have q3 := h3.rows.blk.frozen j
                have c03 := h3.top.cell 0
                have hT2 := h3.turn hv3 (Ch.refl _ _) (OwI.nil _ _) (.inr (fun k hk => by simp [Value.ownBlock] at hk))
                rw [HS.out] at hT2
                have hT3 := Turned.trans c1 n1 (Turned.trans c3 n3 hT2)
                clear hw3 h2 h3 hT2 hv3 hO3 c0 hci hcj hOi hOj c12 c2 cW bW o2 rdi rdj
                go_wp2_with fail
                go_roundw
                case rel => exact ⟨f + 1, by go_num, by omega, hT3⟩
                case measure => simp [intOf]; omega
              · refine wpPlan_alt (fun K hK => ?_) (by simp [wpPlan])
                simp only [List.getD_cons_zero, List.getD_cons_succ]
                go_simp
                refine hK _ _ (fun _ => Cls.mk hlc) ?_
                clear hK K
                refine wpPlan_only (fun K hK => ?_)
                simp only [List.getD_cons_zero, List.getD_cons_succ]
                go_simp
                refine (concatTwo wr.heap.size ai aj P Q cpi cpj W (by rw [HN.out, HM.out]; exact bW) (rdi.keep cW (by simp)) (rdj.keep cW (by simp)) (by rw [HN.out, HM.out]; omega)).mono ?_
                rintro e w2 ⟨v', rfl, o2, c2⟩
                have c12 := cW.trans c2
                have hlc := HLk.out _ c12
                refine hK _ _ (fun _ => Cls.mk hlc) ?_
                clear hK K
                refine wpPlan_only (fun K hK => ?_)
                simp only [List.getD_cons_zero, List.getD_cons_succ]
                go_simp
                refine hK _ _ (fun _ => Cls.mk hlc) ?_
                clear hK K
                have hsW := c12.size
                have hgl := HH1.out.rows.lt
                have h2 := HH1.out.ch c12
                have hT1 := HH1.out.turn HVI.out (c12.mono (by simp)) (o2.mono (show g + 1 ≤ _ by have := cW.size; omega)) (.inr (fun k hk => by have := o2.2 k hk; have := cW.size; omega))
                have q1 := h2.rows.blk.frozen i
                have q2 := h2.rows.blk.cell i
                rw [show vs1.toArray[i]? = some (Value.slice ai n cpi) by simpa using HVI.out] at q2
                obtain ⟨a4, cap4, rfl, _⟩ := o2.form
                generalize hz : (P ++ Q).length = z at *
                have HZ := Lib.hid hz
                clear hz
                obtain ⟨w3, hw3⟩ : ∃ w3, w2.setCell ⟨g, i, none⟩ (.slice a4 z cap4) = w3 := ⟨_, rfl⟩
                rw [hw3] at hT1
                refine wpPlan_only (fun K hK => ?_)
                simp only [List.getD_cons_zero, List.getD_cons_succ]
                go_simp
                refine hK _ _ (by simp) ?_
                clear hK K q1 q2 hlc
                refine wpPlan_done ?_
                obtain ⟨vs3, h3, c3, n3⟩ := hT1
                obtain ⟨v3, hv3, hO3, hc3⟩ := h3.rows.at j (by rw [h3.vlen]; exact hj64)
                have q3 := h3.rows.blk.frozen j
                have c03 := h3.top.cell 0
                have hT2 := h3.turn hv3 (Ch.refl _ _) (OwI.nil _ _) (.inr (fun k hk => by simp [Value.ownBlock] at hk))
                rw [HS.out] at hT2
                have hT3 := Turned.trans c1 n1 (Turned.trans c3 n3 hT2)
                clear hw3 h2 h3 hT2 hv3 hO3 c0 hci hcj hOi hOj c12 c2 cW bW o2 rdi rdj
                go_wp2_with fail
                go_roundw
                case rel => exact ⟨f + 1, by go_num, by omega, hT3⟩
                case measure => simp [intOf]; omega
          · refine wpPlan_alt (fun K hK => ?_) (by simp [wpPlan])
            simp only [List.getD_cons_zero, List.getD_cons_succ]
            go_simp
            refine hK _ _ (fun _ => Cls.mk hlc) ?_
            clear hK K
            refine wpPlan_alt (fun K hK => ?_) ?_
            · skip
              simp only [List.getD_cons_zero, List.getD_cons_succ]
              go_simp
              obtain ⟨W, hW⟩ : ∃ W, (wr.drewN 1).alloc (.cells #[.slice ai n cpi, .slice aj m cpj] 22) = W := ⟨_, rfl⟩
              have cW : Ch [] wr W := by rw [← hW]; exact ((Ch.refl [] wr).drewN 1).alloc _
              have bW : Blk W wr.heap.size #[.slice ai n cpi, .slice aj m cpj] 22 := by rw [← hW]; exact Blk.new (wr.drewN 1) _ _
              rw [hW]
              clear hW
              have hlc := HLk.out _ cW
              refine hK _ _ (fun _ => Cls.mk hlc) ?_
              clear hK K
              refine wpPlan_alt (fun K hK => ?_) ?_
              · skip
                simp only [List.getD_cons_zero, List.getD_cons_succ]
                go_simp
                refine (concatTwo wr.heap.size ai aj P Q cpi cpj W (by rw [HN.out, HM.out]; exact bW) (rdi.keep cW (by simp)) (rdj.keep cW (by simp)) (by rw [HN.out, HM.out]; omega)).mono ?_
                rintro e w2 ⟨v', rfl, o2, c2⟩
                have c12 := cW.trans c2
                have hlc := HLk.out _ c12
                refine hK _ _ (fun _ => Cls.mk hlc) ?_
                clear hK K
                refine wpPlan_only (fun K hK => ?_)
                simp only [List.getD_cons_zero, List.getD_cons_succ]
                go_simp
                refine hK _ _ (fun _ => Cls.mk hlc) ?_
                clear hK K
                refine wpPlan_only (fun K hK => ?_)
                simp only [List.getD_cons_zero, List.getD_cons_succ]
                go_simp
                refine hK _ _ (fun _ => Cls.mk hlc) ?_
                clear hK K
                have hsW := c12.size
                have hgl := HH1.out.rows.lt
                have h2 := HH1.out.ch c12
                have hT1 := HH1.out.turn HVI.out (c12.mono (by simp)) (o2.mono (show g + 1 ≤ _ by have := cW.size; omega)) (.inr (fun k hk => by have := o2.2 k hk; have := cW.size; omega))
                have q1 := h2.rows.blk.frozen i
                have q2 := h2.rows.blk.cell i
                rw [show vs1.toArray[i]? = some (Value.slice ai n cpi) by simpa using HVI.out] at q2
                obtain ⟨a4, cap4, rfl, _⟩ := o2.form
                generalize hz : (P ++ Q).length = z at *
                have HZ := Lib.hid hz
                clear hz
                obtain ⟨w3, hw3⟩ : ∃ w3, w2.setCell ⟨g, i, none⟩ (.slice a4 z cap4) = w3 := ⟨_, rfl⟩
                rw [hw3] at hT1
                refine wpPlan_only (fun K hK => ?_)
                simp only [List.getD_cons_zero, List.getD_cons_succ]
                go_simp
                refine hK _ _ (by simp) ?_
                clear hK K q1 q2 hlc
                refine wpPlan_done ?_
                obtain ⟨vs3, h3, c3, n3⟩ := hT1
                obtain ⟨v3, hv3, hO3, hc3⟩ := h3.rows.at j (by rw [h3.vlen]; exact hj64)
                have q3 := h3.rows.blk.frozen j
                have c03 := h3.top.cell 0
                have hT2 := h3.turn hv3 (Ch.refl _ _) (OwI.nil _ _) (.inr (fun k hk => by simp [Value.ownBlock] at hk))
                rw [HS.out] at hT2
                have hT3 := Turned.trans c1 n1 (Turned.trans c3 n3 hT2)
                clear hw3 h2 h3 hT2 hv3 hO3 c0 hci hcj hOi hOj c12 c2 cW bW o2 rdi rdj
                go_wp2_with fail
                go_roundw
                case rel => exact ⟨f + 1, by go_num, by omega, hT3⟩
                case measure => simp [intOf]; omega
              · refine wpPlan_alt (fun K hK => ?_) (by simp [wpPlan])
                simp only [List.getD_cons_zero, List.getD_cons_succ]
                go_simp
                refine hK _ _ (fun _ => Cls.mk hlc) ?_
                clear hK K
                refine wpPlan_only (fun K hK => ?_)
                simp only [List.getD_cons_zero, List.getD_cons_succ]
                go_simp
                refine (concatTwo wr.heap.size ai aj P Q cpi cpj W (by rw [HN.out, HM.out]; exact bW) (rdi.keep cW (by simp)) (rdj.keep cW (by simp)) (by rw [HN.out, HM.out]; omega)).mono ?_
                rintro e w2 ⟨v', rfl, o2, c2⟩
                have c12 := cW.trans c2
                have hlc := HLk.out _ c12
                refine hK _ _ (fun _ => Cls.mk hlc) ?_
                clear hK K
                refine wpPlan_only (fun K hK => ?_)
                simp only [List.getD_cons_zero, List.getD_cons_succ]
                go_simp
                refine hK _ _ (fun _ => Cls.mk hlc) ?_
                clear hK K
                have hsW := c12.size
                have hgl := HH1.out.rows.lt
                have h2 := HH1.out.ch c12
                have hT1 := HH1.out.turn HVI.out (c12.mono (by simp)) (o2.mono (show g + 1 ≤ _ by have := cW.size; omega)) (.inr (fun k hk => by have := o2.2 k hk; have := cW.size; omega))
                have q1 := h2.rows.blk.frozen i
                have q2 := h2.rows.blk.cell i
                rw [show vs1.toArray[i]? = some (Value.slice ai n cpi) by simpa using HVI.out] at q2
                obtain ⟨a4, cap4, rfl, _⟩ := o2.form
                generalize hz : (P ++ Q).length = z at *
                have HZ := Lib.hid hz
                clear hz
                obtain ⟨w3, hw3⟩ : ∃ w3, w2.setCell ⟨g, i, none⟩ (.slice a4 z cap4) = w3 := ⟨_, rfl⟩
                rw [hw3] at hT1
                refine wpPlan_only (fun K hK => ?_)
                simp only [List.getD_cons_zero, List.getD_cons_succ]
                go_simp
                refine hK _ _ (by simp) ?_
                clear hK K q1 q2 hlc
                refine wpPlan_done ?_
                obtain ⟨vs3, h3, c3, n3⟩ := hT1
                obtain ⟨v3, hv3, hO3, hc3⟩ := h3.rows.at j (by rw [h3.vlen]; exact hj64)
                have q3 := h3.rows.blk.frozen j
                have c03 := h3.top.cell 0
                have hT2 := h3.turn hv3 (Ch.refl _ _) (OwI.nil _ _) (.inr (fun k hk => by simp [Value.ownBlock] at hk))
                rw [HS.out] at hT2
                have hT3 := Turned.trans c1 n1 (Turned.trans c3 n3 hT2)
                clear hw3 h2 h3 hT2 hv3 hO3 c0 hci hcj hOi hOj c12 c2 cW bW o2 rdi rdj
                go_wp2_with fail
                go_roundw
                case rel => exact ⟨f + 1, by go_num, by omega, hT3⟩
                case measure => simp [intOf]; omega
            · refine wpPlan_alt (fun K hK => ?_) (by simp [wpPlan])
              simp only [List.getD_cons_zero, List.getD_cons_succ]
              go_simp
              refine hK _ _ (fun _ => Cls.mk hlc) ?_
              clear hK K
              refine wpPlan_only (fun K hK => ?_)
              simp only [List.getD_cons_zero, List.getD_cons_succ]
              go_simp
              obtain ⟨W, hW⟩ : ∃ W, (wr.drewN 1).alloc (.cells #[.slice ai n cpi, .slice aj m cpj] 22) = W := ⟨_, rfl⟩
              have cW : Ch [] wr W := by rw [← hW]; exact ((Ch.refl [] wr).drewN 1).alloc _
              have bW : Blk W wr.heap.size #[.slice ai n cpi, .slice aj m cpj] 22 := by rw [← hW]; exact Blk.new (wr.drewN 1) _ _
              rw [hW]
              clear hW
              have hlc := HLk.out _ cW
              refine hK _ _ (fun _ => Cls.mk hlc) ?_
              clear hK K
              refine wpPlan_only (fun K hK => ?_)
              simp only [List.getD_cons_zero, List.getD_cons_succ]
              go_simp
              refine (concatTwo wr.heap.size ai aj P Q cpi cpj W (by rw [HN.out, HM.out]; exact bW) (rdi.keep cW (by simp)) (rdj.keep cW (by simp)) (by rw [HN.out, HM.out]; omega)).mono ?_
              rintro e w2 ⟨v', rfl, o2, c2⟩
              have c12 := cW.trans c2
              have hlc := HLk.out _ c12
              refine hK _ _ (fun _ => Cls.mk hlc) ?_
              clear hK K
              refine wpPlan_only (fun K hK => ?_)
              simp only [List.getD_cons_zero, List.getD_cons_succ]
              go_simp
              refine hK _ _ (fun _ => Cls.mk hlc) ?_
              clear hK K
              have hsW := c12.size
              have hgl := HH1.out.rows.lt
              have h2 := HH1.out.ch c12
              have hT1 := HH1.out.turn HVI.out (c12.mono (by simp)) (o2.mono (show g + 1 ≤ _ by have := cW.size; omega)) (.inr (fun k hk => by have := o2.2 k hk; have := cW.size; omega))
              have q1 := h2.rows.blk.frozen i
              have q2 := h2.rows.blk.cell i
              rw [show vs1.toArray[i]? = some (Value.slice ai n cpi) by simpa using HVI.out] at q2
              obtain ⟨a4, cap4, rfl, _⟩ := o2.form
              generalize hz : (P ++ Q).length = z at *
              have HZ := Lib.hid hz
              clear hz
              obtain ⟨w3, hw3⟩ : ∃ w3, w2.setCell ⟨g, i, none⟩ (.slice a4 z cap4) = w3 := ⟨_, rfl⟩
              rw [hw3] at hT1
              refine wpPlan_only (fun K hK => ?_)
              simp only [List.getD_cons_zero, List.getD_cons_succ]
              go_simp
              refine hK _ _ (by simp) ?_
              clear hK K q1 q2 hlc
              refine wpPlan_done ?_
              obtain ⟨vs3, h3, c3, n3⟩ := hT1
              obtain ⟨v3, hv3, hO3, hc3⟩ := h3.rows.at j (by rw [h3.vlen]; exact hj64)
              have q3 := h3.rows.blk.frozen j
              have c03 := h3.top.cell 0
              have hT2 := h3.turn hv3 (Ch.refl _ _) (OwI.nil _ _) (.inr (fun k hk => by simp [Value.ownBlock] at hk))
              rw [HS.out] at hT2
              have hT3 := Turned.trans c1 n1 (Turned.trans c3 n3 hT2)
              clear hw3 h2 h3 hT2 hv3 hO3 c0 hci hcj hOi hOj c12 c2 cW bW o2 rdi rdj
              go_wp2_with fail
              go_roundw
              case rel => exact ⟨f + 1, by go_num, by omega, hT3⟩
              case measure => simp [intOf]; omega
        · obtain rfl : f = 2 := by omega
          have t2 : decide (((2 : Nat) : Int) < 2) = false := by decide
          go_wp2_with fail
          go_roundw
          case rel => exact ⟨k + 1, by go_num, by omega, by rw [show (k + 1) * 2 = k * 2 + 2 by omega]; exact hT⟩
          case measure => simp [intOf]; omega
    · obtain rfl : k = 16 := by omega
      go_wp2_with fail
      go_end0
      exact ⟨rfl, hT⟩
/-- How many unswept spans there are. -/
def unsw (Ls : List (List Int)) : Nat → Nat
  | 0 => 0
  | k + 1 => unsw Ls k + ((gL Ls (k * 4 + 2)).length + (gL Ls (k * 4 + 3)).length)
theorem centUnsweptNil (w : World) : Calls Try.prog 27 #[.pointer none] w fun e w' => e = .returned (.int .i64 0) ∧ w' = w := by
  go_enter Try.func27, Try.ntmps27
  go_wp2
  go_ret
  exact ⟨rfl, rfl⟩
theorem unsw_le (Ls : List (List Int)) (M : Nat) (hl : ∀ i, (gL Ls i).length ≤ M) (k : Nat) : unsw Ls k ≤ 2 * M * k := by
  induction k with
  | zero => simp [unsw]
  | succ k ih =>
    have h1 := hl (k * 4 + 2)
    have h2 := hl (k * 4 + 3)
    have h3 : 2 * M * (k + 1) = 2 * M * k + 2 * M := Nat.mul_succ _ _
    have h4 : unsw Ls (k + 1) = unsw Ls k + ((gL Ls (k * 4 + 2)).length + (gL Ls (k * 4 + 3)).length) := rfl
    omega
theorem centUnswept (c g : Nat) (vs : List Value) (Ls : List (List Int)) (w : World) (h : CentAt w c g vs Ls) (hl : ∀ i, (gL Ls i).length ≤ 100000) :
    Calls Try.prog 27 #[.pointer (some ⟨c, 0, none⟩)] w fun e w' => e = .returned (.int .i64 (unsw Ls 16 : Nat)) ∧ Ch [] w w' := by
  have HL := Lib.hid hl
  have c0 := h.top.cell 0
  clear hl
  go_enter Try.func27, Try.ntmps27
  go_wp2_with fail
  go_loopw [3, 5, 13] (fun s3 s5 s13 wr => ∃ k : Nat, s13 = .int .i64 k ∧ k ≤ 16 ∧ s3 = .int .i64 (unsw Ls k : Nat) ∧ Ch [] w wr) (fun _ _ s13 _ => 16 - (intOf s13).toNat)
  case atStart => exact ⟨0, rfl, by omega, rfl, Ch.refl _ _⟩
  case round =>
    clear c0
    obtain ⟨k, rfl, hk, rfl, hc⟩ := hrel
    by_cases hk16 : k < 16
    · have t1 : decide ((k : Int) < 16) = true := decide_eq_true (by omega)
      have h1 := h.ch hc
      have hu : unsw Ls (k + 1) = unsw Ls k + ((gL Ls (k * 4 + 2)).length + (gL Ls (k * 4 + 3)).length) := rfl
      have hul := unsw_le Ls 100000 HL.out k
      obtain ⟨U, hU⟩ : ∃ U, unsw Ls k = U := ⟨_, rfl⟩
      rw [hU] at hu hul ⊢
      obtain ⟨v0, hv0, hO0, hc0⟩ := h1.rows.at (k * 4) (by rw [h1.vlen]; omega)
      obtain ⟨v1, hv1, hO1, hc1⟩ := h1.rows.at (k * 4 + 1) (by rw [h1.vlen]; omega)
      obtain ⟨v2, hv2, hO2, hc2⟩ := h1.rows.at (k * 4 + 2) (by rw [h1.vlen]; omega)
      obtain ⟨v3, hv3, hO3, hc3⟩ := h1.rows.at (k * 4 + 3) (by rw [h1.vlen]; omega)
      have hl2 := HL.out (k * 4 + 2)
      have hl3 := HL.out (k * 4 + 3)
      obtain ⟨n2, hn2⟩ : ∃ n, (gL Ls (k * 4 + 2)).length = n := ⟨_, rfl⟩
      obtain ⟨n3, hn3⟩ : ∃ n, (gL Ls (k * 4 + 3)).length = n := ⟨_, rfl⟩
      rw [hn2] at hu hl2
      rw [hn3] at hu hl3
      obtain ⟨a0, q0, rfl, _⟩ := hO0.form
      obtain ⟨a1, q1, rfl, _⟩ := hO1.form
      obtain ⟨a2, q2, rfl, _⟩ := hO2.form
      obtain ⟨a3, q3, rfl, _⟩ := hO3.form
      rw [hn2] at hc2
      rw [hn3] at hc3
      obtain ⟨n0, hn0⟩ : ∃ n, (gL Ls (k * 4)).length = n := ⟨_, rfl⟩
      obtain ⟨n1, hn1⟩ : ∃ n, (gL Ls (k * 4 + 1)).length = n := ⟨_, rfl⟩
      rw [hn0] at hc0
      rw [hn1] at hc1
      have HU := Lib.hid hu
      clear hu hU hn0 hn1 hn2 hn3 hv0 hv1 hv2 hv3 hO0 hO1 hO2 hO3
      go_wp2_with fail
      go_roundw
      case rel => exact ⟨k + 1, by go_num, by omega, by rw [HU.out, ← Nat.add_assoc]; go_num, hc.alloc _⟩
      case measure => simp [intOf]; omega
    · obtain rfl : k = 16 := by omega
      go_wp2_with fail
      go_ret
      exact ⟨rfl, hc⟩
end Go.Proofs.Ytaafdhohiekakaa
