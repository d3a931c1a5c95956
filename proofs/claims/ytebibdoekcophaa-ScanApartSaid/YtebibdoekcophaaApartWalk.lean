/-
  The walk of the statement ScanApart: the law returns true at every input. Conditions: none beyond how the arguments are read.
-/
import Derived.Test.YtebibdoekcophaaScanApart
namespace Go.Proofs.Ytebibdoekcophaa
open Go.RowKit
set_option maxRecDepth 100000 in
set_option maxHeartbeats 8000000 in
theorem apart_walk (a0 : Option Addr) (A : List Int) (ca : Nat) (b0 : Option Addr) (B : List Int) (cb : Nat) (a2 : Option Addr) (len2 cap2 : Nat) (F2 : Nat → Nat → Value) (w : World) (rA : Rd w a0 A) (mA : A.length ≤ maxLen) (rB : Rd w b0 B) (mB : B.length ≤ maxLen)
    (r2 : RdS w a2 len2 1 F2) (t2 : ∀ i, i < len2 → (∃ x, F2 i 0 = .bool x)) (m2 : len2 ≤ maxLen) :
    Calls Try.prog 5 #[.slice a0 A.length ca, .slice b0 B.length cb, .slice a2 len2 cap2] w fun e w' => e = .returned (.bool true) ∧ Below w.heap.size w w' := by
  unfold maxLen at mA mB m2
  obtain ⟨nA, hnA⟩ : ∃ n, A.length = n := ⟨_, rfl⟩
  obtain ⟨nB, hnB⟩ : ∃ n, B.length = n := ⟨_, rfl⟩
  rw [hnA] at mA ⊢
  rw [hnB] at mB ⊢
  have HA := Lib.hid hnA
  have HB := Lib.hid hnB
  clear hnA hnB
  by_cases h100 : 100 < nA
  · have g1 : (100 : Int) < nA := by omega
    clear rA rB r2 t2
    go_enter Try.func5, Try.ntmps5
    go_wp2_with fail
    refine (told20 _).mono ?_; rintro e w3 ⟨rfl, c3⟩
    go_wp2
    go_ret
    exact ⟨rfl, ((((Ch.refl [] w).alloc _).alloc _).trans c3).below (Nat.le_refl _) (by simp)⟩
  · by_cases h101 : 100 < nB
    · have g1 : ¬ (100 : Int) < nA := by omega
      have g2 : (100 : Int) < nB := by omega
      clear rA rB r2 t2
      go_enter Try.func5, Try.ntmps5
      go_wp2_with fail
      refine (told20 _).mono ?_; rintro e w3 ⟨rfl, c3⟩
      go_wp2
      go_ret
      exact ⟨rfl, ((((Ch.refl [] w).alloc _).alloc _).trans c3).below (Nat.le_refl _) (by simp)⟩
    · have g1 : ¬ (100 : Int) < nA := by omega
      have g2 : ¬ (100 : Int) < nB := by omega
      go_enter Try.func5, Try.ntmps5
      go_upto_region 3 with fail
      obtain ⟨W1, hW1⟩ : ∃ W1, (w.alloc (.cells #[.slice a0 nA ca] 22)).alloc (.cells #[.slice b0 nB cb] 22) = W1 := ⟨_, rfl⟩
      obtain ⟨ka, hka⟩ : ∃ ka, w.heap.size = ka := ⟨_, rfl⟩
      have hsz : W1.heap.size = ka + 2 := by rw [← hW1, ← hka]; simp
      have bA : Blk W1 ka #[.slice a0 nA ca] 22 := by rw [← hW1, ← hka]; exact (Blk.new _ _ _).alloc _
      have bB : Blk W1 (ka + 1) #[.slice b0 nB cb] 22 := by rw [← hW1, ← hka]; exact Blk.new' (by simp) _ _
      have c1 : Ch [] w W1 := by rw [← hW1]; exact ((Ch.refl [] w).alloc _).alloc _
      rw [hW1, hka]
      have HKA := Lib.hid hka
      have HSZ := Lib.hid hsz
      clear hW1 hka hsz
      obtain ⟨L, hL⟩ : ∃ L : World → Prop, ∀ w', L w' ↔ (w'.cell? ⟨ka, 0, none⟩ = some (.slice a0 nA ca) ∧ w'.cell? ⟨ka + 1, 0, none⟩ = some (.slice b0 nB cb)) := ⟨_, fun _ => Iff.rfl⟩
      have hS1 : ∀ x : { w' : World // L w' }, x.1.cell? ⟨ka, 0, none⟩ = some (.slice a0 nA ca) := fun x => ((hL _).1 x.2).1
      have hS2 : ∀ x : { w' : World // L w' }, x.1.cell? ⟨ka + 1, 0, none⟩ = some (.slice b0 nB cb) := fun x => ((hL _).1 x.2).2
      have hLk : ∀ w', Ch [] W1 w' → L w' := fun w' hc => (hL _).2 ⟨(bA.keep hc (by simp)).cell 0, (bB.keep hc (by simp)).cell 0⟩
      have hS0 := hLk _ ((Ch.refl [] W1).drewN 1)
      have hSA : Nonempty { w' : World // L w' } := ⟨⟨_, hS0⟩⟩
      have HLk := Lib.hid hLk
      clear hL hLk
      refine wp_region_plan (Cls L) (List.range 8) (.reads [0, 1, 3, 4] (.only 2 (.only 5 (.reads [6, 7] .done)))) (by kernel_rfl) (by kernel_rfl) (fun _ _ _ _ _ h => h) ?_
      simp only [Plan.reads, Plan.only, List.foldr_cons, List.foldr_nil]
      iterate 4 (refine wpPlan_readS hS0 (fun K hK => ?_); simp only [List.getD_cons_zero, List.getD_cons_succ]; go_simp; refine hK _ ?_; clear hK K)
      refine wpPlan_only (fun K hK => ?_)
      simp only [List.getD_cons_zero, List.getD_cons_succ]
      go_simp
      refine (scanNew _ _ _).mono ?_; rintro e W2 ⟨rfl, hW2⟩
      rw [Int.max_eq_left (by omega)] at hW2
      have hsz2 : (W1.drewN 1).heap.size = ka + 2 := HSZ.out
      have s2 : ScanAt W2 (ka + 2) 1000 nA 0 := by rw [hW2, ← hsz2]; exact Blk.new _ _ _
      have cc2 : Ch [] W1 W2 := by rw [hW2]; exact ((Ch.refl [] W1).drewN 1).alloc _
      have hsz3 : W2.heap.size = ka + 3 := by rw [hW2]; simp; exact HSZ.out
      rw [hsz2]
      have hl2 := HLk.out _ cc2
      refine hK _ _ (fun _ => Cls.mk hl2) ?_
      clear hK K hW2
      refine wpPlan_only (fun K hK => ?_)
      simp only [List.getD_cons_zero, List.getD_cons_succ]
      go_simp
      refine (scanNew _ _ _).mono ?_; rintro e W3 ⟨rfl, hW3⟩
      rw [Int.max_eq_left (by omega)] at hW3
      have s3 : ScanAt W3 (ka + 3) 5000 nB 0 := by rw [hW3, ← hsz3]; exact Blk.new _ _ _
      have cc3' : Ch [] W2 W3 := by rw [hW3]; exact (Ch.refl [] W2).alloc _
      have hsz4 : W3.heap.size = ka + 4 := by rw [hW3]; simp; exact hsz3
      rw [hsz3]
      have hl3 := HLk.out _ (cc2.trans cc3')
      refine hK _ _ (fun _ => Cls.mk hl3) ?_
      clear hK K hW3
      iterate 2 (refine wpPlan_readS hl3 (fun K hK => ?_); simp only [List.getD_cons_zero, List.getD_cons_succ]; go_simp; refine hK _ ?_; clear hK K)
      refine wpPlan_done ?_
      have HS4 := Lib.hid hsz4
      clear hS0 hS1 hS2 hSA hl2 hl3 hsz2 hsz3 hsz4
      go_upto_region 7 with fail
      refine wp_named fun W4 hW4 => ?_
      have cc4 : Ch [] W3 W4 := by rw [hW4]; exact (Ch.refl [] W3).alloc _
      have b4 : Blk W4 (ka + 4) #[.bool false] 4 := by rw [hW4, ← HS4.out]; exact Blk.new _ _ _
      have hsz5 : W4.heap.size = ka + 5 := by rw [hW4]; simp; exact HS4.out
      have c14 := (cc2.trans cc3').trans cc4
      have hka := HKA.out
      have hst : ApSt w W4 ka (ka + 1) (ka + 4) (ka + 2) (ka + 3) (ka + 5) a0 A ca b0 B cb (.slice none 0 0) (.slice none 0 0) 0 0 := by
        refine ⟨⟨?_, ?_, b4, ?_, fun q hq => (c1.trans c14).block q hq (by simp)⟩, ?_, OwI.nil _ _, OwI.nil _ _, by simp [Value.ownBlock], c1.trans c14, ?_, by omega, by omega, by omega⟩
        · rw [HA.out]; exact bA.keep c14 (by simp)
        · rw [HB.out]; exact bB.keep c14 (by simp)
        · rw [HB.out]; exact Blk.keep s3 cc4 (by simp)
        · rw [HA.out]; exact Blk.keep s2 (cc3'.trans cc4) (by simp)
        · rw [HA.out, HB.out]; omega
      rw [HS4.out]
      obtain ⟨kb, hkb⟩ : ∃ kb, ka + 1 = kb := ⟨_, rfl⟩
      obtain ⟨bs, hbs⟩ : ∃ bs, ka + 2 = bs := ⟨_, rfl⟩
      obtain ⟨bt, hbt⟩ : ∃ bt, ka + 3 = bt := ⟨_, rfl⟩
      obtain ⟨okb, hok⟩ : ∃ okb, ka + 4 = okb := ⟨_, rfl⟩
      obtain ⟨T, hT⟩ : ∃ T, ka + 5 = T := ⟨_, rfl⟩
      rw [hkb, hbs, hbt, hok, hT] at hst
      rw [hkb, hbs, hbt, hok]
      clear hW4 cc4 b4 hsz5 c14 hka hkb hbs hbt hok hT cc2 cc3' s2 s3 bA bB c1 HLk HS4 HSZ g1 g2
      go_wp2_with fail
      go_loopw [11, 12, 13] (fun s11 s12 s13 wr => ∃ (i ps pt : Nat), s13 = .int .i64 i ∧ i ≤ 114 ∧ (i ≤ 100 ∨ i + remS nA ps + remS nB pt ≤ 114) ∧ ApSt w wr ka kb okb bs bt T a0 A ca b0 B cb s11 s12 ps pt) (fun _ _ s13 _ => 200 - (intOf s13).toNat)
      case atStart => exact ⟨0, 0, 0, rfl, by omega, .inl (by omega), hst⟩
      case round =>
        clear hst
        obtain ⟨i, ps, pt, rfl, hi, hpot, hst⟩ := hrel
        have i200 : decide ((i : Int) < 200) = true := decide_eq_true (by omega)
        have hps : ps ≤ nA := by have := hst.hp.1; rw [HA.out] at this; exact this
        have hpt : pt ≤ nB := by have := hst.hp.2.1; rw [HB.out] at this; exact this
        have hsA := hst.sc
        have hsB := hst.mem.2.2.2.1
        rw [HA.out] at hsA
        rw [HB.out] at hsB
        have hDA := fun w' (hc : Ch [] wr w') => scanDone bs 1000 nA ps w' (Blk.keep hsA hc (by simp)) (by omega) (by omega) (by omega)
        have hDB := fun w' (hc : Ch [] wr w') => scanDone bt 5000 nB pt w' (Blk.keep hsB hc (by simp)) (by omega) (by omega) (by omega)
        have HDA := Lib.hid hDA
        have HDB := Lib.hid hDB
        have hrA : remS nA ps ≤ 7 := by unfold remS; omega
        have hrB : remS nB pt ≤ 7 := by unfold remS; omega
        clear hDA hDB hsA hsB
        by_cases hdA : ps = nA
        · have eA : ((nA : Int) - (ps : Int) == 0) = true := by rw [beq_iff_eq]; omega
          rw [eA] at HDA
          by_cases hdB : pt = nB
          · have eB : ((nB : Int) - (pt : Int) == 0) = true := by rw [beq_iff_eq]; omega
            rw [eB] at HDB
            subst hdA
            subst hdB
            have hnA : nz (fun j => gI A j) ps = nzL A := by unfold nzL; rw [HA.out]
            have hnB : nz (fun j => gI B j) pt = nzL B := by unfold nzL; rw [HB.out]
            have hlA : (nzL A).length ≤ 100 := by rw [← hnA]; have := nz_le (fun j => gI A j) ps; omega
            have hlB : (nzL B).length ≤ 100 := by rw [← hnB]; have := nz_le (fun j => gI B j) pt; omega
            have hox := hst.ox
            have hoy := hst.oy
            rw [hnA] at hox
            rw [hnB] at hoy
            obtain ⟨ax, cx, rfl, _, _, rdx⟩ := hox.form
            obtain ⟨ay, cy, rfl, _, _, rdy⟩ := hoy.form
            obtain ⟨zA, hzA⟩ : ∃ z, (nzL A).length = z := ⟨_, rfl⟩
            obtain ⟨zB, hzB⟩ : ∃ z, (nzL B).length = z := ⟨_, rfl⟩
            rw [hzA] at hlA ⊢
            rw [hzB] at hlB ⊢
            have HZA := Lib.hid hzA
            have HZB := Lib.hid hzB
            clear hnA hnB hox hoy hzA hzB
            go_wp2_with fail
            refine (HDA.out _ (Ch.refl _ _)).mono ?_; rintro e w2 ⟨rfl, n2, hw2⟩
            have cc2 : Ch [] wr w2 := by rw [hw2]; exact (Ch.refl [] wr).drewN n2
            clear hw2
            go_wp2_with fail
            refine (HDB.out _ cc2).mono ?_; rintro e w3 ⟨rfl, n3, hw3⟩
            have cc3 : Ch [] wr w3 := by rw [hw3]; exact cc2.drewN n3
            clear hw3 cc2
            go_wp2_with fail
            refine (told20 _).mono ?_; rintro e w4 ⟨rfl, c4⟩
            have cc4 := cc3.trans c4
            have hst4 := hst.still cc4
            have q1 := hst4.mem.2.2.1.cell 0
            have q2 := hst4.mem.2.1.cell 0
            rw [HB.out] at q2
            have hAB := apAll b0 B cb w4 (rB.keep hst4.ch (by simp)) (by have := HB.out; omega)
            rw [HB.out] at hAB
            go_wp2_with fail
            refine hAB.mono ?_; rintro e w5 ⟨v5, rfl, o5, c5⟩
            have cc5 := cc4.trans c5
            obtain ⟨a5, d5, ev5, _, _, rd5⟩ := o5.form
            rw [HZB.out] at ev5
            subst ev5
            have hI := ints_same ay a5 (nzL B) cy d5 w5 (rdy.keep cc5 (by simp)) rd5 (by rw [HZB.out]; unfold maxLen; omega)
            rw [HZB.out] at hI
            clear hAB q1 q2
            go_wp2_with fail
            refine hI.mono ?_; rintro e w6 ⟨rfl, n6, hw6⟩
            have cc6 : Ch [] wr w6 := by rw [hw6]; exact cc5.drewN n6
            clear hI hw6
            have hst6 := hst.still cc6
            have q3 := hst6.mem.1.cell 0
            rw [HA.out] at q3
            have hAA := apAll a0 A ca w6 (rA.keep hst6.ch (by simp)) (by have := HA.out; omega)
            rw [HA.out] at hAA
            go_wp2_with fail
            refine hAA.mono ?_; rintro e w7 ⟨v7, rfl, o7, c7⟩
            have cc7 := cc6.trans c7
            obtain ⟨a7, d7, ev7, _, _, rd7⟩ := o7.form
            rw [HZA.out] at ev7
            subst ev7
            have hI := ints_same ax a7 (nzL A) cx d7 w7 (rdx.keep cc7 (by simp)) rd7 (by rw [HZA.out]; unfold maxLen; omega)
            rw [HZA.out] at hI
            clear hAA q3
            go_wp2_with fail
            refine hI.mono ?_; rintro e w8 ⟨rfl, n8, hw8⟩
            have cc8 : Ch [] wr w8 := by rw [hw8]; exact cc7.drewN n8
            clear hI hw8
            go_wp2_with fail
            refine (HDA.out _ cc8).mono ?_; rintro e w9 ⟨rfl, n9, hw9⟩
            have cc9 : Ch [] wr w9 := by rw [hw9]; exact cc8.drewN n9
            clear hw9
            go_wp2_with fail
            refine (HDB.out _ cc9).mono ?_; rintro e w10 ⟨rfl, n10, hw10⟩
            have cc10 : Ch [] wr w10 := by rw [hw10]; exact cc9.drewN n10
            clear hw10
            go_wp2_with fail
            go_ret
            exact ⟨rfl, (hst.ch.trans cc10).below (Nat.le_refl _) (by simp)⟩
          · have eB : ((nB : Int) - (pt : Int) == 0) = false := by rw [beq_eq_false_iff_ne]; omega
            rw [eB] at HDB
            have hcm : chunkEnd A.length ps = ps := by rw [HA.out, hdA]; exact remS_same nA
            have hrem := remS_step nB pt (by omega)
            have hrem0 : remS nA ps = 0 := by rw [hdA]; unfold remS; omega
            clear hdA hdB
            go_wp2_with fail
            refine (HDA.out _ (Ch.refl _ _)).mono ?_; rintro e w2 ⟨rfl, n2, hw2⟩
            have cc2 : Ch [] wr w2 := by rw [hw2]; exact (Ch.refl [] wr).drewN n2
            clear hw2
            go_wp2_with fail
            refine (HDB.out _ cc2).mono ?_; rintro e w3 ⟨rfl, n3, hw3⟩
            have cc3 : Ch [] wr w3 := by rw [hw3]; exact cc2.drewN n3
            clear hw3 cc2
            by_cases hl2 : i < len2
            · have i1 : decide ((i : Int) < len2) = true := decide_eq_true (by omega)
              by_cases hl3 : i < 100
              · have i2 : decide ((i : Int) < 100) = true := decide_eq_true (by omega)
                obtain ⟨f, hf⟩ := t2 i hl2
                obtain ⟨bf, of, rfl, hcf⟩ := (r2.keep (by decide) (hst.ch.trans cc3) (by simp)).at hl2
                have df := hcf i hl2 0 (by decide)
                rw [hf, Nat.mul_one, Nat.add_zero] at df
                clear hcf hf
                cases f
                · go_wp2_with fail
                  refine (HDA.out _ cc3).mono ?_; rintro e w4 ⟨rfl, n4, hw4⟩
                  have cc4 : Ch [] wr w4 := by rw [hw4]; exact (cc3).drewN n4
                  clear hw4
                  have hstk := hst.still cc4
                  go_wp2_with fail
                  refine (apStepT hstk rB).mono ?_; rintro e w5 ⟨v5, L, rfl, o5, hnz, s5, m5, c5, l5⟩
                  have oy5 := hstk.oy.keepLt c5 (by intro z hz; simp at hz; subst hz; exact hstk.lt.2.2.2.2.1)
                  have hs5 := c5.size
                  have hT5 : T ≤ w5.heap.size := Nat.le_trans hstk.lt.2.2.2.2.2 hs5
                  have hsrc := o5.src (P := Try.prog) Try.underlying22 (by intro u hu; obtain ⟨z, _, rfl⟩ := List.mem_map.1 hu; rfl)
                  have hzl := nz_le (fun j => gI B j) pt
                  obtain ⟨Z, hZ⟩ : ∃ Z, nz (fun j => gI B j) pt = Z := ⟨_, rfl⟩
                  rw [hZ] at oy5 hnz hzl
                  have HNZ := Lib.hid hnz
                  clear hnz hZ
                  go_wp2_with (at_builtin; refine wpList_app rfl (.tmp 69) (.tmp 72) rfl T u12 Z rfl oy5 hT5 v5 L rfl hsrc (by omega) ?_)
                  intro v6 w6 o6 c6 n6
                  have hst6 := hstk.putY s5 m5 c5 (by rw [← HNZ.out]; exact o6) c6 n6
                  rw [HB.out] at hst6
                  go_wp2
                  go_roundw
                  case rel => exact ⟨i + 1, ps, chunkEnd nB pt, by go_num, by omega, (.inl (by omega)), hst6⟩
                  case measure => simp [intOf]; omega
                · have hstk := hst.still cc3
                  go_wp2_with fail
                  refine (apStepT hstk rB).mono ?_; rintro e w5 ⟨v5, L, rfl, o5, hnz, s5, m5, c5, l5⟩
                  have oy5 := hstk.oy.keepLt c5 (by intro z hz; simp at hz; subst hz; exact hstk.lt.2.2.2.2.1)
                  have hs5 := c5.size
                  have hT5 : T ≤ w5.heap.size := Nat.le_trans hstk.lt.2.2.2.2.2 hs5
                  have hsrc := o5.src (P := Try.prog) Try.underlying22 (by intro u hu; obtain ⟨z, _, rfl⟩ := List.mem_map.1 hu; rfl)
                  have hzl := nz_le (fun j => gI B j) pt
                  obtain ⟨Z, hZ⟩ : ∃ Z, nz (fun j => gI B j) pt = Z := ⟨_, rfl⟩
                  rw [hZ] at oy5 hnz hzl
                  have HNZ := Lib.hid hnz
                  clear hnz hZ
                  go_wp2_with (at_builtin; refine wpList_app rfl (.tmp 69) (.tmp 72) rfl T u12 Z rfl oy5 hT5 v5 L rfl hsrc (by omega) ?_)
                  intro v6 w6 o6 c6 n6
                  have hst6 := hstk.putY s5 m5 c5 (by rw [← HNZ.out]; exact o6) c6 n6
                  rw [HB.out] at hst6
                  go_wp2
                  go_roundw
                  case rel => exact ⟨i + 1, ps, chunkEnd nB pt, by go_num, by omega, (.inl (by omega)), hst6⟩
                  case measure => simp [intOf]; omega
              · have i2 : decide ((i : Int) < 100) = false := decide_eq_false (by omega)
                go_wp2_with fail
                refine (HDA.out _ cc3).mono ?_; rintro e w4 ⟨rfl, n4, hw4⟩
                have cc4 : Ch [] wr w4 := by rw [hw4]; exact (cc3).drewN n4
                clear hw4
                have hstk := hst.still cc4
                go_wp2_with fail
                refine (apStepT hstk rB).mono ?_; rintro e w5 ⟨v5, L, rfl, o5, hnz, s5, m5, c5, l5⟩
                have oy5 := hstk.oy.keepLt c5 (by intro z hz; simp at hz; subst hz; exact hstk.lt.2.2.2.2.1)
                have hs5 := c5.size
                have hT5 : T ≤ w5.heap.size := Nat.le_trans hstk.lt.2.2.2.2.2 hs5
                have hsrc := o5.src (P := Try.prog) Try.underlying22 (by intro u hu; obtain ⟨z, _, rfl⟩ := List.mem_map.1 hu; rfl)
                have hzl := nz_le (fun j => gI B j) pt
                obtain ⟨Z, hZ⟩ : ∃ Z, nz (fun j => gI B j) pt = Z := ⟨_, rfl⟩
                rw [hZ] at oy5 hnz hzl
                have HNZ := Lib.hid hnz
                clear hnz hZ
                go_wp2_with (at_builtin; refine wpList_app rfl (.tmp 69) (.tmp 72) rfl T u12 Z rfl oy5 hT5 v5 L rfl hsrc (by omega) ?_)
                intro v6 w6 o6 c6 n6
                have hst6 := hstk.putY s5 m5 c5 (by rw [← HNZ.out]; exact o6) c6 n6
                rw [HB.out] at hst6
                go_wp2
                go_roundw
                case rel => exact ⟨i + 1, ps, chunkEnd nB pt, by go_num, by omega, (by omega), hst6⟩
                case measure => simp [intOf]; omega
            · have i1 : decide ((i : Int) < len2) = false := decide_eq_false (by omega)
              go_wp2_with fail
              refine (HDA.out _ cc3).mono ?_; rintro e w4 ⟨rfl, n4, hw4⟩
              have cc4 : Ch [] wr w4 := by rw [hw4]; exact (cc3).drewN n4
              clear hw4
              have hstk := hst.still cc4
              go_wp2_with fail
              refine (apStepT hstk rB).mono ?_; rintro e w5 ⟨v5, L, rfl, o5, hnz, s5, m5, c5, l5⟩
              have oy5 := hstk.oy.keepLt c5 (by intro z hz; simp at hz; subst hz; exact hstk.lt.2.2.2.2.1)
              have hs5 := c5.size
              have hT5 : T ≤ w5.heap.size := Nat.le_trans hstk.lt.2.2.2.2.2 hs5
              have hsrc := o5.src (P := Try.prog) Try.underlying22 (by intro u hu; obtain ⟨z, _, rfl⟩ := List.mem_map.1 hu; rfl)
              have hzl := nz_le (fun j => gI B j) pt
              obtain ⟨Z, hZ⟩ : ∃ Z, nz (fun j => gI B j) pt = Z := ⟨_, rfl⟩
              rw [hZ] at oy5 hnz hzl
              have HNZ := Lib.hid hnz
              clear hnz hZ
              go_wp2_with (at_builtin; refine wpList_app rfl (.tmp 69) (.tmp 72) rfl T u12 Z rfl oy5 hT5 v5 L rfl hsrc (by omega) ?_)
              intro v6 w6 o6 c6 n6
              have hst6 := hstk.putY s5 m5 c5 (by rw [← HNZ.out]; exact o6) c6 n6
              rw [HB.out] at hst6
              go_wp2
              go_roundw
              case rel => exact ⟨i + 1, ps, chunkEnd nB pt, by go_num, by omega, (by omega), hst6⟩
              case measure => simp [intOf]; omega
        · have eA : ((nA : Int) - (ps : Int) == 0) = false := by rw [beq_eq_false_iff_ne]; omega
          rw [eA] at HDA
          have hrem := remS_step nA ps (by omega)
          have hremB := remS_le nB pt hpt
          go_wp2_with fail
          refine (HDA.out _ (Ch.refl _ _)).mono ?_; rintro e w3 ⟨rfl, n3, hw3⟩
          have cc3 : Ch [] wr w3 := by rw [hw3]; exact (Ch.refl [] wr).drewN n3
          clear hw3
          by_cases hl2 : i < len2
          · have i1 : decide ((i : Int) < len2) = true := decide_eq_true (by omega)
            by_cases hl3 : i < 100
            · have i2 : decide ((i : Int) < 100) = true := decide_eq_true (by omega)
              obtain ⟨f, hf⟩ := t2 i hl2
              obtain ⟨bf, of, rfl, hcf⟩ := (r2.keep (by decide) (hst.ch.trans cc3) (by simp)).at hl2
              have df := hcf i hl2 0 (by decide)
              rw [hf, Nat.mul_one, Nat.add_zero] at df
              clear hcf hf
              cases f
              · go_wp2_with fail
                refine (HDA.out _ cc3).mono ?_; rintro e w4 ⟨rfl, n4, hw4⟩
                have cc4 : Ch [] wr w4 := by rw [hw4]; exact (cc3).drewN n4
                clear hw4
                have hstk := hst.still cc4
                go_wp2_with fail
                refine (apStepS hstk rA).mono ?_; rintro e w5 ⟨v5, L, rfl, o5, hnz, s5, m5, c5, l5⟩
                have oy5 := hstk.ox.keepLt c5 (by intro z hz; simp at hz; subst hz; exact hstk.lt.2.2.2.1)
                have hs5 := c5.size
                have hT5 : T ≤ w5.heap.size := Nat.le_trans hstk.lt.2.2.2.2.2 hs5
                have hsrc := o5.src (P := Try.prog) Try.underlying22 (by intro u hu; obtain ⟨z, _, rfl⟩ := List.mem_map.1 hu; rfl)
                have hzl := nz_le (fun j => gI A j) ps
                obtain ⟨Z, hZ⟩ : ∃ Z, nz (fun j => gI A j) ps = Z := ⟨_, rfl⟩
                rw [hZ] at oy5 hnz hzl
                have HNZ := Lib.hid hnz
                clear hnz hZ
                go_wp2_with (at_builtin; refine wpList_app rfl (.tmp 74) (.tmp 77) rfl T u11 Z rfl oy5 hT5 v5 L rfl hsrc (by omega) ?_)
                intro v6 w6 o6 c6 n6
                have hst6 := hstk.putX s5 m5 c5 (by rw [← HNZ.out]; exact o6) c6 n6
                rw [HA.out] at hst6
                go_wp2
                go_roundw
                case rel => exact ⟨i + 1, chunkEnd nA ps, pt, by go_num, by omega, (.inl (by omega)), hst6⟩
                case measure => simp [intOf]; omega
              · have hstk := hst.still cc3
                go_wp2_with fail
                refine (apStepT hstk rB).mono ?_; rintro e w5 ⟨v5, L, rfl, o5, hnz, s5, m5, c5, l5⟩
                have oy5 := hstk.oy.keepLt c5 (by intro z hz; simp at hz; subst hz; exact hstk.lt.2.2.2.2.1)
                have hs5 := c5.size
                have hT5 : T ≤ w5.heap.size := Nat.le_trans hstk.lt.2.2.2.2.2 hs5
                have hsrc := o5.src (P := Try.prog) Try.underlying22 (by intro u hu; obtain ⟨z, _, rfl⟩ := List.mem_map.1 hu; rfl)
                have hzl := nz_le (fun j => gI B j) pt
                obtain ⟨Z, hZ⟩ : ∃ Z, nz (fun j => gI B j) pt = Z := ⟨_, rfl⟩
                rw [hZ] at oy5 hnz hzl
                have HNZ := Lib.hid hnz
                clear hnz hZ
                go_wp2_with (at_builtin; refine wpList_app rfl (.tmp 69) (.tmp 72) rfl T u12 Z rfl oy5 hT5 v5 L rfl hsrc (by omega) ?_)
                intro v6 w6 o6 c6 n6
                have hst6 := hstk.putY s5 m5 c5 (by rw [← HNZ.out]; exact o6) c6 n6
                rw [HB.out] at hst6
                go_wp2
                go_roundw
                case rel => exact ⟨i + 1, ps, chunkEnd nB pt, by go_num, by omega, (.inl (by omega)), hst6⟩
                case measure => simp [intOf]; omega
            · have i2 : decide ((i : Int) < 100) = false := decide_eq_false (by omega)
              go_wp2_with fail
              refine (HDA.out _ cc3).mono ?_; rintro e w4 ⟨rfl, n4, hw4⟩
              have cc4 : Ch [] wr w4 := by rw [hw4]; exact (cc3).drewN n4
              clear hw4
              have hstk := hst.still cc4
              go_wp2_with fail
              refine (apStepS hstk rA).mono ?_; rintro e w5 ⟨v5, L, rfl, o5, hnz, s5, m5, c5, l5⟩
              have oy5 := hstk.ox.keepLt c5 (by intro z hz; simp at hz; subst hz; exact hstk.lt.2.2.2.1)
              have hs5 := c5.size
              have hT5 : T ≤ w5.heap.size := Nat.le_trans hstk.lt.2.2.2.2.2 hs5
              have hsrc := o5.src (P := Try.prog) Try.underlying22 (by intro u hu; obtain ⟨z, _, rfl⟩ := List.mem_map.1 hu; rfl)
              have hzl := nz_le (fun j => gI A j) ps
              obtain ⟨Z, hZ⟩ : ∃ Z, nz (fun j => gI A j) ps = Z := ⟨_, rfl⟩
              rw [hZ] at oy5 hnz hzl
              have HNZ := Lib.hid hnz
              clear hnz hZ
              go_wp2_with (at_builtin; refine wpList_app rfl (.tmp 74) (.tmp 77) rfl T u11 Z rfl oy5 hT5 v5 L rfl hsrc (by omega) ?_)
              intro v6 w6 o6 c6 n6
              have hst6 := hstk.putX s5 m5 c5 (by rw [← HNZ.out]; exact o6) c6 n6
              rw [HA.out] at hst6
              go_wp2
              go_roundw
              case rel => exact ⟨i + 1, chunkEnd nA ps, pt, by go_num, by omega, (by omega), hst6⟩
              case measure => simp [intOf]; omega
          · have i1 : decide ((i : Int) < len2) = false := decide_eq_false (by omega)
            go_wp2_with fail
            refine (HDA.out _ cc3).mono ?_; rintro e w4 ⟨rfl, n4, hw4⟩
            have cc4 : Ch [] wr w4 := by rw [hw4]; exact (cc3).drewN n4
            clear hw4
            have hstk := hst.still cc4
            go_wp2_with fail
            refine (apStepS hstk rA).mono ?_; rintro e w5 ⟨v5, L, rfl, o5, hnz, s5, m5, c5, l5⟩
            have oy5 := hstk.ox.keepLt c5 (by intro z hz; simp at hz; subst hz; exact hstk.lt.2.2.2.1)
            have hs5 := c5.size
            have hT5 : T ≤ w5.heap.size := Nat.le_trans hstk.lt.2.2.2.2.2 hs5
            have hsrc := o5.src (P := Try.prog) Try.underlying22 (by intro u hu; obtain ⟨z, _, rfl⟩ := List.mem_map.1 hu; rfl)
            have hzl := nz_le (fun j => gI A j) ps
            obtain ⟨Z, hZ⟩ : ∃ Z, nz (fun j => gI A j) ps = Z := ⟨_, rfl⟩
            rw [hZ] at oy5 hnz hzl
            have HNZ := Lib.hid hnz
            clear hnz hZ
            go_wp2_with (at_builtin; refine wpList_app rfl (.tmp 74) (.tmp 77) rfl T u11 Z rfl oy5 hT5 v5 L rfl hsrc (by omega) ?_)
            intro v6 w6 o6 c6 n6
            have hst6 := hstk.putX s5 m5 c5 (by rw [← HNZ.out]; exact o6) c6 n6
            rw [HA.out] at hst6
            go_wp2
            go_roundw
            case rel => exact ⟨i + 1, chunkEnd nA ps, pt, by go_num, by omega, (by omega), hst6⟩
            case measure => simp [intOf]; omega
end Go.Proofs.Ytebibdoekcophaa
