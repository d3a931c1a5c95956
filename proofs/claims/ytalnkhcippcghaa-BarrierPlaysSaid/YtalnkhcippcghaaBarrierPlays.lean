/-
  The walk of the statement BarrierPlays: the law returns true at every input. Conditions: none beyond how the arguments are read.
-/
import Derived.Test.YtalnkhcippcghaaBarrierTold
import Derived.Test.YtalnkhcippcghaaRefBar
import Derived.Test.YtalnkhcippcghaaArgs
import Derived.Deep.LoopGhost
namespace Go.Proofs.Ytalnkhcippcghaa
open Go.RowKit
def noteB (n : Nat) : Bool := decide (n < 16)
def noteN (n : Nat) (u v : Int) : Nat := if n < 16 ∧ ¬ (u = 0 ∧ v = 0) then n + 1 else n
def noteX (n : Nat) (X : List Int) (u v : Int) : List Int := if n < 16 ∧ ¬ (u = 0 ∧ v = 0) then X ++ [u, v] else X
theorem BarAt.le {w : World} {b n : Nat} {xs : List Int} (h : BarAt w b n xs) : n ≤ 16 := h.choose_spec.2.1
theorem barPutAny (b n : Nat) (X : List Int) (u v : Int) (w : World) (h : BarAt w b n X) : Calls Try.prog 24 #[.pointer (some ⟨b, 0, none⟩), .int .i64 u, .int .i64 v] w fun e w' =>
    e = .returned (.bool (noteB n)) ∧ BarAt w' b (noteN n u v) (noteX n X u v) ∧ Ch [b] w w' := by
  unfold noteB noteN noteX
  by_cases hn : n < 16
  · rw [decide_eq_true hn]
    by_cases hu : u = 0
    · by_cases hv : v = 0
      · subst hu
        subst hv
        rw [if_neg (by simp), if_neg (by simp)]
        refine (barPutZero b n X w h hn).mono ?_
        rintro e w' ⟨rfl, hc⟩
        exact ⟨rfl, h.keep hc (by simp), hc.mono (by simp)⟩
      · subst hu
        rw [if_pos ⟨hn, by simp [hv]⟩, if_pos ⟨hn, by simp [hv]⟩]
        exact barPut0 b n X v w h hn hv
    · rw [if_pos ⟨hn, by simp [hu]⟩, if_pos ⟨hn, by simp [hu]⟩]
      exact barPut b n X u v w h hn hu
  · rw [decide_eq_false hn, if_neg (by simp [hn]), if_neg (by simp [hn])]
    have : n = 16 := by have := h.le; omega
    subst this
    refine (barPutFull b X u v w h).mono ?_
    rintro e w' ⟨rfl, rfl⟩
    exact ⟨rfl, h, Ch.refl _ _⟩
theorem refBarPutAny (r n : Nat) (X : List Int) (u v : Int) (S : List Nat) (w : World) (h : RefP w r n X S) (hS : ∀ k ∈ S, k < w.heap.size) : Calls Try.prog 25 #[.pointer (some ⟨r, 0, none⟩), .int .i64 u, .int .i64 v] w fun e w' =>
    e = .returned (.bool (noteB n)) ∧ RefP w' r (noteN n u v) (noteX n X u v) S ∧ Ch [r] w w' := by
  unfold noteB noteN noteX
  by_cases hn : n < 16
  · rw [decide_eq_true hn]
    by_cases hu : u = 0
    · by_cases hv : v = 0
      · subst hu
        subst hv
        rw [if_neg (by simp), if_neg (by simp)]
        refine (refBarZero r n X S w h hn).mono ?_
        rintro e w' ⟨rfl, rfl⟩
        exact ⟨rfl, h, Ch.refl _ _⟩
      · subst hu
        rw [if_pos ⟨hn, by simp [hv]⟩, if_pos ⟨hn, by simp [hv]⟩]
        exact refBarPut0 r n X v S w h hS hn hv
    · rw [if_pos ⟨hn, by simp [hu]⟩, if_pos ⟨hn, by simp [hu]⟩]
      exact refBarPut r n X u v S w h hS hn hu
  · rw [decide_eq_false hn, if_neg (by simp [hn]), if_neg (by simp [hn])]
    refine (refBarFull r n X u v S w h (by omega)).mono ?_
    rintro e w' ⟨rfl, rfl⟩
    exact ⟨rfl, h, Ch.refl _ _⟩
/-- The barrier b beside the document's r: n pairs, their numbers X; nothing of w has turned. -/
structure BarSt (w wr : World) (b r n : Nat) (X : List Int) : Prop where
  pb : BarAt wr b n X
  rr : RefP wr r n X [b, r]
  ch : Ch [] w wr
  ne : b ≠ r
  lb : w.heap.size ≤ b
  lr : w.heap.size ≤ r
theorem BarSt.keep {w wr w' : World} {b r n : Nat} {X : List Int} (h : BarSt w wr b r n X) (hc : Ch [] wr w') : BarSt w w' b r n X :=
  ⟨h.pb.keep hc (by simp), h.rr.keep hc (by simp) (by simp), h.ch.trans hc, h.ne, h.lb, h.lr⟩
theorem BarSt.hi {w wr : World} {b r n : Nat} {X : List Int} (h : BarSt w wr b r n X) : ∀ k ∈ [b, r], k < wr.heap.size := by
  intro k hk
  simp at hk
  rcases hk with rfl | rfl
  · exact h.pb.lt
  · exact h.rr.lt
set_option maxRecDepth 100000 in
set_option maxHeartbeats 8000000 in
theorem plays19_walk (a0 : Option Addr) (len0 cap0 : Nat) (F0 : Nat → Nat → Value) (a1 : Option Addr) (len1 cap1 : Nat) (F1 : Nat → Nat → Value) (w : World) (hrF0 : RdS w a0 len0 2 F0) (ht0 : ∀ i, i < len0 → (∃ x, F0 i 0 = .int .i64 x) ∧ (∃ x, F0 i 1 = .int .i64 x)) (hm0 : len0 ≤ maxLen)
    (hrF1 : RdS w a1 len1 1 F1) (ht1 : ∀ i, i < len1 → (∃ x, F1 i 0 = .bool x)) (hm1 : len1 ≤ maxLen) :
    Calls Try.prog 6 #[.slice a0 len0 cap0, .slice a1 len1 cap1] w fun e w' => e = .returned (.bool true) ∧ Below w.heap.size w w' := by
  unfold maxLen at hm0 hm1
  go_enter Try.func6, Try.ntmps6
  go_wp2_with fail
  refine (barNew _).mono ?_; rintro e w1 ⟨rfl, h1, c1⟩
  obtain ⟨b, hb⟩ : ∃ b, w.heap.size = b := ⟨_, rfl⟩
  rw [hb] at h1 ⊢
  have HB := Lib.hid (show w.heap.size ≤ b by omega)
  clear hb
  go_upto_region 5 with fail
  obtain ⟨W, hW⟩ : ∃ W, w1.alloc (.cells #[.slice none 0 0] 49) = W := ⟨_, rfl⟩
  obtain ⟨r, hrr⟩ : ∃ r, w1.heap.size = r := ⟨_, rfl⟩
  have hbr : b < r := by rw [← hrr]; exact h1.lt
  have cW : Ch [] w1 W := by rw [← hW]; exact (Ch.refl [] w1).alloc _
  have hst : BarSt w W b r 0 [] := ⟨h1.keep cW (by simp), ⟨none, 0, by rw [← hW, ← hrr]; exact Blk.new _ _ _, rfl, .inl rfl, Nat.le_refl _, Nat.zero_le _, fun x hx => by cases hx⟩, c1.trans cW, by omega, HB.out, by have := HB.out; omega⟩
  rw [hrr, hW]
  clear hW hrr hbr cW c1 h1 HB
  go_wp2_with fail
  go_loopw [7] (fun s7 wr => ∃ (i n : Nat) (X : List Int), s7 = .int .i64 i ∧ i ≤ len0 ∧ i ≤ 60 ∧ BarSt w wr b r n X) (fun s7 _ => 60 - (intOf s7).toNat)
  case atStart => exact ⟨0, 0, [], rfl, by omega, by omega, hst⟩
  case round =>
    clear hst
    obtain ⟨i, n, X, rfl, hil, hi60, hst⟩ := hrel
    by_cases hlt : i < len0
    · by_cases h60 : i < 60
      · have t1 : decide ((i : Int) < len0) = true := decide_eq_true (by omega)
        have t2 : decide ((i : Int) < 60) = true := decide_eq_true (by omega)
        obtain ⟨⟨u, hu⟩, ⟨v, hv⟩⟩ := ht0 i hlt
        have hcell0 := fun w' (hc : Ch [] w w') => (hrF0.keep (by decide) hc (by simp))
        obtain ⟨ba, oa, rfl, hcell⟩ := hrF0.at hlt
        have hdd : ∀ w', Ch [] w w' → w'.cell? ⟨ba, oa + i * 2, none⟩ = some (.int .i64 u) ∧ w'.cell? ⟨ba, oa + i * 2 + 1, none⟩ = some (.int .i64 v) := by
          intro w' hc
          obtain ⟨b', o', he, hcc⟩ := (hcell0 w' hc).at hlt
          cases he
          exact ⟨by rw [← hu]; exact hcc i hlt 0 (by decide), by rw [← hv]; exact hcc i hlt 1 (by decide)⟩
        have b0 : (0 : Int) ≤ i := by omega
        have b1 : (i : Int) < len0 := by omega
        clear hcell hcell0 hu hv
        have HDD := Lib.hid hdd
        obtain ⟨P, hP⟩ : ∃ P, noteB n = P := ⟨_, rfl⟩
        have pp : (P != P) = false := by simp
        go_upto_region 8 with fail
        obtain ⟨L, hL⟩ : ∃ L : World → Prop, ∀ w', L w' ↔ (w'.cell? ⟨ba, oa + i * 2, none⟩ = some (.int .i64 u) ∧ w'.cell? ⟨ba, oa + i * 2 + 1, none⟩ = some (.int .i64 v)) := ⟨_, fun _ => Iff.rfl⟩
        have hS1 : ∀ x : { w' : World // L w' }, x.1.cell? ⟨ba, oa + i * 2, none⟩ = some (.int .i64 u) := fun x => ((hL _).1 x.2).1
        have hS2 : ∀ x : { w' : World // L w' }, x.1.cell? ⟨ba, oa + i * 2 + 1, none⟩ = some (.int .i64 v) := fun x => ((hL _).1 x.2).2
        have hLk : ∀ w', Ch [] w w' → L w' := fun w' hc => (hL _).2 (HDD.out w' hc)
        have hS0 := hLk _ (hst.ch.drewN 1)
        have hSA : Nonempty { w' : World // L w' } := ⟨⟨_, hS0⟩⟩
        have HLk := Lib.hid hLk
        clear hL hLk hdd
        refine wp_region_plan (Cls L) (List.range 25) (.reads [0, 1, 2, 3, 4, 5, 6, 7, 8, 9, 10, 12, 13, 14, 15, 16, 17, 18, 19, 20, 21, 22] (.only 11 (.only 23 (.reads [24] .done)))) (by kernel_rfl) (by kernel_rfl) (fun _ _ _ _ _ h => h) ?_
        simp only [Plan.reads, Plan.only, List.foldr_cons, List.foldr_nil]
        iterate 22 (refine wpPlan_readS hS0 (fun K hK => ?_); simp only [List.getD_cons_zero, List.getD_cons_succ]; go_simp; refine hK _ ?_; clear hK K)
        refine wpPlan_only (fun K hK => ?_)
        simp only [List.getD_cons_zero, List.getD_cons_succ]
        go_simp
        have hst1 := hst.keep ((Ch.refl [] wr).drewN 1)
        refine (barPutAny b n X u v _ hst1.pb).mono ?_; rintro e w2 ⟨rfl, hb2, c2⟩
        rw [hP]
        have cc2 : Ch [] w w2 := hst1.ch.transT c2 (by intro k hk; simp at hk; subst hk; exact .inr hst.lb)
        have hl2 := HLk.out _ cc2
        refine hK _ _ (fun _ => Cls.mk hl2) ?_
        clear hK K
        refine wpPlan_only (fun K hK => ?_)
        simp only [List.getD_cons_zero, List.getD_cons_succ]
        go_simp
        refine (refBarPutAny r n X u v [b, r] w2 (hst1.rr.keep c2 (by simp; exact hst.ne.symm) (by simp)) (fun k hk => Nat.lt_of_lt_of_le (hst1.hi k hk) c2.size)).mono ?_; rintro e w3 ⟨rfl, hr3, c3⟩
        rw [hP]
        have cc3 : Ch [] w w3 := cc2.transT c3 (by intro k hk; simp at hk; subst hk; exact .inr hst.lr)
        have hl3 := HLk.out _ cc3
        refine hK _ _ (fun _ => Cls.mk hl3) ?_
        clear hK K
        refine wpPlan_readS hl3 (fun K hK => ?_); simp only [List.getD_cons_zero, List.getD_cons_succ]; go_simp; refine hK _ ?_; clear hK K
        refine wpPlan_done ?_
        have hst3 : BarSt w w3 b r (noteN n u v) (noteX n X u v) := ⟨hb2.keep c3 (by simp; exact hst.ne), hr3, cc3, hst.ne, hst.lb, hst.lr⟩
        clear hS0 hS1 hS2 hSA hl2 hl3 hst hst1 hb2 hr3 c2 c3 cc2 cc3 hP
        generalize noteN n u v = n3 at hst3
        generalize noteX n X u v = X3 at hst3
        clear pp HDD HLk
        go_wp2_with fail
        refine (barAll b n3 X3 w3 hst3.pb).mono ?_; rintro e w4 ⟨v4, rfl, o4, f4, c4⟩
        have hst4 := hst3.keep c4
        have hn16 := hst4.pb.le
        obtain ⟨am, cm, em, xm1, xm2, rdm, xm3⟩ := ownPair_rd o4
        subst em
        clear hst3 o4
        obtain ⟨ar, cr, xr1, xr2, xr3, xr4, xr5, xr6⟩ := hst4.rr
        have nn : ((n3 : Int) != (n3 : Int)) = false := by simp
        have cr0 := xr1.cell 0
        go_upto_region 11 with fail
        obtain ⟨L, hL⟩ : ∃ L : World → Prop, ∀ w', L w' ↔ (w'.cell? ⟨r, 0, none⟩ = some (.slice ar n3 cr)) := ⟨_, fun _ => Iff.rfl⟩
        have hS1 : ∀ x : { w' : World // L w' }, x.1.cell? ⟨r, 0, none⟩ = some (.slice ar n3 cr) := fun x => ((hL _).1 x.2)
        have hS0 : L (w4.drewN 1) := (hL _).2 cr0
        have hSA : Nonempty { w' : World // L w' } := ⟨⟨_, hS0⟩⟩
        have hlen := barLen b n3 X3 (w4.drewN 1) (hst4.keep ((Ch.refl [] w4).drewN 1)).pb
        clear hL
        refine wp_region_plan (Cls L) (List.range 18) (.reads [0, 2, 3, 4, 5, 6] (.only 1 (.reads [7, 8, 9, 10, 11, 12, 13, 14, 15, 16, 17] .done))) (by kernel_rfl) (by kernel_rfl) (fun _ _ _ _ _ h => h) ?_
        simp only [Plan.reads, Plan.only, List.foldr_cons, List.foldr_nil]
        iterate 6 (refine wpPlan_readS hS0 (fun K hK => ?_); simp only [List.getD_cons_zero, List.getD_cons_succ]; go_simp; refine hK _ ?_; clear hK K)
        refine wpPlan_only (fun K hK => ?_)
        simp only [List.getD_cons_zero, List.getD_cons_succ]
        go_simp
        refine hlen.mono ?_; rintro e w5 ⟨rfl, hw5⟩
        have hl5 : L w5 := by rw [hw5]; exact hS0
        refine hK _ _ (fun _ => Cls.mk hl5) ?_
        clear hK K hlen
        iterate 11 (refine wpPlan_readS hl5 (fun K hK => ?_); simp only [List.getD_cons_zero, List.getD_cons_succ]; go_simp; refine hK _ ?_; clear hK K)
        refine wpPlan_done ?_
        have hst5 : BarSt w w5 b r n3 X3 := by rw [hw5]; exact hst4.keep ((Ch.refl [] w4).drewN 1)
        have rdm5 : Rd w5 am X3 := by rw [hw5]; exact rdm
        have rdr5 : Rd w5 ar X3 := by rw [hw5]; exact xr3
        have cr5 : w5.cell? ⟨r, 0, none⟩ = some (.slice ar n3 cr) := by rw [hw5]; exact cr0
        clear hS0 hS1 hSA hl5 hst4 rdm xr1 xr3 xr6 cr0 hw5
        go_wp2_with fail
        go_loopw [9] (fun s9 wx => ∃ (k nq : Nat), s9 = .int .i64 k ∧ k ≤ n3 ∧ wx = w5.drewN nq) (fun s9 _ => n3 - (intOf s9).toNat)
        case atStart => exact ⟨0, 0, rfl, by omega, rfl⟩
        case round =>
          obtain ⟨k, nq, rfl, hk, rfl⟩ := hrel
          by_cases hkl : k < n3
          · obtain ⟨bm, om, rfl, hcm⟩ := rdm5.at (i := k * 2) (by omega)
            obtain ⟨bx, ox, rfl, hcx⟩ := rdr5.at (i := k * 2) (by omega)
            have p1 := hcm (k * 2) (by omega)
            have p2 := hcm (k * 2 + 1) (by omega)
            have p3 := hcx (k * 2) (by omega)
            have p4 := hcx (k * 2 + 1) (by omega)
            generalize gI X3 (k * 2) = x1 at p1 p3
            generalize gI X3 (k * 2 + 1) = x2 at p2 p4
            rw [← Nat.add_assoc] at p2 p4
            have k0 : (0 : Int) ≤ k := by omega
            have k1 : (k : Int) < n3 := by omega
            have y1 : (x1 == x1) = true := by simp
            have y2 : (x2 == x2) = true := by simp
            have HK1 := Lib.hid (show k + 1 ≤ n3 by omega)
            clear hcm hcx
            go_wp2_with fail
            go_quiet (fail)
            go_wp2_with fail
            go_roundw
            case rel => exact ⟨k + 1, _, by go_num, HK1.out, rfl⟩
            case measure => have := HK1.out; simp [intOf]; omega
          · obtain rfl : k = n3 := by omega
            have hst6 := hst5.keep ((Ch.refl [] w5).drewN nq)
            clear hst5 rdm5 rdr5 cr5 hkl nn
            by_cases hf : i < len1
            · have t3 : (i : Int) < len1 := by omega
              obtain ⟨f, hf1⟩ := ht1 i hf
              obtain ⟨b1', o1', rfl, hcf⟩ := (hrF1.keep (by decide) hst6.ch (by simp)).at hf
              have d1 := hcf i hf 0 (by decide)
              rw [hf1, Nat.mul_one, Nat.add_zero] at d1
              clear hcf hf1
              cases f
              · go_wp2_with fail
                go_roundw
                case rel => exact ⟨i + 1, k, X3, by go_num, by omega, by omega, hst6⟩
                case measure => simp [intOf]; omega
              · go_wp2_with fail
                generalize X3 = X at hst6
                generalize k = n at hst6
                -- both tell; what they tell is the same
                have hT := barFlush b n X (w5.drewN nq) (hst6).pb
                obtain ⟨T, hTT⟩ : ∃ T, X.foldl tell [] = T := ⟨_, rfl⟩
                have hTl : T.length ≤ 32 := by rw [← hTT]; have := tells_len X; have := (hst6).pb.le; have := (hst6).rr.choose_spec.choose_spec.2.1; omega
                rw [hTT] at hT
                have HTT := Lib.hid hTT
                clear hTT
                refine hT.mono ?_; rintro e w7 ⟨vf, rfl, of, hbf, cf⟩
                clear hT
                have hRf := (hst6).rr.keep cf (by simp; exact (hst6).ne.symm) (by simp)
                have hif : ∀ k ∈ [b, r], k < w7.heap.size := fun k hk => Nat.lt_of_lt_of_le ((hst6).hi k hk) cf.size
                have hG := refBarFlush r n X [b, r] w7 hRf hif (by simp) (hst6).pb.le
                rw [HTT.out] at hG
                obtain ⟨af, df, ef, _, _, rdf⟩ := of.form
                obtain ⟨z, hz⟩ : ∃ z, T.length = z := ⟨_, rfl⟩
                rw [hz] at ef
                subst ef
                have HZ := Lib.hid hz
                clear hz
                go_wp2_with fail
                refine hG.mono ?_; rintro e w8 ⟨vg, rfl, og, hRg, cg⟩
                clear hG
                have of2 := of.keepLt cg (by intro k hk; simp at hk; subst hk; exact ((hst6).hi _ (by simp)))
                have hbg := hbf.keep cg (by simp; exact (hst6).ne)
                obtain ⟨ag, dg, eg, _, _, rdg⟩ := og.form
                obtain ⟨af2, df2, ef2, _, _, rdf2⟩ := of2.form
                rw [HZ.out] at eg ef2
                subst eg
                simp only [Value.slice.injEq, true_and] at ef2
                obtain ⟨rfl, rfl⟩ := ef2
                have hI := ints_same af ag T df dg w8 rdf2 rdg (by unfold maxLen; omega)
                rw [HZ.out] at hI
                have hend : Ch [] w w8 := ((hst6).ch.transT cf (by intro k hk; simp at hk; subst hk; exact .inr (hst6).lb)).transT cg (by intro k hk; simp at hk; subst hk; exact .inr (hst6).lr)
                clear og of2 of rdf rdg rdf2
                go_wp2_with fail
                refine hI.mono ?_; rintro e w9 ⟨rfl, nz, rfl⟩
                clear hI
                have hst9 : BarSt w (w8.drewN nz) b r 0 [] := BarSt.keep ⟨hbg, hRg, hend, hst6.ne, hst6.lb, hst6.lr⟩ ((Ch.refl [] w8).drewN nz)
                go_wp2_with fail
                go_roundw
                case rel => exact ⟨i + 1, 0, [], by go_num, by omega, by omega, hst9⟩
                case measure => simp [intOf]; omega
            · have t3 : ¬ (i : Int) < len1 := by omega
              go_wp2_with fail
              go_roundw
              case rel => exact ⟨i + 1, k, X3, by go_num, by omega, by omega, hst6⟩
              case measure => simp [intOf]; omega
      · have t1 : decide ((i : Int) < len0) = true := decide_eq_true (by omega)
        have t2 : decide ((i : Int) < 60) = false := decide_eq_false (by omega)
        clear hrF0 hrF1
        go_wp2_with fail
        refine (told19 _).mono ?_; rintro e w2 ⟨rfl, c2⟩
        have hst2 := hst.keep c2
        clear hst
        go_wp2_with fail
        -- both tell; what they tell is the same
        have hT := barFlush b n X w2 (hst2).pb
        obtain ⟨T, hTT⟩ : ∃ T, X.foldl tell [] = T := ⟨_, rfl⟩
        have hTl : T.length ≤ 32 := by rw [← hTT]; have := tells_len X; have := (hst2).pb.le; have := (hst2).rr.choose_spec.choose_spec.2.1; omega
        rw [hTT] at hT
        have HTT := Lib.hid hTT
        clear hTT
        refine hT.mono ?_; rintro e w3 ⟨vf, rfl, of, hbf, cf⟩
        clear hT
        have hRf := (hst2).rr.keep cf (by simp; exact (hst2).ne.symm) (by simp)
        have hif : ∀ k ∈ [b, r], k < w3.heap.size := fun k hk => Nat.lt_of_lt_of_le ((hst2).hi k hk) cf.size
        have hG := refBarFlush r n X [b, r] w3 hRf hif (by simp) (hst2).pb.le
        rw [HTT.out] at hG
        obtain ⟨af, df, ef, _, _, rdf⟩ := of.form
        obtain ⟨z, hz⟩ : ∃ z, T.length = z := ⟨_, rfl⟩
        rw [hz] at ef
        subst ef
        have HZ := Lib.hid hz
        clear hz
        go_wp2_with fail
        refine hG.mono ?_; rintro e w4 ⟨vg, rfl, og, hRg, cg⟩
        clear hG
        have of2 := of.keepLt cg (by intro k hk; simp at hk; subst hk; exact ((hst2).hi _ (by simp)))
        have hbg := hbf.keep cg (by simp; exact (hst2).ne)
        obtain ⟨ag, dg, eg, _, _, rdg⟩ := og.form
        obtain ⟨af2, df2, ef2, _, _, rdf2⟩ := of2.form
        rw [HZ.out] at eg ef2
        subst eg
        simp only [Value.slice.injEq, true_and] at ef2
        obtain ⟨rfl, rfl⟩ := ef2
        have hI := ints_same af ag T df dg w4 rdf2 rdg (by unfold maxLen; omega)
        rw [HZ.out] at hI
        have hend : Ch [] w w4 := ((hst2).ch.transT cf (by intro k hk; simp at hk; subst hk; exact .inr (hst2).lb)).transT cg (by intro k hk; simp at hk; subst hk; exact .inr (hst2).lr)
        clear og of2 of rdf rdg rdf2
        go_wp2_with fail
        refine hI.mono ?_; rintro e w5 ⟨rfl, nz, rfl⟩
        clear hI
        go_wp2_with fail
        go_ret
        exact ⟨rfl, (hend.drewN nz).below (Nat.le_refl _) (by simp)⟩
    · have t1 : decide ((i : Int) < len0) = false := decide_eq_false (by omega)
      clear hrF0 hrF1
      go_wp2_with fail
      refine (told19 _).mono ?_; rintro e w2 ⟨rfl, c2⟩
      have hst2 := hst.keep c2
      clear hst
      go_wp2_with fail
      -- both tell; what they tell is the same
      have hT := barFlush b n X w2 (hst2).pb
      obtain ⟨T, hTT⟩ : ∃ T, X.foldl tell [] = T := ⟨_, rfl⟩
      have hTl : T.length ≤ 32 := by rw [← hTT]; have := tells_len X; have := (hst2).pb.le; have := (hst2).rr.choose_spec.choose_spec.2.1; omega
      rw [hTT] at hT
      have HTT := Lib.hid hTT
      clear hTT
      refine hT.mono ?_; rintro e w3 ⟨vf, rfl, of, hbf, cf⟩
      clear hT
      have hRf := (hst2).rr.keep cf (by simp; exact (hst2).ne.symm) (by simp)
      have hif : ∀ k ∈ [b, r], k < w3.heap.size := fun k hk => Nat.lt_of_lt_of_le ((hst2).hi k hk) cf.size
      have hG := refBarFlush r n X [b, r] w3 hRf hif (by simp) (hst2).pb.le
      rw [HTT.out] at hG
      obtain ⟨af, df, ef, _, _, rdf⟩ := of.form
      obtain ⟨z, hz⟩ : ∃ z, T.length = z := ⟨_, rfl⟩
      rw [hz] at ef
      subst ef
      have HZ := Lib.hid hz
      clear hz
      go_wp2_with fail
      refine hG.mono ?_; rintro e w4 ⟨vg, rfl, og, hRg, cg⟩
      clear hG
      have of2 := of.keepLt cg (by intro k hk; simp at hk; subst hk; exact ((hst2).hi _ (by simp)))
      have hbg := hbf.keep cg (by simp; exact (hst2).ne)
      obtain ⟨ag, dg, eg, _, _, rdg⟩ := og.form
      obtain ⟨af2, df2, ef2, _, _, rdf2⟩ := of2.form
      rw [HZ.out] at eg ef2
      subst eg
      simp only [Value.slice.injEq, true_and] at ef2
      obtain ⟨rfl, rfl⟩ := ef2
      have hI := ints_same af ag T df dg w4 rdf2 rdg (by unfold maxLen; omega)
      rw [HZ.out] at hI
      have hend : Ch [] w w4 := ((hst2).ch.transT cf (by intro k hk; simp at hk; subst hk; exact .inr (hst2).lb)).transT cg (by intro k hk; simp at hk; subst hk; exact .inr (hst2).lr)
      clear og of2 of rdf rdg rdf2
      go_wp2_with fail
      refine hI.mono ?_; rintro e w5 ⟨rfl, nz, rfl⟩
      clear hI
      go_wp2_with fail
      go_ret
      exact ⟨rfl, (hend.drewN nz).below (Nat.le_refl _) (by simp)⟩
end Go.Proofs.Ytalnkhcippcghaa
