/-
  The walk of the statement BarrierTells: the law returns true at every input. Conditions: none beyond how the argument is read.
-/
import Derived.Test.YtalnkhcippcghaaBarrierTold
import Derived.Test.YtalnkhcippcghaaTells
import Derived.Test.YtalnkhcippcghaaPutRef
import Derived.Test.YtalnkhcippcghaaOut
import Derived.Test.YtalnkhcippcghaaHas
import Derived.Test.YtalnkhcippcghaaArgs
import Derived.Deep.LoopGhost
namespace Go.Proofs.Ytalnkhcippcghaa
open Go.RowKit
theorem BarAt.len {w : World} {b n : Nat} {xs : List Int} (h : BarAt w b n xs) : n ≤ 16 ∧ xs.length = 2 * n := by
  obtain ⟨l, h1, h2, h3, h4, h5⟩ := h
  exact ⟨h2, h3⟩
/-- A list that is only read: where it lies, and what it is. -/
def LsR (w : World) (b : Nat) (a : Option Addr) (c : Nat) (xs : List Int) : Prop := Rd w a xs ∧ xs.length ≤ c ∧ c ≤ maxLen ∧ ∀ y, a = some y → y.block ≠ b
theorem LsR.keep {w w' : World} {b : Nat} {a : Option Addr} {c : Nat} {xs : List Int} (h : LsR w b a c xs) (hc : Ch [b] w w') : LsR w' b a c xs := ⟨h.1.keep hc (fun x hx hm => h.2.2.2 x hx (by simpa using hm)), h.2⟩
theorem putLs (b : Nat) (a : Option Addr) (c : Nat) (l : List Int) (x : Int) (w : World) (h : LsR w b a c l) (hb : b < w.heap.size) (hl : l.length ≤ 100000) :
    Calls Try.prog 31 #[.slice a l.length c, .int .i64 x] w fun e w' => ∃ a' c', e = .returned (.slice a' (ins l x).length c') ∧ LsR w' b a' c' (ins l x) ∧ Ch [] w w' := by
  refine (putRef a l x l.length c w h.1 rfl h.2.1 h.2.2.1 hl).mono ?_
  rintro e w' ⟨a', c', rfl, h1, h2, h3, h4, h5⟩
  refine ⟨a', c', rfl, ⟨h1, h2, h3, ?_⟩, h5⟩
  rcases h4 with rfl | h4
  · exact h.2.2.2
  · intro y hy he; have := h4 y hy; omega
theorem outZero (b : Nat) (a : Option Addr) (c : Nat) (l : List Int) (w : World) (h : LsR w b a c l) (hb : b < w.heap.size) (hl : l.length ≤ 100000) :
    Calls Try.prog 32 #[.slice a l.length c, .int .i64 0] w fun e w' => ∃ a' c' z, e = .returned (.tuple #[.slice a' (l.erase 0).length c', .bool z]) ∧ LsR w' b a' c' (l.erase 0) ∧ Ch [] w w' := by
  rcases split_first l 0 with hz | ⟨p, q, rfl, hz⟩
  · refine (outNone a l 0 l.length c w h.1 hz rfl (by omega)).mono ?_
    rintro e w' ⟨rfl, rfl⟩
    rw [List.erase_of_not_mem hz]
    exact ⟨a, c, false, rfl, h, Ch.refl _ _⟩
  · refine (outFound a p q 0 _ c w h.1 hz rfl h.2.1 (by omega)).mono ?_
    rintro e w' ⟨v', rfl, h1, h2⟩
    have he : (p ++ 0 :: q).erase 0 = p ++ q := by rw [List.erase_append_right _ hz, List.erase_cons_head]
    rw [he]
    obtain ⟨a', c', rfl, j1, j2, j3⟩ := h1.form
    exact ⟨a', c', true, rfl, ⟨j3, j1, j2, fun y hy e => by have := h1.2 y.block (by rw [hy]; rfl); omega⟩, h2⟩
set_option maxRecDepth 100000 in
set_option maxHeartbeats 8000000 in
theorem tells_walk (a0 : Option Addr) (len cap : Nat) (F : Nat → Nat → Value) (w : World) (hr : RdS w a0 len 2 F) (ht : ∀ i, i < len → (∃ x, F i 0 = .int .i64 x) ∧ (∃ x, F i 1 = .int .i64 x)) (hm : len ≤ maxLen) :
    Calls Try.prog 7 #[.slice a0 len cap] w fun e w' => e = .returned (.bool true) ∧ Below w.heap.size w w' := by
  unfold maxLen at hm
  by_cases h40 : 40 < len
  · have t1 : (40 : Int) < len := by omega
    clear hr ht
    go_enter Try.func7, Try.ntmps7
    go_wp2_with fail
    refine (told19 _).mono ?_; rintro e w1 ⟨rfl, c1⟩
    go_wp2
    go_ret
    exact ⟨rfl, c1.below (Nat.le_refl _) (by simp)⟩
  · have t1 : ¬ (40 : Int) < len := by omega
    go_enter Try.func7, Try.ntmps7
    go_wp2_with fail
    refine (barNew _).mono ?_; rintro e w1 ⟨rfl, h1, c1⟩
    obtain ⟨b, hb⟩ : ∃ b, w.heap.size = b := ⟨_, rfl⟩
    rw [hb] at h1 ⊢
    have HB := Lib.hid (show w.heap.size ≤ b by omega)
    clear hb
    go_wp2_with fail
    go_loopw [4, 5, 6] (fun s4 s5 s6 wr => ∃ (i n : Nat) (X : List Int) (a : Option Addr) (c : Nat), s4 = .slice a (insAll X).length c ∧ s5 = .int .i64 n ∧ s6 = .int .i64 i ∧ i ≤ len ∧ BarAt wr b n X ∧ LsR wr b a c (insAll X) ∧ Ch [] w wr) (fun _ _ s6 _ => len - (intOf s6).toNat)
    case atStart => exact ⟨0, 0, [], none, 0, rfl, rfl, rfl, by omega, h1, ⟨.inl rfl, Nat.le_refl _, Nat.zero_le _, fun y hy => by cases hy⟩, c1⟩
    case round =>
      clear h1 c1
      obtain ⟨i, n, X, a, c, rfl, rfl, rfl, hi, hR, hL, hc⟩ := hrel
      by_cases hlt : i < len
      · obtain ⟨⟨u, hu⟩, ⟨v, hv⟩⟩ := ht i hlt
        obtain ⟨ba, oa, rfl, hcell⟩ := (hr.keep (by decide) hc (by simp)).at hlt
        have d0 := hcell i hlt 0 (by decide)
        have d1 := hcell i hlt 1 (by decide)
        rw [hu] at d0
        rw [hv] at d1
        simp only [Nat.add_zero] at d0
        clear hcell hu hv
        obtain ⟨m, hm0⟩ : ∃ m, (insAll X).length = m := ⟨_, rfl⟩
        rw [hm0]
        have HM := Lib.hid hm0
        clear hm0
        have hb := hR.lt
        have hn16 := hR.len.1
        go_upto_region 12 with fail
        obtain ⟨W1, hW1⟩ : ∃ W1, wr.alloc (.cells #[.int .i64 u, .int .i64 v] 52) = W1 := ⟨_, rfl⟩
        obtain ⟨q, hq⟩ : ∃ q, wr.heap.size = q := ⟨_, rfl⟩
        have bq : Blk W1 q #[.int .i64 u, .int .i64 v] 52 := by rw [← hW1, ← hq]; exact Blk.new _ _ _
        have ca : Ch [] wr W1 := by rw [← hW1]; exact (Ch.refl [] wr).alloc _
        have hR1 := hR.keep ca (by simp)
        have f0 := bq.cell 0
        have f1 := bq.cell 1
        rw [hW1, hq]
        clear hW1 d0 d1
        have hqb : b ≠ q := by omega
        by_cases hn : n = 16
        · subst hn
          have hP := barPutFull b X u v W1 hR1
          go_wp2_with fail
          refine hP.mono ?_; rintro e w2 ⟨rfl, rfl⟩
          go_wp2_with fail
          go_roundw
          case rel => exact ⟨i + 1, 16, X, a, c, by rw [HM.out], rfl, by go_num, by omega, hR1, hL.keep (ca.mono (by simp)), hc.trans ca⟩
          case measure => simp [intOf]; omega
        · have hnl : n < 16 := by omega
          have n1 : decide ((n : Int) < 16) = true := decide_eq_true (by omega)
          have n2 : ¬ (16 : Int) ≤ n := by omega
          by_cases hu0 : u = 0
          · by_cases hv0 : v = 0
            · subst hu0
              subst hv0
              have hP := barPutZero b n X W1 hR1 hnl
              clear hn
              go_wp2_with fail
              refine hP.mono ?_; rintro e w2 ⟨rfl, c2⟩
              have bq2 := bq.keep c2 (by simp)
              have e0 := bq2.cell 0
              have e1 := bq2.cell 1
              go_wp2_with fail
              go_roundw
              case rel => exact ⟨i + 1, n, X, a, c, by rw [HM.out], rfl, by go_num, by omega, hR1.keep c2 (by simp), hL.keep ((ca.trans c2).mono (by simp)), (hc.trans ca).trans c2⟩
              case measure => simp [intOf]; omega
            · subst hu0
              have hP := barPut0 b n X v W1 hR1 hnl hv0
              have v1 : (v == 0) = false := by rw [beq_eq_false_iff_ne]; exact hv0
              clear hn hv0
              go_wp2_with fail
              refine hP.mono ?_; rintro e w2 ⟨rfl, h2, c2⟩
              -- the pair is noted: its numbers go into the list
              have hs2 := c2.size
              have bq2 := bq.keep c2 (by simp; omega)
              have e0 := bq2.cell 0
              have e1 := bq2.cell 1
              have L2 := (hL.keep (ca.mono (by simp))).keep c2
              obtain ⟨hn16', hX2⟩ := h2.len
              have hl1 := insAll_len X
              have hl2 := ins_len (insAll X) (0 : Int)
              have hW := insAll_snoc X (0 : Int)
              have hW2 := insAll_snoc (X ++ [(0 : Int)]) v
              rw [List.append_assoc] at hW2
              obtain ⟨T, hT⟩ : ∃ T, insAll X = T := ⟨_, rfl⟩
              have hm := HM.out
              rw [hT] at L2 hl1 hl2 hW hm
              rw [hm] at hl1 hl2
              have HM2 := Lib.hid hm
              have HW := Lib.hid hW
              have HW2 := Lib.hid hW2
              have HX2 := Lib.hid hX2
              have hXl := hR.len.2
              have hb2 : b < w2.heap.size := h2.lt
              clear hm hW hW2 hX2 hT bq hL
              go_upto_region 16 with fail
              obtain ⟨L, hLL⟩ : ∃ L : World → Prop, ∀ w', L w' ↔ (w'.cell? ⟨q, 0, none⟩ = some (.int .i64 (0 : Int)) ∧ w'.cell? ⟨q, 1, none⟩ = some (.int .i64 v)) := ⟨_, fun _ => Iff.rfl⟩
              have hS1 : ∀ x : { w' : World // L w' }, x.1.cell? ⟨q, 0, none⟩ = some (.int .i64 (0 : Int)) := fun x => ((hLL _).1 x.2).1
              have hS2 : ∀ x : { w' : World // L w' }, x.1.cell? ⟨q, 1, none⟩ = some (.int .i64 v) := fun x => ((hLL _).1 x.2).2
              have hS0 : L (w2.drewN 1) := (hLL _).2 ⟨e0, e1⟩
              have hSA : Nonempty { w' : World // L w' } := ⟨⟨_, hS0⟩⟩
              have HL := Lib.hid hLL
              clear hLL
              refine wp_region_plan (Cls L) (List.range 8) (.reads [0, 1, 2, 4, 5] (.only 3 (.only 6 (.reads [7] .done)))) (by kernel_rfl) (by kernel_rfl) (fun _ _ _ _ _ h => h) ?_
              simp only [Plan.reads, Plan.only, List.foldr_cons, List.foldr_nil]
              iterate 5 (refine wpPlan_readS hS0 (fun K hK => ?_); simp only [List.getD_cons_zero, List.getD_cons_succ]; go_simp; refine hK _ ?_; clear hK K)
              refine wpPlan_only (fun K hK => ?_)
              simp only [List.getD_cons_zero, List.getD_cons_succ]
              go_simp
              have P1 := putLs b a c T (0 : Int) (w2.drewN 1) (L2.keep ((Ch.refl [b] w2).drewN 1)) hb2 (by rw [HM2.out]; omega)
              rw [HM2.out] at P1
              refine P1.mono ?_; rintro e w3 ⟨a3, c3, rfl, L3, cc3⟩
              clear P1
              have cc3' : Ch [] w2 w3 := ((Ch.refl [] w2).drewN 1).trans cc3
              have bq3 := bq2.keep cc3' (by simp)
              have hl3 : L w3 := (HL.out _).2 ⟨bq3.cell 0, bq3.cell 1⟩
              refine hK _ _ (fun _ => Cls.mk hl3) ?_
              clear hK K
              refine wpPlan_only (fun K hK => ?_)
              simp only [List.getD_cons_zero, List.getD_cons_succ]
              go_simp
              have hs3 := cc3'.size
              have P2 := putLs b a3 c3 (ins T (0 : Int)) v w3 L3 (by omega) (by omega)
              refine P2.mono ?_; rintro e w4 ⟨a4, c4, rfl, L4, cc4⟩
              clear P2
              have bq4 := bq3.keep cc4 (by simp)
              have hl4 : L w4 := (HL.out _).2 ⟨bq4.cell 0, bq4.cell 1⟩
              refine hK _ _ (fun _ => Cls.mk hl4) ?_
              clear hK K
              refine wpPlan_readS hl4 (fun K hK => ?_); simp only [List.getD_cons_zero, List.getD_cons_succ]; go_simp; refine hK _ ?_; clear hK K
              refine wpPlan_done ?_
              clear hS0 hS1 hS2 hSA hl3 hl4 e0 e1
              rw [← HW.out] at L4 ⊢
              rw [show ins (insAll (X ++ [(0 : Int)])) v = insAll (X ++ [(0 : Int), v]) from HW2.out.symm] at L4 ⊢
              have cc34 : Ch [b] w w4 := ((((hc.trans ca).mono (T := [b]) (by simp)).trans c2).trans (cc3'.mono (by simp))).trans (cc4.mono (by simp))
              have cc34' : Ch [] w w4 := cc34.mono (by intro z hz; simp at hz; subst hz; exact .inr HB.out)
              have h4 := (h2.keep cc3' (by simp)).keep cc4 (by simp)
              obtain ⟨X', hX'⟩ : ∃ X', X ++ [(0 : Int), v] = X' := ⟨_, rfl⟩
              rw [hX'] at L4 h4 ⊢
              clear hX'
              obtain ⟨m', hm'⟩ : ∃ m', (insAll X').length = m' := ⟨_, rfl⟩
              rw [hm']
              have HM' := Lib.hid hm'
              clear hm'
              go_wp2
              go_roundw
              case rel => exact ⟨i + 1, n + 1, X', a4, c4, by rw [HM'.out], by go_num, by go_num, by omega, h4, L4, cc34'⟩
              case measure => simp [intOf]; omega
          · have hP := barPut b n X u v W1 hR1 hnl hu0
            have u1 : (u == 0) = false := by rw [beq_eq_false_iff_ne]; exact hu0
            clear hn hu0
            go_wp2_with fail
            refine hP.mono ?_; rintro e w2 ⟨rfl, h2, c2⟩
            -- the pair is noted: its numbers go into the list
            have hs2 := c2.size
            have bq2 := bq.keep c2 (by simp; omega)
            have e0 := bq2.cell 0
            have e1 := bq2.cell 1
            have L2 := (hL.keep (ca.mono (by simp))).keep c2
            obtain ⟨hn16', hX2⟩ := h2.len
            have hl1 := insAll_len X
            have hl2 := ins_len (insAll X) u
            have hW := insAll_snoc X u
            have hW2 := insAll_snoc (X ++ [u]) v
            rw [List.append_assoc] at hW2
            obtain ⟨T, hT⟩ : ∃ T, insAll X = T := ⟨_, rfl⟩
            have hm := HM.out
            rw [hT] at L2 hl1 hl2 hW hm
            rw [hm] at hl1 hl2
            have HM2 := Lib.hid hm
            have HW := Lib.hid hW
            have HW2 := Lib.hid hW2
            have HX2 := Lib.hid hX2
            have hXl := hR.len.2
            have hb2 : b < w2.heap.size := h2.lt
            clear hm hW hW2 hX2 hT bq hL
            go_upto_region 16 with fail
            obtain ⟨L, hLL⟩ : ∃ L : World → Prop, ∀ w', L w' ↔ (w'.cell? ⟨q, 0, none⟩ = some (.int .i64 u) ∧ w'.cell? ⟨q, 1, none⟩ = some (.int .i64 v)) := ⟨_, fun _ => Iff.rfl⟩
            have hS1 : ∀ x : { w' : World // L w' }, x.1.cell? ⟨q, 0, none⟩ = some (.int .i64 u) := fun x => ((hLL _).1 x.2).1
            have hS2 : ∀ x : { w' : World // L w' }, x.1.cell? ⟨q, 1, none⟩ = some (.int .i64 v) := fun x => ((hLL _).1 x.2).2
            have hS0 : L (w2.drewN 1) := (hLL _).2 ⟨e0, e1⟩
            have hSA : Nonempty { w' : World // L w' } := ⟨⟨_, hS0⟩⟩
            have HL := Lib.hid hLL
            clear hLL
            refine wp_region_plan (Cls L) (List.range 8) (.reads [0, 1, 2, 4, 5] (.only 3 (.only 6 (.reads [7] .done)))) (by kernel_rfl) (by kernel_rfl) (fun _ _ _ _ _ h => h) ?_
            simp only [Plan.reads, Plan.only, List.foldr_cons, List.foldr_nil]
            iterate 5 (refine wpPlan_readS hS0 (fun K hK => ?_); simp only [List.getD_cons_zero, List.getD_cons_succ]; go_simp; refine hK _ ?_; clear hK K)
            refine wpPlan_only (fun K hK => ?_)
            simp only [List.getD_cons_zero, List.getD_cons_succ]
            go_simp
            have P1 := putLs b a c T u (w2.drewN 1) (L2.keep ((Ch.refl [b] w2).drewN 1)) hb2 (by rw [HM2.out]; omega)
            rw [HM2.out] at P1
            refine P1.mono ?_; rintro e w3 ⟨a3, c3, rfl, L3, cc3⟩
            clear P1
            have cc3' : Ch [] w2 w3 := ((Ch.refl [] w2).drewN 1).trans cc3
            have bq3 := bq2.keep cc3' (by simp)
            have hl3 : L w3 := (HL.out _).2 ⟨bq3.cell 0, bq3.cell 1⟩
            refine hK _ _ (fun _ => Cls.mk hl3) ?_
            clear hK K
            refine wpPlan_only (fun K hK => ?_)
            simp only [List.getD_cons_zero, List.getD_cons_succ]
            go_simp
            have hs3 := cc3'.size
            have P2 := putLs b a3 c3 (ins T u) v w3 L3 (by omega) (by omega)
            refine P2.mono ?_; rintro e w4 ⟨a4, c4, rfl, L4, cc4⟩
            clear P2
            have bq4 := bq3.keep cc4 (by simp)
            have hl4 : L w4 := (HL.out _).2 ⟨bq4.cell 0, bq4.cell 1⟩
            refine hK _ _ (fun _ => Cls.mk hl4) ?_
            clear hK K
            refine wpPlan_readS hl4 (fun K hK => ?_); simp only [List.getD_cons_zero, List.getD_cons_succ]; go_simp; refine hK _ ?_; clear hK K
            refine wpPlan_done ?_
            clear hS0 hS1 hS2 hSA hl3 hl4 e0 e1
            rw [← HW.out] at L4 ⊢
            rw [show ins (insAll (X ++ [u])) v = insAll (X ++ [u, v]) from HW2.out.symm] at L4 ⊢
            have cc34 : Ch [b] w w4 := ((((hc.trans ca).mono (T := [b]) (by simp)).trans c2).trans (cc3'.mono (by simp))).trans (cc4.mono (by simp))
            have cc34' : Ch [] w w4 := cc34.mono (by intro z hz; simp at hz; subst hz; exact .inr HB.out)
            have h4 := (h2.keep cc3' (by simp)).keep cc4 (by simp)
            obtain ⟨X', hX'⟩ : ∃ X', X ++ [u, v] = X' := ⟨_, rfl⟩
            rw [hX'] at L4 h4 ⊢
            clear hX'
            obtain ⟨m', hm'⟩ : ∃ m', (insAll X').length = m' := ⟨_, rfl⟩
            rw [hm']
            have HM' := Lib.hid hm'
            clear hm'
            go_wp2
            go_roundw
            case rel => exact ⟨i + 1, n + 1, X', a4, c4, by rw [HM'.out], by go_num, by go_num, by omega, h4, L4, cc34'⟩
            case measure => simp [intOf]; omega
      · obtain rfl : i = len := by omega
        clear hlt ht hr
        have hb := hR.lt
        have hX2 := hR.len.2
        have hn16 := hR.len.1
        have hl1 := insAll_len X
        have hO := outZero b a c (insAll X) wr hL hb (by omega)
        rw [tells_rise] at hO
        have hF := barFlush b n X
        have hFl := tells_len X
        have hnew := tells_new X
        obtain ⟨F', hF'⟩ : ∃ F', X.foldl tell [] = F' := ⟨_, rfl⟩
        rw [hF'] at hO hF hFl hnew
        obtain ⟨m, hm0⟩ : ∃ m, (insAll X).length = m := ⟨_, rfl⟩
        rw [hm0] at hO ⊢
        obtain ⟨y, hy⟩ : ∃ y, (insAll F').length = y := ⟨_, rfl⟩
        have hyl := insAll_len F'
        rw [hy] at hO hyl
        obtain ⟨z, hz⟩ : ∃ z, F'.length = z := ⟨_, rfl⟩
        rw [hz] at hyl hFl hnew
        have HY := Lib.hid hy
        have HZ := Lib.hid hz
        have HNEW := Lib.hid hnew
        clear hm0 hy hF' hz hnew
        go_wp2_with fail
        refine hO.mono ?_; rintro e w2 ⟨a2, c2, z2, rfl, L2, cc2⟩
        clear hO hL
        have hR2 := hR.keep cc2 (by simp)
        go_wp2_with fail
        refine (barLen b n X _ hR2).mono ?_; rintro e w3 ⟨rfl, rfl⟩
        go_wp2_with fail
        refine (hF w3 hR2).mono ?_; rintro e w4 ⟨v4, rfl, o4, h4, cc4⟩
        obtain ⟨a4, c4, rfl, k1, k2, k3⟩ := o4.form
        have hb3 := hR2.lt
        have L4 : LsR w4 b a4 c4 F' := ⟨k3, k1, k2, fun y hy he => by have := o4.2 y.block (by rw [hy]; rfl); omega⟩
        have L2' := L2.keep cc4
        have cc := ((hc.trans cc2).transT cc4 (T := [b]) (by intro k hk; simp at hk; subst hk; exact .inr HB.out))
        rw [HZ.out]
        clear o4 k1 k2 k3 hF hR2 hR L2 hc cc2 cc4
        go_wp2_with fail
        go_loopw [9, 10] (fun s9 s10 wr => ∃ (i : Nat) (ag : Option Addr) (cg : Nat), s9 = .slice ag (insAll (F'.take i)).length cg ∧ s10 = .int .i64 i ∧ i ≤ z ∧ LsR wr b ag cg (insAll (F'.take i)) ∧ LsR wr b a4 c4 F' ∧ LsR wr b a2 c2 (insAll F') ∧ BarAt wr b 0 [] ∧ Ch [] w wr) (fun _ s10 _ => z - (intOf s10).toNat)
        case atStart => exact ⟨0, none, 0, rfl, rfl, by omega, ⟨.inl rfl, Nat.le_refl _, Nat.zero_le _, fun y hy => by cases hy⟩, L4, L2', h4, cc⟩
        case round =>
          clear L4 L2' h4 cc
          obtain ⟨i', ag, cg, rfl, rfl, hi', Lg, L4, L2, h4, hc⟩ := hrel
          have hb4 := h4.lt
          by_cases hlt : i' < z
          · obtain ⟨b4, o4, rfl, hcell⟩ := L4.1.at (i := i') (by rw [HZ.out]; exact hlt)
            have d1 := hcell i' (by rw [HZ.out]; exact hlt)
            have hnx := take_next F' i' (by rw [HZ.out]; exact hlt)
            have hh := HNEW.out i' hlt
            have hgl := insAll_len (F'.take i')
            rw [List.length_take] at hgl
            obtain ⟨x, hx⟩ : ∃ x, gI F' i' = x := ⟨_, rfl⟩
            rw [hx] at d1 hnx hh
            obtain ⟨G, hG⟩ : ∃ G, insAll (F'.take i') = G := ⟨_, rfl⟩
            rw [hG] at Lg hnx hh hgl ⊢
            have hHas := hasAny ag G x G.length cg wr Lg.1 rfl (by omega)
            rw [hh] at hHas
            have hP := putLs b ag cg G x wr Lg hb4 (by omega)
            rw [hnx] at hP
            obtain ⟨m1, hm1⟩ : ∃ m1, G.length = m1 := ⟨_, rfl⟩
            rw [hm1] at hP hHas ⊢
            have i0 : (0 : Int) ≤ i' := by omega
            have i1 : (i' : Int) < z := by omega
            clear hx hG hm1 hcell hnx hh hgl
            obtain ⟨m2, hm2⟩ : ∃ m2, (insAll (F'.take (i' + 1))).length = m2 := ⟨_, rfl⟩
            rw [hm2] at hP
            have HM2 := Lib.hid hm2
            clear hm2
            go_wp2_with fail
            refine hHas.mono ?_; rintro e w5 ⟨rfl, rfl⟩
            go_wp2_with fail
            refine hP.mono ?_; rintro e w6 ⟨a6, c6, rfl, L6, cc6⟩
            clear hP hHas
            go_wp2_with fail
            go_roundw
            case rel => exact ⟨i' + 1, a6, c6, by rw [HM2.out], by go_num, by omega, L6, L4.keep (cc6.mono (by simp)), L2.keep (cc6.mono (by simp)), h4.keep cc6 (by simp), hc.trans cc6⟩
            case measure => simp [intOf]; omega
          · obtain rfl : i' = z := by omega
            rw [List.take_of_length_le (by rw [HZ.out]; omega)] at Lg ⊢
            rw [HY.out]
            clear hlt L4
            go_wp2_with fail
            refine (told19 _).mono ?_; rintro e w5 ⟨rfl, cc5⟩
            have hI := ints_same ag a2 (insAll F') cg c2 w5 (Lg.keep (cc5.mono (by simp))).1 (L2.keep (cc5.mono (by simp))).1 (by rw [HY.out]; unfold maxLen; omega)
            rw [HY.out] at hI
            go_wp2_with fail
            refine hI.mono ?_; rintro e w6 ⟨rfl, nq, rfl⟩
            have h6 := (h4.keep cc5 (by simp)).keep ((Ch.refl [] w5).drewN nq) (by simp)
            clear hI
            go_wp2_with fail
            refine (barLen b 0 [] _ h6).mono ?_; rintro e w7 ⟨rfl, rfl⟩
            go_wp2_with fail
            refine (barFlush b 0 [] _ h6).mono ?_; rintro e w8 ⟨v8, rfl, o8, h8, cc8⟩
            obtain ⟨a8, c8, rfl, _, _, _⟩ := o8.form
            rw [show (([] : List Int).foldl tell []).length = 0 from rfl]
            go_wp2_with fail
            go_ret
            exact ⟨rfl, (((hc.trans cc5).drewN nq).transT cc8 (by intro k hk; simp at hk; subst hk; exact .inr HB.out)).below (Nat.le_refl _) (by simp)⟩
end Go.Proofs.Ytalnkhcippcghaa
