/-
  The walk of the statement RingSteals: the law returns true at every input. Conditions: none.
-/
import Derived.Test.YteghenfdncgpeaaRingDels
namespace Go.Proofs.Yteghenfdncgpeaa
open Go.RowKit
theorem rng_take (c : Int) (n m : Nat) (h : n ≤ m) : (rng c m).take n = rng c n := by
  rw [show m = n + (m - n) by omega, rng_split, List.take_left' (rng_len c n)]
theorem gI_snd (p q : List Int) (n i : Nat) (h : p.length = n) : gI (p ++ q) (n + i) = gI q i := by
  simp only [gI, List.getD_eq_getElem?_getD]
  rw [List.getElem?_append_right (by omega), h, Nat.add_sub_cancel_left]
theorem gI_rng (c : Int) (n i : Nat) (h : i < n) : gI (rng c n) i = c + i := by simp [gI, rng, h]

set_option maxRecDepth 100000 in
set_option maxHeartbeats 4000000 in
theorem steals_Atv (a0 a1 : Int) (k m : Nat) (hk : wrap64 ((IntKind.u64.wrap a0).tmod 257) = k) (hm : wrap64 ((IntKind.u64.wrap a1).tmod 257) = m) (hk1 : k ≤ 256) (hm1 : m ≤ 256) (K : Nat) (hkp : 0 < k) (hcase : K = min ((k + 1) / 2) (256 - m) ∧ 256 - m < (k + 1) / 2) (w : World) :
    Calls Try.prog 5 #[.int .i64 a0, .int .i64 a1, .bool true] w fun e w' => e = .returned (.bool true) ∧ Below w.heap.size w w' := by
  have HKK := Lib.hid hk
  have HMM := Lib.hid hm
  obtain ⟨q, hq⟩ : ∃ q : Nat, q = (k + 1) / 2 := ⟨_, rfl⟩
  obtain ⟨v, hv⟩ : ∃ v : Nat, v = 256 - m := ⟨_, rfl⟩
  have f1 : ((k : Int) == 0) = false := by rw [beq_eq_false_iff_ne]; omega
  have f2 : (0 : Int) < k := by omega
  have e1 : ((k : Int) + 1) / 2 = (q : Int) := by omega
  have e2 : IntKind.i64.wrap (256 - (m : Int)) = (v : Int) := by rw [IntWalk.i64_in _ (by omega)]; omega
  have e3 : (256 : Int) - (m : Int) = (v : Int) := by omega
  have hK1 : K ≤ k := by omega
  have e4 : IntKind.i64.wrap ((k : Int) - (K : Int)) = ((k - K : Nat) : Int) := by rw [IntWalk.i64_in _ (by omega)]; omega
  have e5 : (k : Int) - (K : Int) = ((k - K : Nat) : Int) := by omega
  have hS : ∀ (A B : Nat) (wr : World), RingAt wr A 0 false (rng 0 m) → RingAt wr B 5000 true (rng 1000 k) → A ≠ B → Calls Try.prog 23 #[.pointer (some ⟨A, 0, none⟩), .pointer (some ⟨B, 0, none⟩)] wr fun e w' =>
      e = .returned (.int .i64 K) ∧ RingL w' A (rng 0 m ++ rng 1000 K) ∧ RingL w' B (ringList 5000 true ((rng 1000 k).drop K)) ∧ Ch [A, B] wr w' := fun A B wr h1 h2 h3 => by
    refine (ringStealHalf A B 0 5000 false true (rng 0 m) (rng 1000 k) K wr h1 h2 h3 (fun e => by have := congrArg List.length e; rw [rng_len] at this; simp at this; omega) (by rw [rng_len, rng_len]; omega)).mono ?_
    rintro e w' ⟨rfl, h4, h5, h6⟩
    rw [rng_take _ _ _ hK1] at h4
    exact ⟨rfl, ⟨0, false, _, h4, rfl⟩, ⟨_, _, _, h5, rfl⟩, h6⟩
  have hL1 : (rng 0 m ++ rng 1000 K).length = m + K := by rw [List.length_append, rng_len, rng_len]
  have hL2 : (ringList 5000 true ((rng 1000 k).drop K)).length = k - K + 1 := by simp [ringList, rng_len]
  have hcell : ∀ z, z < K → gI (rng 0 m ++ rng 1000 K) (m + z) = 1000 + (z : Int) := fun z hz => by rw [gI_snd _ _ _ _ (rng_len 0 m), gI_rng _ _ _ hz]
  have hmin : (v : Int) < (q : Int) := by omega
  obtain rfl : K = v := by omega
  have HS := Lib.hid hS
  have HL1 := Lib.hid hL1
  have HL2 := Lib.hid hL2
  have HCELL := Lib.hid hcell
  clear hk hm hS hL1 hL2 hcell hq hv hkp hcase
  go_enter Try.func5, Try.ntmps5
  go_wp2_with fail
  refine (ringNew _).mono ?_; rintro e w1 ⟨rfl, hA1, c1⟩
  obtain ⟨A, hA⟩ : ∃ A, w.heap.size = A := ⟨_, rfl⟩
  rw [hA] at hA1 ⊢
  have HA := Lib.hid hA
  clear hA
  go_wp2_with fail
  refine (ringNew _).mono ?_; rintro e w2 ⟨rfl, hB2, c2⟩
  obtain ⟨B, hB⟩ : ∃ B, w1.heap.size = B := ⟨_, rfl⟩
  have hAB : A < B := by rw [← hB]; exact hA1.lt
  rw [hB] at hB2 ⊢
  have HB := Lib.hid hB
  clear hB
  have hA2 := hA1.keep c2 (by simp)
  have hc2 : Ch [] w w2 := c1.trans c2
  go_wp2_with fail
  rw [HKK.out, HMM.out]
  go_loopw [11] (fun s11 wr => ∃ i : Nat, s11 = .int .i64 i ∧ i ≤ k ∧ RingAt wr B 0 false (rng 1000 i) ∧ RingAt wr A 0 false [] ∧ Ch [] w wr) (fun s11 _ => k - (intOf s11).toNat)
  case atStart => exact ⟨0, rfl, by omega, hB2, hA2, hc2⟩
  case round =>
    clear hA1 hA2 hB2 hc2 c1 c2
    obtain ⟨i, rfl, hi, hB, hA, hc⟩ := hrel
    by_cases hlt : i < k
    · have hP := ringPutIn B 0 false (rng 1000 i) (1000 + (i : Int)) wr hB (by rw [rng_len]; omega)
      go_wp2_with fail
      refine hP.mono ?_; rintro e w2 ⟨v2, p2, rfl, h2, c2⟩
      go_wp2
      go_roundw
      case rel => exact ⟨i + 1, by go_num, by omega, by rw [rng_succ]; exact h2, hA.keep c2 (by simp; omega), hc.transT c2 (by intro q hq; simp at hq; subst hq; exact .inr (by have := HA.out; omega))⟩
      case measure => simp [intOf]; omega
    · obtain rfl : i = k := by omega
      clear hlt hi
      go_wp2_with fail
      refine (ringPutNew B 0 _ 5000 _ hB).mono ?_; rintro e w3 ⟨rfl, hB3, c3⟩
      have hA3 := hA.keep c3 (by simp; omega)
      have hc3 : Ch [] w w3 := hc.transT c3 (by intro q hq; simp at hq; subst hq; exact .inr (by have := HA.out; omega))
      clear c3 hB hA hc
      go_wp2_with fail
      go_loopw [12] (fun s12 wr => ∃ j : Nat, s12 = .int .i64 j ∧ j ≤ m ∧ RingAt wr A 0 false (rng 0 j) ∧ RingAt wr B 5000 true (rng 1000 i) ∧ Ch [] w wr) (fun s12 _ => m - (intOf s12).toNat)
      case atStart => exact ⟨0, rfl, by omega, hA3, hB3, hc3⟩
      case round =>
        clear hA3 hB3 hc3
        obtain ⟨j, rfl, hj, hA, hB, hc⟩ := hrel
        by_cases hlt : j < m
        · have hP := ringPutIn A 0 false (rng 0 j) (j : Int) wr hA (by rw [rng_len]; omega)
          go_wp2_with fail
          refine hP.mono ?_; rintro e w2 ⟨v2, p2, rfl, h2, c2⟩
          go_wp2
          go_roundw
          case rel => exact ⟨j + 1, by go_num, by omega, by rw [rng_zero]; exact h2, hB.keep c2 (by simp; omega), hc.transT c2 (by intro q hq; simp at hq; subst hq; exact .inr (by have := HA.out; omega))⟩
          case measure => simp [intOf]; omega
        · obtain rfl : j = m := by omega
          clear hlt hj
          have hS := HS.out A B wr hA hB (by omega)
          clear hA hB
          go_wp2_with fail
          refine hS.mono ?_; rintro e w3 ⟨rfl, hA3, hB3, c3⟩
          have hc3 : Ch [] w w3 := hc.transT c3 (by
            intro q hq
            simp at hq
            rcases hq with rfl | rfl
            · exact .inr (by have := HA.out; omega)
            · exact .inr (by have := HA.out; omega))
          clear hS c3 hc
          go_wp2_with fail
          refine (ringAllL A _ _ hA3).mono ?_; rintro e w4 ⟨v4, rfl, o4, c4⟩
          have hA4 := hA3.keep c4 (by simp)
          have hB4 := hB3.keep c4 (by simp)
          go_wp2_with fail
          refine (ringAllL B _ _ hB4).mono ?_; rintro e w5 ⟨v5, rfl, o5, c5⟩
          have o45 := o4.keep c5 (by simp)
          have hA5 := hA4.keep c5 (by simp)
          have hc5 : Ch [] w w5 := (hc3.trans c4).trans c5
          obtain ⟨x4, y4, rfl, _, _, r4⟩ := o45.form
          obtain ⟨x5, y5, rfl, _, _, r5⟩ := o5.form
          rw [HL1.out, HL2.out]
          clear c4 c5 o4 o45 o5 hA4 hB4 hA3 hB3 hc3
          go_wp2_with fail
          go_loopw [17] (fun s17 wr => ∃ z : Nat, s17 = .int .i64 z ∧ z ≤ K ∧ wr = w5) (fun s17 _ => K - (intOf s17).toNat)
          case atStart => exact ⟨0, rfl, by omega, rfl⟩
          case round =>
            obtain ⟨z, rfl, hz, rfl⟩ := hrel
            by_cases hlt : z < K
            · obtain ⟨ba, oa, rfl, hcell⟩ := r4.at (i := j + z) (by rw [HL1.out]; omega)
              have d1 := hcell (j + z) (by rw [HL1.out]; omega)
              rw [HCELL.out z hlt] at d1
              have b0 : (0 : Int) ≤ (j : Int) + (z : Int) := by omega
              clear hcell
              go_wp2_with fail
              go_roundw
              case rel => exact ⟨z + 1, by go_num, by omega, by first | rfl | trivial⟩
              case measure => simp [intOf]; omega
            · obtain rfl : z = K := by omega
              clear hlt hz
              obtain ⟨b5, o5', rfl, hcell5⟩ := r5.at (i := 0) (by rw [HL2.out]; omega)
              have d5 := hcell5 0 (by rw [HL2.out]; omega)
              rw [show gI (ringList 5000 true ((rng 1000 i).drop z)) 0 = 5000 from rfl, Nat.add_zero] at d5
              clear hcell5
              go_wp2_with fail
              refine (told10 _).mono ?_; rintro e w6 ⟨rfl, c6⟩
              go_wp2_with fail
              refine (ringStealSelf A _).mono ?_; rintro e w7 ⟨rfl, rfl⟩
              go_wp2_with fail
              refine (ringStealNil A _).mono ?_; rintro e w8 ⟨rfl, rfl⟩
              go_wp2
              go_ret
              exact ⟨rfl, (hc5.trans c6).below (Nat.le_refl _) (by simp)⟩

set_option maxRecDepth 100000 in
set_option maxHeartbeats 4000000 in
theorem steals_Atq (a0 a1 : Int) (k m : Nat) (hk : wrap64 ((IntKind.u64.wrap a0).tmod 257) = k) (hm : wrap64 ((IntKind.u64.wrap a1).tmod 257) = m) (hk1 : k ≤ 256) (hm1 : m ≤ 256) (K : Nat) (hkp : 0 < k) (hcase : K = min ((k + 1) / 2) (256 - m) ∧ ¬ 256 - m < (k + 1) / 2) (w : World) :
    Calls Try.prog 5 #[.int .i64 a0, .int .i64 a1, .bool true] w fun e w' => e = .returned (.bool true) ∧ Below w.heap.size w w' := by
  have HKK := Lib.hid hk
  have HMM := Lib.hid hm
  obtain ⟨q, hq⟩ : ∃ q : Nat, q = (k + 1) / 2 := ⟨_, rfl⟩
  obtain ⟨v, hv⟩ : ∃ v : Nat, v = 256 - m := ⟨_, rfl⟩
  have f1 : ((k : Int) == 0) = false := by rw [beq_eq_false_iff_ne]; omega
  have f2 : (0 : Int) < k := by omega
  have e1 : ((k : Int) + 1) / 2 = (q : Int) := by omega
  have e2 : IntKind.i64.wrap (256 - (m : Int)) = (v : Int) := by rw [IntWalk.i64_in _ (by omega)]; omega
  have e3 : (256 : Int) - (m : Int) = (v : Int) := by omega
  have hK1 : K ≤ k := by omega
  have e4 : IntKind.i64.wrap ((k : Int) - (K : Int)) = ((k - K : Nat) : Int) := by rw [IntWalk.i64_in _ (by omega)]; omega
  have e5 : (k : Int) - (K : Int) = ((k - K : Nat) : Int) := by omega
  have hS : ∀ (A B : Nat) (wr : World), RingAt wr A 0 false (rng 0 m) → RingAt wr B 5000 true (rng 1000 k) → A ≠ B → Calls Try.prog 23 #[.pointer (some ⟨A, 0, none⟩), .pointer (some ⟨B, 0, none⟩)] wr fun e w' =>
      e = .returned (.int .i64 K) ∧ RingL w' A (rng 0 m ++ rng 1000 K) ∧ RingL w' B (ringList 5000 true ((rng 1000 k).drop K)) ∧ Ch [A, B] wr w' := fun A B wr h1 h2 h3 => by
    refine (ringStealHalf A B 0 5000 false true (rng 0 m) (rng 1000 k) K wr h1 h2 h3 (fun e => by have := congrArg List.length e; rw [rng_len] at this; simp at this; omega) (by rw [rng_len, rng_len]; omega)).mono ?_
    rintro e w' ⟨rfl, h4, h5, h6⟩
    rw [rng_take _ _ _ hK1] at h4
    exact ⟨rfl, ⟨0, false, _, h4, rfl⟩, ⟨_, _, _, h5, rfl⟩, h6⟩
  have hL1 : (rng 0 m ++ rng 1000 K).length = m + K := by rw [List.length_append, rng_len, rng_len]
  have hL2 : (ringList 5000 true ((rng 1000 k).drop K)).length = k - K + 1 := by simp [ringList, rng_len]
  have hcell : ∀ z, z < K → gI (rng 0 m ++ rng 1000 K) (m + z) = 1000 + (z : Int) := fun z hz => by rw [gI_snd _ _ _ _ (rng_len 0 m), gI_rng _ _ _ hz]
  have hmin : ¬ (v : Int) < (q : Int) := by omega
  obtain rfl : K = q := by omega
  have HS := Lib.hid hS
  have HL1 := Lib.hid hL1
  have HL2 := Lib.hid hL2
  have HCELL := Lib.hid hcell
  clear hk hm hS hL1 hL2 hcell hq hv hkp hcase
  go_enter Try.func5, Try.ntmps5
  go_wp2_with fail
  refine (ringNew _).mono ?_; rintro e w1 ⟨rfl, hA1, c1⟩
  obtain ⟨A, hA⟩ : ∃ A, w.heap.size = A := ⟨_, rfl⟩
  rw [hA] at hA1 ⊢
  have HA := Lib.hid hA
  clear hA
  go_wp2_with fail
  refine (ringNew _).mono ?_; rintro e w2 ⟨rfl, hB2, c2⟩
  obtain ⟨B, hB⟩ : ∃ B, w1.heap.size = B := ⟨_, rfl⟩
  have hAB : A < B := by rw [← hB]; exact hA1.lt
  rw [hB] at hB2 ⊢
  have HB := Lib.hid hB
  clear hB
  have hA2 := hA1.keep c2 (by simp)
  have hc2 : Ch [] w w2 := c1.trans c2
  go_wp2_with fail
  rw [HKK.out, HMM.out]
  go_loopw [11] (fun s11 wr => ∃ i : Nat, s11 = .int .i64 i ∧ i ≤ k ∧ RingAt wr B 0 false (rng 1000 i) ∧ RingAt wr A 0 false [] ∧ Ch [] w wr) (fun s11 _ => k - (intOf s11).toNat)
  case atStart => exact ⟨0, rfl, by omega, hB2, hA2, hc2⟩
  case round =>
    clear hA1 hA2 hB2 hc2 c1 c2
    obtain ⟨i, rfl, hi, hB, hA, hc⟩ := hrel
    by_cases hlt : i < k
    · have hP := ringPutIn B 0 false (rng 1000 i) (1000 + (i : Int)) wr hB (by rw [rng_len]; omega)
      go_wp2_with fail
      refine hP.mono ?_; rintro e w2 ⟨v2, p2, rfl, h2, c2⟩
      go_wp2
      go_roundw
      case rel => exact ⟨i + 1, by go_num, by omega, by rw [rng_succ]; exact h2, hA.keep c2 (by simp; omega), hc.transT c2 (by intro q hq; simp at hq; subst hq; exact .inr (by have := HA.out; omega))⟩
      case measure => simp [intOf]; omega
    · obtain rfl : i = k := by omega
      clear hlt hi
      go_wp2_with fail
      refine (ringPutNew B 0 _ 5000 _ hB).mono ?_; rintro e w3 ⟨rfl, hB3, c3⟩
      have hA3 := hA.keep c3 (by simp; omega)
      have hc3 : Ch [] w w3 := hc.transT c3 (by intro q hq; simp at hq; subst hq; exact .inr (by have := HA.out; omega))
      clear c3 hB hA hc
      go_wp2_with fail
      go_loopw [12] (fun s12 wr => ∃ j : Nat, s12 = .int .i64 j ∧ j ≤ m ∧ RingAt wr A 0 false (rng 0 j) ∧ RingAt wr B 5000 true (rng 1000 i) ∧ Ch [] w wr) (fun s12 _ => m - (intOf s12).toNat)
      case atStart => exact ⟨0, rfl, by omega, hA3, hB3, hc3⟩
      case round =>
        clear hA3 hB3 hc3
        obtain ⟨j, rfl, hj, hA, hB, hc⟩ := hrel
        by_cases hlt : j < m
        · have hP := ringPutIn A 0 false (rng 0 j) (j : Int) wr hA (by rw [rng_len]; omega)
          go_wp2_with fail
          refine hP.mono ?_; rintro e w2 ⟨v2, p2, rfl, h2, c2⟩
          go_wp2
          go_roundw
          case rel => exact ⟨j + 1, by go_num, by omega, by rw [rng_zero]; exact h2, hB.keep c2 (by simp; omega), hc.transT c2 (by intro q hq; simp at hq; subst hq; exact .inr (by have := HA.out; omega))⟩
          case measure => simp [intOf]; omega
        · obtain rfl : j = m := by omega
          clear hlt hj
          have hS := HS.out A B wr hA hB (by omega)
          clear hA hB
          go_wp2_with fail
          refine hS.mono ?_; rintro e w3 ⟨rfl, hA3, hB3, c3⟩
          have hc3 : Ch [] w w3 := hc.transT c3 (by
            intro q hq
            simp at hq
            rcases hq with rfl | rfl
            · exact .inr (by have := HA.out; omega)
            · exact .inr (by have := HA.out; omega))
          clear hS c3 hc
          go_wp2_with fail
          refine (ringAllL A _ _ hA3).mono ?_; rintro e w4 ⟨v4, rfl, o4, c4⟩
          have hA4 := hA3.keep c4 (by simp)
          have hB4 := hB3.keep c4 (by simp)
          go_wp2_with fail
          refine (ringAllL B _ _ hB4).mono ?_; rintro e w5 ⟨v5, rfl, o5, c5⟩
          have o45 := o4.keep c5 (by simp)
          have hA5 := hA4.keep c5 (by simp)
          have hc5 : Ch [] w w5 := (hc3.trans c4).trans c5
          obtain ⟨x4, y4, rfl, _, _, r4⟩ := o45.form
          obtain ⟨x5, y5, rfl, _, _, r5⟩ := o5.form
          rw [HL1.out, HL2.out]
          clear c4 c5 o4 o45 o5 hA4 hB4 hA3 hB3 hc3
          go_wp2_with fail
          go_loopw [17] (fun s17 wr => ∃ z : Nat, s17 = .int .i64 z ∧ z ≤ K ∧ wr = w5) (fun s17 _ => K - (intOf s17).toNat)
          case atStart => exact ⟨0, rfl, by omega, rfl⟩
          case round =>
            obtain ⟨z, rfl, hz, rfl⟩ := hrel
            by_cases hlt : z < K
            · obtain ⟨ba, oa, rfl, hcell⟩ := r4.at (i := j + z) (by rw [HL1.out]; omega)
              have d1 := hcell (j + z) (by rw [HL1.out]; omega)
              rw [HCELL.out z hlt] at d1
              have b0 : (0 : Int) ≤ (j : Int) + (z : Int) := by omega
              clear hcell
              go_wp2_with fail
              go_roundw
              case rel => exact ⟨z + 1, by go_num, by omega, by first | rfl | trivial⟩
              case measure => simp [intOf]; omega
            · obtain rfl : z = K := by omega
              clear hlt hz
              obtain ⟨b5, o5', rfl, hcell5⟩ := r5.at (i := 0) (by rw [HL2.out]; omega)
              have d5 := hcell5 0 (by rw [HL2.out]; omega)
              rw [show gI (ringList 5000 true ((rng 1000 i).drop z)) 0 = 5000 from rfl, Nat.add_zero] at d5
              clear hcell5
              go_wp2_with fail
              refine (told10 _).mono ?_; rintro e w6 ⟨rfl, c6⟩
              go_wp2_with fail
              refine (ringStealSelf A _).mono ?_; rintro e w7 ⟨rfl, rfl⟩
              go_wp2_with fail
              refine (ringStealNil A _).mono ?_; rintro e w8 ⟨rfl, rfl⟩
              go_wp2
              go_ret
              exact ⟨rfl, (hc5.trans c6).below (Nat.le_refl _) (by simp)⟩

set_option maxRecDepth 100000 in
set_option maxHeartbeats 4000000 in
theorem steals_Afv (a0 a1 : Int) (k m : Nat) (hk : wrap64 ((IntKind.u64.wrap a0).tmod 257) = k) (hm : wrap64 ((IntKind.u64.wrap a1).tmod 257) = m) (hk1 : k ≤ 256) (hm1 : m ≤ 256) (K : Nat) (hkp : 0 < k) (hcase : K = min ((k + 1) / 2) (256 - m) ∧ 256 - m < (k + 1) / 2) (w : World) :
    Calls Try.prog 5 #[.int .i64 a0, .int .i64 a1, .bool false] w fun e w' => e = .returned (.bool true) ∧ Below w.heap.size w w' := by
  have HKK := Lib.hid hk
  have HMM := Lib.hid hm
  obtain ⟨q, hq⟩ : ∃ q : Nat, q = (k + 1) / 2 := ⟨_, rfl⟩
  obtain ⟨v, hv⟩ : ∃ v : Nat, v = 256 - m := ⟨_, rfl⟩
  have f1 : ((k : Int) == 0) = false := by rw [beq_eq_false_iff_ne]; omega
  have f2 : (0 : Int) < k := by omega
  have e1 : ((k : Int) + 1) / 2 = (q : Int) := by omega
  have e2 : IntKind.i64.wrap (256 - (m : Int)) = (v : Int) := by rw [IntWalk.i64_in _ (by omega)]; omega
  have e3 : (256 : Int) - (m : Int) = (v : Int) := by omega
  have hK1 : K ≤ k := by omega
  have e4 : IntKind.i64.wrap ((k : Int) - (K : Int)) = ((k - K : Nat) : Int) := by rw [IntWalk.i64_in _ (by omega)]; omega
  have e5 : (k : Int) - (K : Int) = ((k - K : Nat) : Int) := by omega
  have hS : ∀ (A B : Nat) (wr : World), RingAt wr A 0 false (rng 0 m) → RingAt wr B 0 false (rng 1000 k) → A ≠ B → Calls Try.prog 23 #[.pointer (some ⟨A, 0, none⟩), .pointer (some ⟨B, 0, none⟩)] wr fun e w' =>
      e = .returned (.int .i64 K) ∧ RingL w' A (rng 0 m ++ rng 1000 K) ∧ RingL w' B (ringList 0 false ((rng 1000 k).drop K)) ∧ Ch [A, B] wr w' := fun A B wr h1 h2 h3 => by
    refine (ringStealHalf A B 0 0 false false (rng 0 m) (rng 1000 k) K wr h1 h2 h3 (fun e => by have := congrArg List.length e; rw [rng_len] at this; simp at this; omega) (by rw [rng_len, rng_len]; omega)).mono ?_
    rintro e w' ⟨rfl, h4, h5, h6⟩
    rw [rng_take _ _ _ hK1] at h4
    exact ⟨rfl, ⟨0, false, _, h4, rfl⟩, ⟨_, _, _, h5, rfl⟩, h6⟩
  have hL1 : (rng 0 m ++ rng 1000 K).length = m + K := by rw [List.length_append, rng_len, rng_len]
  have hL2 : (ringList 0 false ((rng 1000 k).drop K)).length = k - K := by simp [ringList, rng_len]
  have hcell : ∀ z, z < K → gI (rng 0 m ++ rng 1000 K) (m + z) = 1000 + (z : Int) := fun z hz => by rw [gI_snd _ _ _ _ (rng_len 0 m), gI_rng _ _ _ hz]
  have hmin : (v : Int) < (q : Int) := by omega
  obtain rfl : K = v := by omega
  have HS := Lib.hid hS
  have HL1 := Lib.hid hL1
  have HL2 := Lib.hid hL2
  have HCELL := Lib.hid hcell
  clear hk hm hS hL1 hL2 hcell hq hv hkp hcase
  go_enter Try.func5, Try.ntmps5
  go_wp2_with fail
  refine (ringNew _).mono ?_; rintro e w1 ⟨rfl, hA1, c1⟩
  obtain ⟨A, hA⟩ : ∃ A, w.heap.size = A := ⟨_, rfl⟩
  rw [hA] at hA1 ⊢
  have HA := Lib.hid hA
  clear hA
  go_wp2_with fail
  refine (ringNew _).mono ?_; rintro e w2 ⟨rfl, hB2, c2⟩
  obtain ⟨B, hB⟩ : ∃ B, w1.heap.size = B := ⟨_, rfl⟩
  have hAB : A < B := by rw [← hB]; exact hA1.lt
  rw [hB] at hB2 ⊢
  have HB := Lib.hid hB
  clear hB
  have hA2 := hA1.keep c2 (by simp)
  have hc2 : Ch [] w w2 := c1.trans c2
  go_wp2_with fail
  rw [HKK.out, HMM.out]
  go_loopw [11] (fun s11 wr => ∃ i : Nat, s11 = .int .i64 i ∧ i ≤ k ∧ RingAt wr B 0 false (rng 1000 i) ∧ RingAt wr A 0 false [] ∧ Ch [] w wr) (fun s11 _ => k - (intOf s11).toNat)
  case atStart => exact ⟨0, rfl, by omega, hB2, hA2, hc2⟩
  case round =>
    clear hA1 hA2 hB2 hc2 c1 c2
    obtain ⟨i, rfl, hi, hB, hA, hc⟩ := hrel
    by_cases hlt : i < k
    · have hP := ringPutIn B 0 false (rng 1000 i) (1000 + (i : Int)) wr hB (by rw [rng_len]; omega)
      go_wp2_with fail
      refine hP.mono ?_; rintro e w2 ⟨v2, p2, rfl, h2, c2⟩
      go_wp2
      go_roundw
      case rel => exact ⟨i + 1, by go_num, by omega, by rw [rng_succ]; exact h2, hA.keep c2 (by simp; omega), hc.transT c2 (by intro q hq; simp at hq; subst hq; exact .inr (by have := HA.out; omega))⟩
      case measure => simp [intOf]; omega
    · obtain rfl : i = k := by omega
      clear hlt hi
      have hB3 := hB
      have hA3 := hA
      have hc3 := hc
      clear hB hA hc
      go_wp2_with fail
      go_loopw [12] (fun s12 wr => ∃ j : Nat, s12 = .int .i64 j ∧ j ≤ m ∧ RingAt wr A 0 false (rng 0 j) ∧ RingAt wr B 0 false (rng 1000 i) ∧ Ch [] w wr) (fun s12 _ => m - (intOf s12).toNat)
      case atStart => exact ⟨0, rfl, by omega, hA3, hB3, hc3⟩
      case round =>
        clear hA3 hB3 hc3
        obtain ⟨j, rfl, hj, hA, hB, hc⟩ := hrel
        by_cases hlt : j < m
        · have hP := ringPutIn A 0 false (rng 0 j) (j : Int) wr hA (by rw [rng_len]; omega)
          go_wp2_with fail
          refine hP.mono ?_; rintro e w2 ⟨v2, p2, rfl, h2, c2⟩
          go_wp2
          go_roundw
          case rel => exact ⟨j + 1, by go_num, by omega, by rw [rng_zero]; exact h2, hB.keep c2 (by simp; omega), hc.transT c2 (by intro q hq; simp at hq; subst hq; exact .inr (by have := HA.out; omega))⟩
          case measure => simp [intOf]; omega
        · obtain rfl : j = m := by omega
          clear hlt hj
          have hS := HS.out A B wr hA hB (by omega)
          clear hA hB
          go_wp2_with fail
          refine hS.mono ?_; rintro e w3 ⟨rfl, hA3, hB3, c3⟩
          have hc3 : Ch [] w w3 := hc.transT c3 (by
            intro q hq
            simp at hq
            rcases hq with rfl | rfl
            · exact .inr (by have := HA.out; omega)
            · exact .inr (by have := HA.out; omega))
          clear hS c3 hc
          go_wp2_with fail
          refine (ringAllL A _ _ hA3).mono ?_; rintro e w4 ⟨v4, rfl, o4, c4⟩
          have hA4 := hA3.keep c4 (by simp)
          have hB4 := hB3.keep c4 (by simp)
          go_wp2_with fail
          refine (ringAllL B _ _ hB4).mono ?_; rintro e w5 ⟨v5, rfl, o5, c5⟩
          have o45 := o4.keep c5 (by simp)
          have hA5 := hA4.keep c5 (by simp)
          have hc5 : Ch [] w w5 := (hc3.trans c4).trans c5
          obtain ⟨x4, y4, rfl, _, _, r4⟩ := o45.form
          obtain ⟨x5, y5, rfl, _, _, r5⟩ := o5.form
          rw [HL1.out, HL2.out]
          clear c4 c5 o4 o45 o5 hA4 hB4 hA3 hB3 hc3
          go_wp2_with fail
          go_loopw [17] (fun s17 wr => ∃ z : Nat, s17 = .int .i64 z ∧ z ≤ K ∧ wr = w5) (fun s17 _ => K - (intOf s17).toNat)
          case atStart => exact ⟨0, rfl, by omega, rfl⟩
          case round =>
            obtain ⟨z, rfl, hz, rfl⟩ := hrel
            by_cases hlt : z < K
            · obtain ⟨ba, oa, rfl, hcell⟩ := r4.at (i := j + z) (by rw [HL1.out]; omega)
              have d1 := hcell (j + z) (by rw [HL1.out]; omega)
              rw [HCELL.out z hlt] at d1
              have b0 : (0 : Int) ≤ (j : Int) + (z : Int) := by omega
              clear hcell
              go_wp2_with fail
              go_roundw
              case rel => exact ⟨z + 1, by go_num, by omega, by first | rfl | trivial⟩
              case measure => simp [intOf]; omega
            · obtain rfl : z = K := by omega
              clear hlt hz
              go_wp2_with fail
              refine (told10 _).mono ?_; rintro e w6 ⟨rfl, c6⟩
              go_wp2_with fail
              refine (ringStealSelf A _).mono ?_; rintro e w7 ⟨rfl, rfl⟩
              go_wp2_with fail
              refine (ringStealNil A _).mono ?_; rintro e w8 ⟨rfl, rfl⟩
              go_wp2
              go_ret
              exact ⟨rfl, (hc5.trans c6).below (Nat.le_refl _) (by simp)⟩

set_option maxRecDepth 100000 in
set_option maxHeartbeats 4000000 in
theorem steals_Afq (a0 a1 : Int) (k m : Nat) (hk : wrap64 ((IntKind.u64.wrap a0).tmod 257) = k) (hm : wrap64 ((IntKind.u64.wrap a1).tmod 257) = m) (hk1 : k ≤ 256) (hm1 : m ≤ 256) (K : Nat) (hkp : 0 < k) (hcase : K = min ((k + 1) / 2) (256 - m) ∧ ¬ 256 - m < (k + 1) / 2) (w : World) :
    Calls Try.prog 5 #[.int .i64 a0, .int .i64 a1, .bool false] w fun e w' => e = .returned (.bool true) ∧ Below w.heap.size w w' := by
  have HKK := Lib.hid hk
  have HMM := Lib.hid hm
  obtain ⟨q, hq⟩ : ∃ q : Nat, q = (k + 1) / 2 := ⟨_, rfl⟩
  obtain ⟨v, hv⟩ : ∃ v : Nat, v = 256 - m := ⟨_, rfl⟩
  have f1 : ((k : Int) == 0) = false := by rw [beq_eq_false_iff_ne]; omega
  have f2 : (0 : Int) < k := by omega
  have e1 : ((k : Int) + 1) / 2 = (q : Int) := by omega
  have e2 : IntKind.i64.wrap (256 - (m : Int)) = (v : Int) := by rw [IntWalk.i64_in _ (by omega)]; omega
  have e3 : (256 : Int) - (m : Int) = (v : Int) := by omega
  have hK1 : K ≤ k := by omega
  have e4 : IntKind.i64.wrap ((k : Int) - (K : Int)) = ((k - K : Nat) : Int) := by rw [IntWalk.i64_in _ (by omega)]; omega
  have e5 : (k : Int) - (K : Int) = ((k - K : Nat) : Int) := by omega
  have hS : ∀ (A B : Nat) (wr : World), RingAt wr A 0 false (rng 0 m) → RingAt wr B 0 false (rng 1000 k) → A ≠ B → Calls Try.prog 23 #[.pointer (some ⟨A, 0, none⟩), .pointer (some ⟨B, 0, none⟩)] wr fun e w' =>
      e = .returned (.int .i64 K) ∧ RingL w' A (rng 0 m ++ rng 1000 K) ∧ RingL w' B (ringList 0 false ((rng 1000 k).drop K)) ∧ Ch [A, B] wr w' := fun A B wr h1 h2 h3 => by
    refine (ringStealHalf A B 0 0 false false (rng 0 m) (rng 1000 k) K wr h1 h2 h3 (fun e => by have := congrArg List.length e; rw [rng_len] at this; simp at this; omega) (by rw [rng_len, rng_len]; omega)).mono ?_
    rintro e w' ⟨rfl, h4, h5, h6⟩
    rw [rng_take _ _ _ hK1] at h4
    exact ⟨rfl, ⟨0, false, _, h4, rfl⟩, ⟨_, _, _, h5, rfl⟩, h6⟩
  have hL1 : (rng 0 m ++ rng 1000 K).length = m + K := by rw [List.length_append, rng_len, rng_len]
  have hL2 : (ringList 0 false ((rng 1000 k).drop K)).length = k - K := by simp [ringList, rng_len]
  have hcell : ∀ z, z < K → gI (rng 0 m ++ rng 1000 K) (m + z) = 1000 + (z : Int) := fun z hz => by rw [gI_snd _ _ _ _ (rng_len 0 m), gI_rng _ _ _ hz]
  have hmin : ¬ (v : Int) < (q : Int) := by omega
  obtain rfl : K = q := by omega
  have HS := Lib.hid hS
  have HL1 := Lib.hid hL1
  have HL2 := Lib.hid hL2
  have HCELL := Lib.hid hcell
  clear hk hm hS hL1 hL2 hcell hq hv hkp hcase
  go_enter Try.func5, Try.ntmps5
  go_wp2_with fail
  refine (ringNew _).mono ?_; rintro e w1 ⟨rfl, hA1, c1⟩
  obtain ⟨A, hA⟩ : ∃ A, w.heap.size = A := ⟨_, rfl⟩
  rw [hA] at hA1 ⊢
  have HA := Lib.hid hA
  clear hA
  go_wp2_with fail
  refine (ringNew _).mono ?_; rintro e w2 ⟨rfl, hB2, c2⟩
  obtain ⟨B, hB⟩ : ∃ B, w1.heap.size = B := ⟨_, rfl⟩
  have hAB : A < B := by rw [← hB]; exact hA1.lt
  rw [hB] at hB2 ⊢
  have HB := Lib.hid hB
  clear hB
  have hA2 := hA1.keep c2 (by simp)
  have hc2 : Ch [] w w2 := c1.trans c2
  go_wp2_with fail
  rw [HKK.out, HMM.out]
  go_loopw [11] (fun s11 wr => ∃ i : Nat, s11 = .int .i64 i ∧ i ≤ k ∧ RingAt wr B 0 false (rng 1000 i) ∧ RingAt wr A 0 false [] ∧ Ch [] w wr) (fun s11 _ => k - (intOf s11).toNat)
  case atStart => exact ⟨0, rfl, by omega, hB2, hA2, hc2⟩
  case round =>
    clear hA1 hA2 hB2 hc2 c1 c2
    obtain ⟨i, rfl, hi, hB, hA, hc⟩ := hrel
    by_cases hlt : i < k
    · have hP := ringPutIn B 0 false (rng 1000 i) (1000 + (i : Int)) wr hB (by rw [rng_len]; omega)
      go_wp2_with fail
      refine hP.mono ?_; rintro e w2 ⟨v2, p2, rfl, h2, c2⟩
      go_wp2
      go_roundw
      case rel => exact ⟨i + 1, by go_num, by omega, by rw [rng_succ]; exact h2, hA.keep c2 (by simp; omega), hc.transT c2 (by intro q hq; simp at hq; subst hq; exact .inr (by have := HA.out; omega))⟩
      case measure => simp [intOf]; omega
    · obtain rfl : i = k := by omega
      clear hlt hi
      have hB3 := hB
      have hA3 := hA
      have hc3 := hc
      clear hB hA hc
      go_wp2_with fail
      go_loopw [12] (fun s12 wr => ∃ j : Nat, s12 = .int .i64 j ∧ j ≤ m ∧ RingAt wr A 0 false (rng 0 j) ∧ RingAt wr B 0 false (rng 1000 i) ∧ Ch [] w wr) (fun s12 _ => m - (intOf s12).toNat)
      case atStart => exact ⟨0, rfl, by omega, hA3, hB3, hc3⟩
      case round =>
        clear hA3 hB3 hc3
        obtain ⟨j, rfl, hj, hA, hB, hc⟩ := hrel
        by_cases hlt : j < m
        · have hP := ringPutIn A 0 false (rng 0 j) (j : Int) wr hA (by rw [rng_len]; omega)
          go_wp2_with fail
          refine hP.mono ?_; rintro e w2 ⟨v2, p2, rfl, h2, c2⟩
          go_wp2
          go_roundw
          case rel => exact ⟨j + 1, by go_num, by omega, by rw [rng_zero]; exact h2, hB.keep c2 (by simp; omega), hc.transT c2 (by intro q hq; simp at hq; subst hq; exact .inr (by have := HA.out; omega))⟩
          case measure => simp [intOf]; omega
        · obtain rfl : j = m := by omega
          clear hlt hj
          have hS := HS.out A B wr hA hB (by omega)
          clear hA hB
          go_wp2_with fail
          refine hS.mono ?_; rintro e w3 ⟨rfl, hA3, hB3, c3⟩
          have hc3 : Ch [] w w3 := hc.transT c3 (by
            intro q hq
            simp at hq
            rcases hq with rfl | rfl
            · exact .inr (by have := HA.out; omega)
            · exact .inr (by have := HA.out; omega))
          clear hS c3 hc
          go_wp2_with fail
          refine (ringAllL A _ _ hA3).mono ?_; rintro e w4 ⟨v4, rfl, o4, c4⟩
          have hA4 := hA3.keep c4 (by simp)
          have hB4 := hB3.keep c4 (by simp)
          go_wp2_with fail
          refine (ringAllL B _ _ hB4).mono ?_; rintro e w5 ⟨v5, rfl, o5, c5⟩
          have o45 := o4.keep c5 (by simp)
          have hA5 := hA4.keep c5 (by simp)
          have hc5 : Ch [] w w5 := (hc3.trans c4).trans c5
          obtain ⟨x4, y4, rfl, _, _, r4⟩ := o45.form
          obtain ⟨x5, y5, rfl, _, _, r5⟩ := o5.form
          rw [HL1.out, HL2.out]
          clear c4 c5 o4 o45 o5 hA4 hB4 hA3 hB3 hc3
          go_wp2_with fail
          go_loopw [17] (fun s17 wr => ∃ z : Nat, s17 = .int .i64 z ∧ z ≤ K ∧ wr = w5) (fun s17 _ => K - (intOf s17).toNat)
          case atStart => exact ⟨0, rfl, by omega, rfl⟩
          case round =>
            obtain ⟨z, rfl, hz, rfl⟩ := hrel
            by_cases hlt : z < K
            · obtain ⟨ba, oa, rfl, hcell⟩ := r4.at (i := j + z) (by rw [HL1.out]; omega)
              have d1 := hcell (j + z) (by rw [HL1.out]; omega)
              rw [HCELL.out z hlt] at d1
              have b0 : (0 : Int) ≤ (j : Int) + (z : Int) := by omega
              clear hcell
              go_wp2_with fail
              go_roundw
              case rel => exact ⟨z + 1, by go_num, by omega, by first | rfl | trivial⟩
              case measure => simp [intOf]; omega
            · obtain rfl : z = K := by omega
              clear hlt hz
              go_wp2_with fail
              refine (told10 _).mono ?_; rintro e w6 ⟨rfl, c6⟩
              go_wp2_with fail
              refine (ringStealSelf A _).mono ?_; rintro e w7 ⟨rfl, rfl⟩
              go_wp2_with fail
              refine (ringStealNil A _).mono ?_; rintro e w8 ⟨rfl, rfl⟩
              go_wp2
              go_ret
              exact ⟨rfl, (hc5.trans c6).below (Nat.le_refl _) (by simp)⟩

set_option maxRecDepth 100000 in
set_option maxHeartbeats 4000000 in
theorem steals_C2 (a0 a1 : Int) (k m : Nat) (hk : wrap64 ((IntKind.u64.wrap a0).tmod 257) = k) (hm : wrap64 ((IntKind.u64.wrap a1).tmod 257) = m) (hk1 : k ≤ 256) (hm1 : m ≤ 256) (hk0 : k = 0) (hm3 : m < 256) (w : World) :
    Calls Try.prog 5 #[.int .i64 a0, .int .i64 a1, .bool true] w fun e w' => e = .returned (.bool true) ∧ Below w.heap.size w w' := by
  have HKK := Lib.hid hk
  have HMM := Lib.hid hm
  obtain ⟨q, hq⟩ : ∃ q : Nat, q = (k + 1) / 2 := ⟨_, rfl⟩
  obtain ⟨v, hv⟩ : ∃ v : Nat, v = 256 - m := ⟨_, rfl⟩
  have f1 : ((k : Int) == 0) = true := by rw [beq_iff_eq]; omega
  have f2 : ¬ (0 : Int) < k := by omega
  have e1 : ((k : Int) + 1) / 2 = (q : Int) := by omega
  have e2 : IntKind.i64.wrap (256 - (m : Int)) = (v : Int) := by rw [IntWalk.i64_in _ (by omega)]; omega
  have e3 : (256 : Int) - (m : Int) = (v : Int) := by omega
  have hmin : ¬ (v : Int) < (q : Int) := by omega
  have g1 : ((q : Int) == 0) = true := by rw [beq_iff_eq]; omega
  have hq0 : q = 0 := by omega
  have hx0 : rng 1000 k = [] := by rw [show k = 0 by omega]; rfl
  have hS : ∀ (A B : Nat) (wr : World), RingAt wr A 0 false (rng 0 m) → RingAt wr B 5000 true (rng 1000 k) → A ≠ B → Calls Try.prog 23 #[.pointer (some ⟨A, 0, none⟩), .pointer (some ⟨B, 0, none⟩)] wr fun e w' =>
      e = .returned (.int .i64 (1 : Int)) ∧ RingL w' A (rng 0 m ++ [5000]) ∧ RingL w' B ([] : List Int) ∧ Ch [A, B] wr w' := fun A B wr h1 h2 h3 => by
    rw [hx0] at h2
    refine (ringStealOne A B 0 5000 false (rng 0 m) wr h1 h2 h3 (by rw [rng_len]; exact hm3)).mono ?_
    rintro e w' ⟨rfl, h4, h5, h6⟩
    exact ⟨rfl, ⟨0, false, _, h4, rfl⟩, ⟨_, _, _, h5, rfl⟩, h6⟩
  have hL1 : (rng 0 m ++ [5000]).length = m + 1 := by rw [List.length_append, rng_len]; rfl
  have hcell : ∀ z, z < 1 → gI (rng 0 m ++ [5000]) (m + z) = 5000 := fun z hz => by rw [gI_snd _ _ _ _ (rng_len 0 m), show z = 0 by omega]; rfl
  have f3 : (m : Int) < 256 := by omega
  have hL2 : ([] : List Int).length = 0 := rfl
  have HS := Lib.hid hS
  have HL1 := Lib.hid hL1
  have HL2 := Lib.hid hL2
  have HCELL := Lib.hid hcell
  have HQ0 := Lib.hid hq0
  clear hk hm hS hL1 hL2 hcell hq hv hk0 hq0 hx0 hm3
  go_enter Try.func5, Try.ntmps5
  go_wp2_with fail
  refine (ringNew _).mono ?_; rintro e w1 ⟨rfl, hA1, c1⟩
  obtain ⟨A, hA⟩ : ∃ A, w.heap.size = A := ⟨_, rfl⟩
  rw [hA] at hA1 ⊢
  have HA := Lib.hid hA
  clear hA
  go_wp2_with fail
  refine (ringNew _).mono ?_; rintro e w2 ⟨rfl, hB2, c2⟩
  obtain ⟨B, hB⟩ : ∃ B, w1.heap.size = B := ⟨_, rfl⟩
  have hAB : A < B := by rw [← hB]; exact hA1.lt
  rw [hB] at hB2 ⊢
  have HB := Lib.hid hB
  clear hB
  have hA2 := hA1.keep c2 (by simp)
  have hc2 : Ch [] w w2 := c1.trans c2
  go_wp2_with fail
  rw [HKK.out, HMM.out]
  go_loopw [11] (fun s11 wr => ∃ i : Nat, s11 = .int .i64 i ∧ i ≤ k ∧ RingAt wr B 0 false (rng 1000 i) ∧ RingAt wr A 0 false [] ∧ Ch [] w wr) (fun s11 _ => k - (intOf s11).toNat)
  case atStart => exact ⟨0, rfl, by omega, hB2, hA2, hc2⟩
  case round =>
    clear hA1 hA2 hB2 hc2 c1 c2
    obtain ⟨i, rfl, hi, hB, hA, hc⟩ := hrel
    by_cases hlt : i < k
    · have hP := ringPutIn B 0 false (rng 1000 i) (1000 + (i : Int)) wr hB (by rw [rng_len]; omega)
      go_wp2_with fail
      refine hP.mono ?_; rintro e w2 ⟨v2, p2, rfl, h2, c2⟩
      go_wp2
      go_roundw
      case rel => exact ⟨i + 1, by go_num, by omega, by rw [rng_succ]; exact h2, hA.keep c2 (by simp; omega), hc.transT c2 (by intro q hq; simp at hq; subst hq; exact .inr (by have := HA.out; omega))⟩
      case measure => simp [intOf]; omega
    · obtain rfl : i = k := by omega
      clear hlt hi
      go_wp2_with fail
      refine (ringPutNew B 0 _ 5000 _ hB).mono ?_; rintro e w3 ⟨rfl, hB3, c3⟩
      have hA3 := hA.keep c3 (by simp; omega)
      have hc3 : Ch [] w w3 := hc.transT c3 (by intro q hq; simp at hq; subst hq; exact .inr (by have := HA.out; omega))
      clear c3 hB hA hc
      go_wp2_with fail
      go_loopw [12] (fun s12 wr => ∃ j : Nat, s12 = .int .i64 j ∧ j ≤ m ∧ RingAt wr A 0 false (rng 0 j) ∧ RingAt wr B 5000 true (rng 1000 i) ∧ Ch [] w wr) (fun s12 _ => m - (intOf s12).toNat)
      case atStart => exact ⟨0, rfl, by omega, hA3, hB3, hc3⟩
      case round =>
        clear hA3 hB3 hc3
        obtain ⟨j, rfl, hj, hA, hB, hc⟩ := hrel
        by_cases hlt : j < m
        · have hP := ringPutIn A 0 false (rng 0 j) (j : Int) wr hA (by rw [rng_len]; omega)
          go_wp2_with fail
          refine hP.mono ?_; rintro e w2 ⟨v2, p2, rfl, h2, c2⟩
          go_wp2
          go_roundw
          case rel => exact ⟨j + 1, by go_num, by omega, by rw [rng_zero]; exact h2, hB.keep c2 (by simp; omega), hc.transT c2 (by intro q hq; simp at hq; subst hq; exact .inr (by have := HA.out; omega))⟩
          case measure => simp [intOf]; omega
        · obtain rfl : j = m := by omega
          clear hlt hj
          have hS := HS.out A B wr hA hB (by omega)
          clear hA hB
          go_wp2_with fail
          refine hS.mono ?_; rintro e w3 ⟨rfl, hA3, hB3, c3⟩
          have hc3 : Ch [] w w3 := hc.transT c3 (by
            intro q hq
            simp at hq
            rcases hq with rfl | rfl
            · exact .inr (by have := HA.out; omega)
            · exact .inr (by have := HA.out; omega))
          clear hS c3 hc
          go_wp2_with fail
          refine (ringAllL A _ _ hA3).mono ?_; rintro e w4 ⟨v4, rfl, o4, c4⟩
          have hA4 := hA3.keep c4 (by simp)
          have hB4 := hB3.keep c4 (by simp)
          go_wp2_with fail
          refine (ringAllL B _ _ hB4).mono ?_; rintro e w5 ⟨v5, rfl, o5, c5⟩
          have o45 := o4.keep c5 (by simp)
          have hA5 := hA4.keep c5 (by simp)
          have hc5 : Ch [] w w5 := (hc3.trans c4).trans c5
          obtain ⟨x4, y4, rfl, _, _, r4⟩ := o45.form
          obtain ⟨x5, y5, rfl, _, _, r5⟩ := o5.form
          rw [HL1.out, HL2.out]
          clear c4 c5 o4 o45 o5 hA4 hB4 hA3 hB3 hc3
          go_wp2_with fail
          go_loopw [17] (fun s17 wr => ∃ z : Nat, s17 = .int .i64 z ∧ z ≤ 1 ∧ wr = w5) (fun s17 _ => 1 - (intOf s17).toNat)
          case atStart => exact ⟨0, rfl, by omega, rfl⟩
          case round =>
            obtain ⟨z, rfl, hz, rfl⟩ := hrel
            by_cases hlt : z < 1
            · obtain ⟨ba, oa, rfl, hcell⟩ := r4.at (i := j + z) (by rw [HL1.out]; omega)
              have d1 := hcell (j + z) (by rw [HL1.out]; omega)
              rw [HCELL.out z hlt] at d1
              have b0 : (0 : Int) ≤ (j : Int) + (z : Int) := by omega
              clear hcell
              go_wp2_with fail
              go_roundw
              case rel => exact ⟨z + 1, by go_num, by omega, by first | rfl | trivial⟩
              case measure => simp [intOf]; omega
            · obtain rfl : z = 1 := by omega
              clear hlt hz
              go_wp2_with fail
              refine (told10 _).mono ?_; rintro e w6 ⟨rfl, c6⟩
              go_wp2_with fail
              refine (ringStealSelf A _).mono ?_; rintro e w7 ⟨rfl, rfl⟩
              go_wp2_with fail
              refine (ringStealNil A _).mono ?_; rintro e w8 ⟨rfl, rfl⟩
              go_wp2
              go_ret
              exact ⟨rfl, (hc5.trans c6).below (Nat.le_refl _) (by simp)⟩

set_option maxRecDepth 100000 in
set_option maxHeartbeats 4000000 in
theorem steals_C3 (a0 a1 : Int) (k m : Nat) (hk : wrap64 ((IntKind.u64.wrap a0).tmod 257) = k) (hm : wrap64 ((IntKind.u64.wrap a1).tmod 257) = m) (hk1 : k ≤ 256) (hm1 : m ≤ 256) (hk0 : k = 0) (hm3 : m = 256) (w : World) :
    Calls Try.prog 5 #[.int .i64 a0, .int .i64 a1, .bool true] w fun e w' => e = .returned (.bool true) ∧ Below w.heap.size w w' := by
  have HKK := Lib.hid hk
  have HMM := Lib.hid hm
  obtain ⟨q, hq⟩ : ∃ q : Nat, q = (k + 1) / 2 := ⟨_, rfl⟩
  obtain ⟨v, hv⟩ : ∃ v : Nat, v = 256 - m := ⟨_, rfl⟩
  have f1 : ((k : Int) == 0) = true := by rw [beq_iff_eq]; omega
  have f2 : ¬ (0 : Int) < k := by omega
  have e1 : ((k : Int) + 1) / 2 = (q : Int) := by omega
  have e2 : IntKind.i64.wrap (256 - (m : Int)) = (v : Int) := by rw [IntWalk.i64_in _ (by omega)]; omega
  have e3 : (256 : Int) - (m : Int) = (v : Int) := by omega
  have hmin : ¬ (v : Int) < (q : Int) := by omega
  have g1 : ((q : Int) == 0) = true := by rw [beq_iff_eq]; omega
  have hq0 : q = 0 := by omega
  have hx0 : rng 1000 k = [] := by rw [show k = 0 by omega]; rfl
  have hS : ∀ (A B : Nat) (wr : World), RingAt wr A 0 false (rng 0 m) → RingAt wr B 5000 true (rng 1000 k) → A ≠ B → Calls Try.prog 23 #[.pointer (some ⟨A, 0, none⟩), .pointer (some ⟨B, 0, none⟩)] wr fun e w' =>
      e = .returned (.int .i64 (q : Nat)) ∧ RingL w' A (rng 0 m) ∧ RingL w' B ([5000] : List Int) ∧ Ch [A, B] wr w' := fun A B wr h1 h2 h3 => by
    rw [hx0] at h2
    refine (ringStealNone A B 0 5000 false true (rng 0 m) wr h1 h2 h3 (.inr (by rw [rng_len]; exact hm3))).mono ?_
    rintro e w' ⟨rfl, nq, rfl⟩
    exact ⟨by rw [hq0]; rfl, ⟨0, false, _, h1.keep ((Ch.refl [] wr).drewN nq) (by simp), rfl⟩, ⟨_, _, _, h2.keep ((Ch.refl [] wr).drewN nq) (by simp), rfl⟩, (Ch.refl _ _).drewN nq⟩
  have hL1 : (rng 0 m).length = m + q := by rw [rng_len, hq0]; rfl
  have hcell : ∀ z, z < q → gI (rng 0 m) (m + z) = 5000 := fun z hz => by omega
  have f3 : ¬ (m : Int) < 256 := by omega
  have hL2 : ([5000] : List Int).length = 1 := rfl
  have HS := Lib.hid hS
  have HL1 := Lib.hid hL1
  have HL2 := Lib.hid hL2
  have HCELL := Lib.hid hcell
  have HQ0 := Lib.hid hq0
  clear hk hm hS hL1 hL2 hcell hq hv hk0 hq0 hx0 hm3
  go_enter Try.func5, Try.ntmps5
  go_wp2_with fail
  refine (ringNew _).mono ?_; rintro e w1 ⟨rfl, hA1, c1⟩
  obtain ⟨A, hA⟩ : ∃ A, w.heap.size = A := ⟨_, rfl⟩
  rw [hA] at hA1 ⊢
  have HA := Lib.hid hA
  clear hA
  go_wp2_with fail
  refine (ringNew _).mono ?_; rintro e w2 ⟨rfl, hB2, c2⟩
  obtain ⟨B, hB⟩ : ∃ B, w1.heap.size = B := ⟨_, rfl⟩
  have hAB : A < B := by rw [← hB]; exact hA1.lt
  rw [hB] at hB2 ⊢
  have HB := Lib.hid hB
  clear hB
  have hA2 := hA1.keep c2 (by simp)
  have hc2 : Ch [] w w2 := c1.trans c2
  go_wp2_with fail
  rw [HKK.out, HMM.out]
  go_loopw [11] (fun s11 wr => ∃ i : Nat, s11 = .int .i64 i ∧ i ≤ k ∧ RingAt wr B 0 false (rng 1000 i) ∧ RingAt wr A 0 false [] ∧ Ch [] w wr) (fun s11 _ => k - (intOf s11).toNat)
  case atStart => exact ⟨0, rfl, by omega, hB2, hA2, hc2⟩
  case round =>
    clear hA1 hA2 hB2 hc2 c1 c2
    obtain ⟨i, rfl, hi, hB, hA, hc⟩ := hrel
    by_cases hlt : i < k
    · have hP := ringPutIn B 0 false (rng 1000 i) (1000 + (i : Int)) wr hB (by rw [rng_len]; omega)
      go_wp2_with fail
      refine hP.mono ?_; rintro e w2 ⟨v2, p2, rfl, h2, c2⟩
      go_wp2
      go_roundw
      case rel => exact ⟨i + 1, by go_num, by omega, by rw [rng_succ]; exact h2, hA.keep c2 (by simp; omega), hc.transT c2 (by intro q hq; simp at hq; subst hq; exact .inr (by have := HA.out; omega))⟩
      case measure => simp [intOf]; omega
    · obtain rfl : i = k := by omega
      clear hlt hi
      go_wp2_with fail
      refine (ringPutNew B 0 _ 5000 _ hB).mono ?_; rintro e w3 ⟨rfl, hB3, c3⟩
      have hA3 := hA.keep c3 (by simp; omega)
      have hc3 : Ch [] w w3 := hc.transT c3 (by intro q hq; simp at hq; subst hq; exact .inr (by have := HA.out; omega))
      clear c3 hB hA hc
      go_wp2_with fail
      go_loopw [12] (fun s12 wr => ∃ j : Nat, s12 = .int .i64 j ∧ j ≤ m ∧ RingAt wr A 0 false (rng 0 j) ∧ RingAt wr B 5000 true (rng 1000 i) ∧ Ch [] w wr) (fun s12 _ => m - (intOf s12).toNat)
      case atStart => exact ⟨0, rfl, by omega, hA3, hB3, hc3⟩
      case round =>
        clear hA3 hB3 hc3
        obtain ⟨j, rfl, hj, hA, hB, hc⟩ := hrel
        by_cases hlt : j < m
        · have hP := ringPutIn A 0 false (rng 0 j) (j : Int) wr hA (by rw [rng_len]; omega)
          go_wp2_with fail
          refine hP.mono ?_; rintro e w2 ⟨v2, p2, rfl, h2, c2⟩
          go_wp2
          go_roundw
          case rel => exact ⟨j + 1, by go_num, by omega, by rw [rng_zero]; exact h2, hB.keep c2 (by simp; omega), hc.transT c2 (by intro q hq; simp at hq; subst hq; exact .inr (by have := HA.out; omega))⟩
          case measure => simp [intOf]; omega
        · obtain rfl : j = m := by omega
          clear hlt hj
          have hS := HS.out A B wr hA hB (by omega)
          clear hA hB
          go_wp2_with fail
          refine hS.mono ?_; rintro e w3 ⟨rfl, hA3, hB3, c3⟩
          have hc3 : Ch [] w w3 := hc.transT c3 (by
            intro q hq
            simp at hq
            rcases hq with rfl | rfl
            · exact .inr (by have := HA.out; omega)
            · exact .inr (by have := HA.out; omega))
          clear hS c3 hc
          go_wp2_with fail
          refine (ringAllL A _ _ hA3).mono ?_; rintro e w4 ⟨v4, rfl, o4, c4⟩
          have hA4 := hA3.keep c4 (by simp)
          have hB4 := hB3.keep c4 (by simp)
          go_wp2_with fail
          refine (ringAllL B _ _ hB4).mono ?_; rintro e w5 ⟨v5, rfl, o5, c5⟩
          have o45 := o4.keep c5 (by simp)
          have hA5 := hA4.keep c5 (by simp)
          have hc5 : Ch [] w w5 := (hc3.trans c4).trans c5
          obtain ⟨x4, y4, rfl, _, _, r4⟩ := o45.form
          obtain ⟨x5, y5, rfl, _, _, r5⟩ := o5.form
          rw [HL1.out, HL2.out]
          clear c4 c5 o4 o45 o5 hA4 hB4 hA3 hB3 hc3
          go_wp2_with fail
          go_loopw [17] (fun s17 wr => ∃ z : Nat, s17 = .int .i64 z ∧ z ≤ q ∧ wr = w5) (fun s17 _ => q - (intOf s17).toNat)
          case atStart => exact ⟨0, rfl, by omega, rfl⟩
          case round =>
            obtain ⟨z, rfl, hz, rfl⟩ := hrel
            by_cases hlt : z < q
            · exact absurd hlt (by have := HQ0.out; omega)
            · obtain rfl : z = q := by omega
              clear hlt hz
              obtain ⟨b5, o5', rfl, hcell5⟩ := r5.at (i := 0) (by rw [HL2.out]; omega)
              have d5 := hcell5 0 (by rw [HL2.out]; omega)
              rw [show gI ([5000] : List Int) 0 = 5000 from rfl, Nat.add_zero] at d5
              clear hcell5
              go_wp2_with fail
              refine (told10 _).mono ?_; rintro e w6 ⟨rfl, c6⟩
              go_wp2_with fail
              refine (ringStealSelf A _).mono ?_; rintro e w7 ⟨rfl, rfl⟩
              go_wp2_with fail
              refine (ringStealNil A _).mono ?_; rintro e w8 ⟨rfl, rfl⟩
              go_wp2
              go_ret
              exact ⟨rfl, (hc5.trans c6).below (Nat.le_refl _) (by simp)⟩

set_option maxRecDepth 100000 in
set_option maxHeartbeats 4000000 in
theorem steals_C4 (a0 a1 : Int) (k m : Nat) (hk : wrap64 ((IntKind.u64.wrap a0).tmod 257) = k) (hm : wrap64 ((IntKind.u64.wrap a1).tmod 257) = m) (hk1 : k ≤ 256) (hm1 : m ≤ 256) (hk0 : k = 0) (w : World) :
    Calls Try.prog 5 #[.int .i64 a0, .int .i64 a1, .bool false] w fun e w' => e = .returned (.bool true) ∧ Below w.heap.size w w' := by
  have HKK := Lib.hid hk
  have HMM := Lib.hid hm
  obtain ⟨q, hq⟩ : ∃ q : Nat, q = (k + 1) / 2 := ⟨_, rfl⟩
  obtain ⟨v, hv⟩ : ∃ v : Nat, v = 256 - m := ⟨_, rfl⟩
  have f1 : ((k : Int) == 0) = true := by rw [beq_iff_eq]; omega
  have f2 : ¬ (0 : Int) < k := by omega
  have e1 : ((k : Int) + 1) / 2 = (q : Int) := by omega
  have e2 : IntKind.i64.wrap (256 - (m : Int)) = (v : Int) := by rw [IntWalk.i64_in _ (by omega)]; omega
  have e3 : (256 : Int) - (m : Int) = (v : Int) := by omega
  have hmin : ¬ (v : Int) < (q : Int) := by omega
  have g1 : ((q : Int) == 0) = true := by rw [beq_iff_eq]; omega
  have hq0 : q = 0 := by omega
  have hx0 : rng 1000 k = [] := by rw [show k = 0 by omega]; rfl
  have hS : ∀ (A B : Nat) (wr : World), RingAt wr A 0 false (rng 0 m) → RingAt wr B 0 false (rng 1000 k) → A ≠ B → Calls Try.prog 23 #[.pointer (some ⟨A, 0, none⟩), .pointer (some ⟨B, 0, none⟩)] wr fun e w' =>
      e = .returned (.int .i64 (q : Nat)) ∧ RingL w' A (rng 0 m) ∧ RingL w' B ([] : List Int) ∧ Ch [A, B] wr w' := fun A B wr h1 h2 h3 => by
    rw [hx0] at h2
    refine (ringStealNone A B 0 0 false false (rng 0 m) wr h1 h2 h3 (.inl rfl)).mono ?_
    rintro e w' ⟨rfl, nq, rfl⟩
    exact ⟨by rw [hq0]; rfl, ⟨0, false, _, h1.keep ((Ch.refl [] wr).drewN nq) (by simp), rfl⟩, ⟨_, _, _, h2.keep ((Ch.refl [] wr).drewN nq) (by simp), rfl⟩, (Ch.refl _ _).drewN nq⟩
  have hL1 : (rng 0 m).length = m + q := by rw [rng_len, hq0]; rfl
  have hcell : ∀ z, z < q → gI (rng 0 m) (m + z) = 5000 := fun z hz => by omega
  have hL2 : ([] : List Int).length = 0 := rfl
  have HS := Lib.hid hS
  have HL1 := Lib.hid hL1
  have HL2 := Lib.hid hL2
  have HCELL := Lib.hid hcell
  have HQ0 := Lib.hid hq0
  clear hk hm hS hL1 hL2 hcell hq hv hk0 hq0 hx0
  go_enter Try.func5, Try.ntmps5
  go_wp2_with fail
  refine (ringNew _).mono ?_; rintro e w1 ⟨rfl, hA1, c1⟩
  obtain ⟨A, hA⟩ : ∃ A, w.heap.size = A := ⟨_, rfl⟩
  rw [hA] at hA1 ⊢
  have HA := Lib.hid hA
  clear hA
  go_wp2_with fail
  refine (ringNew _).mono ?_; rintro e w2 ⟨rfl, hB2, c2⟩
  obtain ⟨B, hB⟩ : ∃ B, w1.heap.size = B := ⟨_, rfl⟩
  have hAB : A < B := by rw [← hB]; exact hA1.lt
  rw [hB] at hB2 ⊢
  have HB := Lib.hid hB
  clear hB
  have hA2 := hA1.keep c2 (by simp)
  have hc2 : Ch [] w w2 := c1.trans c2
  go_wp2_with fail
  rw [HKK.out, HMM.out]
  go_loopw [11] (fun s11 wr => ∃ i : Nat, s11 = .int .i64 i ∧ i ≤ k ∧ RingAt wr B 0 false (rng 1000 i) ∧ RingAt wr A 0 false [] ∧ Ch [] w wr) (fun s11 _ => k - (intOf s11).toNat)
  case atStart => exact ⟨0, rfl, by omega, hB2, hA2, hc2⟩
  case round =>
    clear hA1 hA2 hB2 hc2 c1 c2
    obtain ⟨i, rfl, hi, hB, hA, hc⟩ := hrel
    by_cases hlt : i < k
    · have hP := ringPutIn B 0 false (rng 1000 i) (1000 + (i : Int)) wr hB (by rw [rng_len]; omega)
      go_wp2_with fail
      refine hP.mono ?_; rintro e w2 ⟨v2, p2, rfl, h2, c2⟩
      go_wp2
      go_roundw
      case rel => exact ⟨i + 1, by go_num, by omega, by rw [rng_succ]; exact h2, hA.keep c2 (by simp; omega), hc.transT c2 (by intro q hq; simp at hq; subst hq; exact .inr (by have := HA.out; omega))⟩
      case measure => simp [intOf]; omega
    · obtain rfl : i = k := by omega
      clear hlt hi
      have hB3 := hB
      have hA3 := hA
      have hc3 := hc
      clear hB hA hc
      go_wp2_with fail
      go_loopw [12] (fun s12 wr => ∃ j : Nat, s12 = .int .i64 j ∧ j ≤ m ∧ RingAt wr A 0 false (rng 0 j) ∧ RingAt wr B 0 false (rng 1000 i) ∧ Ch [] w wr) (fun s12 _ => m - (intOf s12).toNat)
      case atStart => exact ⟨0, rfl, by omega, hA3, hB3, hc3⟩
      case round =>
        clear hA3 hB3 hc3
        obtain ⟨j, rfl, hj, hA, hB, hc⟩ := hrel
        by_cases hlt : j < m
        · have hP := ringPutIn A 0 false (rng 0 j) (j : Int) wr hA (by rw [rng_len]; omega)
          go_wp2_with fail
          refine hP.mono ?_; rintro e w2 ⟨v2, p2, rfl, h2, c2⟩
          go_wp2
          go_roundw
          case rel => exact ⟨j + 1, by go_num, by omega, by rw [rng_zero]; exact h2, hB.keep c2 (by simp; omega), hc.transT c2 (by intro q hq; simp at hq; subst hq; exact .inr (by have := HA.out; omega))⟩
          case measure => simp [intOf]; omega
        · obtain rfl : j = m := by omega
          clear hlt hj
          have hS := HS.out A B wr hA hB (by omega)
          clear hA hB
          go_wp2_with fail
          refine hS.mono ?_; rintro e w3 ⟨rfl, hA3, hB3, c3⟩
          have hc3 : Ch [] w w3 := hc.transT c3 (by
            intro q hq
            simp at hq
            rcases hq with rfl | rfl
            · exact .inr (by have := HA.out; omega)
            · exact .inr (by have := HA.out; omega))
          clear hS c3 hc
          go_wp2_with fail
          refine (ringAllL A _ _ hA3).mono ?_; rintro e w4 ⟨v4, rfl, o4, c4⟩
          have hA4 := hA3.keep c4 (by simp)
          have hB4 := hB3.keep c4 (by simp)
          go_wp2_with fail
          refine (ringAllL B _ _ hB4).mono ?_; rintro e w5 ⟨v5, rfl, o5, c5⟩
          have o45 := o4.keep c5 (by simp)
          have hA5 := hA4.keep c5 (by simp)
          have hc5 : Ch [] w w5 := (hc3.trans c4).trans c5
          obtain ⟨x4, y4, rfl, _, _, r4⟩ := o45.form
          obtain ⟨x5, y5, rfl, _, _, r5⟩ := o5.form
          rw [HL1.out, HL2.out]
          clear c4 c5 o4 o45 o5 hA4 hB4 hA3 hB3 hc3
          go_wp2_with fail
          go_loopw [17] (fun s17 wr => ∃ z : Nat, s17 = .int .i64 z ∧ z ≤ q ∧ wr = w5) (fun s17 _ => q - (intOf s17).toNat)
          case atStart => exact ⟨0, rfl, by omega, rfl⟩
          case round =>
            obtain ⟨z, rfl, hz, rfl⟩ := hrel
            by_cases hlt : z < q
            · exact absurd hlt (by have := HQ0.out; omega)
            · obtain rfl : z = q := by omega
              clear hlt hz
              go_wp2_with fail
              refine (told10 _).mono ?_; rintro e w6 ⟨rfl, c6⟩
              go_wp2_with fail
              refine (ringStealSelf A _).mono ?_; rintro e w7 ⟨rfl, rfl⟩
              go_wp2_with fail
              refine (ringStealNil A _).mono ?_; rintro e w8 ⟨rfl, rfl⟩
              go_wp2
              go_ret
              exact ⟨rfl, (hc5.trans c6).below (Nat.le_refl _) (by simp)⟩

theorem steals_walk (a0 a1 : Int) (nb : Bool) (w : World) :
    Calls Try.prog 5 #[.int .i64 a0, .int .i64 a1, .bool nb] w fun e w' => e = .returned (.bool true) ∧ Below w.heap.size w w' := by
  obtain ⟨k, hk, hkl⟩ := umod a0 257 (by decide) (by decide)
  obtain ⟨m, hm, hml⟩ := umod a1 257 (by decide) (by decide)
  by_cases hk0 : k = 0
  · cases nb with
    | false => exact steals_C4 a0 a1 k m hk hm (by omega) (by omega) hk0 w
    | true =>
      by_cases hm3 : m < 256
      · exact steals_C2 a0 a1 k m hk hm (by omega) (by omega) hk0 hm3 w
      · exact steals_C3 a0 a1 k m hk hm (by omega) (by omega) hk0 (by omega) w
  · by_cases hc : 256 - m < (k + 1) / 2
    · cases nb with
      | false => exact steals_Afv a0 a1 k m hk hm (by omega) (by omega) _ (by omega) ⟨rfl, hc⟩ w
      | true => exact steals_Atv a0 a1 k m hk hm (by omega) (by omega) _ (by omega) ⟨rfl, hc⟩ w
    · cases nb with
      | false => exact steals_Afq a0 a1 k m hk hm (by omega) (by omega) _ (by omega) ⟨rfl, hc⟩ w
      | true => exact steals_Atq a0 a1 k m hk hm (by omega) (by omega) _ (by omega) ⟨rfl, hc⟩ w
end Go.Proofs.Yteghenfdncgpeaa
