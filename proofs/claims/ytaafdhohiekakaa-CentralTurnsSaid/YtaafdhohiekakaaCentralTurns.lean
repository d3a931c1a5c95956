/-
  The walk of the statement CentralTurns: the law returns true at every input. Conditions: none.
-/
import Derived.Test.YtaafdhohiekakaaCentMath
import Derived.Test.YtaafdhohiekakaaRng
namespace Go.Proofs.Ytaafdhohiekakaa
open Go.RowKit
/-- The rows of class 3, all others of nobody. -/
def q4 (A B C D : List Int) : List (List Int) := (List.range 64).map fun i => if i = 12 then A else if i = 13 then B else if i = 14 then C else if i = 15 then D else []
theorem q4_len (A B C D : List Int) : (q4 A B C D).length = 64 := by simp [q4]
theorem gL_q4 (A B C D : List Int) (i : Nat) (hi : i < 64) : gL (q4 A B C D) i = if i = 12 then A else if i = 13 then B else if i = 14 then C else if i = 15 then D else [] := by
  unfold q4 gL
  rw [List.getD_eq_getElem?_getD, List.getElem?_map, List.getElem?_range hi]
  rfl
section
variable {A B C D : List Int}
theorem q4_set12 (L : List Int) : (q4 A B C D).set 12 L = q4 L B C D := rows_ext (by rw [List.length_set, q4_len]) (q4_len _ _ _ _) (fun i hi => by
  rw [gL_set _ _ _ _ (by rw [q4_len]; omega), gL_q4 _ _ _ _ _ hi, gL_q4 _ _ _ _ _ hi]
  by_cases h : i = 12 <;> simp [h])
theorem q4_set13 (L : List Int) : (q4 A B C D).set 13 L = q4 A L C D := rows_ext (by rw [List.length_set, q4_len]) (q4_len _ _ _ _) (fun i hi => by
  rw [gL_set _ _ _ _ (by rw [q4_len]; omega), gL_q4 _ _ _ _ _ hi, gL_q4 _ _ _ _ _ hi]
  by_cases h : i = 13 <;> simp [h])
theorem q4_set14 (L : List Int) : (q4 A B C D).set 14 L = q4 A B L D := rows_ext (by rw [List.length_set, q4_len]) (q4_len _ _ _ _) (fun i hi => by
  rw [gL_set _ _ _ _ (by rw [q4_len]; omega), gL_q4 _ _ _ _ _ hi, gL_q4 _ _ _ _ _ hi]
  by_cases h : i = 14 <;> simp [h])
theorem q4_set15 (L : List Int) : (q4 A B C D).set 15 L = q4 A B C L := rows_ext (by rw [List.length_set, q4_len]) (q4_len _ _ _ _) (fun i hi => by
  rw [gL_set _ _ _ _ (by rw [q4_len]; omega), gL_q4 _ _ _ _ _ hi, gL_q4 _ _ _ _ _ hi]
  by_cases h : i = 15 <;> simp [h])
theorem q4_L0 : L0 = q4 [] [] [] [] := rows_ext len_L0 (q4_len _ _ _ _) (fun i hi => by
  rw [gL_q4 _ _ _ _ _ hi]
  unfold L0
  rw [gL_rep]
  simp)
theorem q4_beg : begTo (q4 A B [] []) 32 = q4 [] [] A B := rows_ext (begTo_len _ _) (q4_len _ _ _ _) (fun i hi => by
  rw [gL_begTo _ _ _ hi, gL_q4 _ _ _ _ _ hi, gL_q4 _ _ _ _ _ hi, gL_q4 _ _ _ _ _ (by omega), if_pos (show i / 4 * 2 + i % 2 < 32 by omega)]
  by_cases h1 : i = 14
  · subst h1; simp
  · by_cases h2 : i = 15
    · subst h2; simp
    · by_cases h3 : i % 4 < 2
      · rw [if_pos h3, if_neg h1, if_neg h2]; simp
      · rw [if_neg h3]
        have e1 : ¬ i = 12 := by omega
        have e2 : ¬ i = 13 := by omega
        have e3 : ¬ i - 2 = 12 := by omega
        have e4 : ¬ i - 2 = 13 := by omega
        simp [h1, h2, e1, e2, e3, e4])
theorem q4_no {x : Int} (h1 : x ∉ A) (h2 : x ∉ B) (h3 : x ∉ C) (h4 : x ∉ D) : delC (q4 A B C D) x = q4 A B C D := by
  rcases delC_cases (q4 A B C D) x with ⟨_, h, _⟩ | ⟨i, p, q, hi, h, _, _, _, _⟩
  · exact h
  · have hm : x ∈ gL (q4 A B C D) i := by rw [h]; simp
    rw [gL_q4 _ _ _ _ _ hi] at hm
    split at hm
    · exact absurd hm h1
    · split at hm
      · exact absurd hm h2
      · split at hm
        · exact absurd hm h3
        · split at hm
          · exact absurd hm h4
          · simp at hm
theorem ok3 : okC 3 = true := rfl
theorem q4_put {x : Int} (h1 : x ∉ A) (h2 : x ∉ B) (h3 : x ∉ C) (h4 : x ∉ D) : putC (q4 A B C D) 3 x false = q4 (A ++ [x]) B C D := by
  unfold putC
  rw [if_pos ok3, q4_no h1 h2 h3 h4, show (3 : Int).toNat * 4 + sd false = 12 from rfl, q4_set12, gL_q4 _ _ _ _ _ (by omega)]
  rfl
theorem q4_putF {x : Int} (h1 : x ∉ A) (h2 : x ∉ B) (h3 : x ∉ C) (h4 : x ∉ D) : putC (q4 A B C D) 3 x true = q4 A (B ++ [x]) C D := by
  unfold putC
  rw [if_pos ok3, q4_no h1 h2 h3 h4, show (3 : Int).toNat * 4 + sd true = 13 from rfl, q4_set13, gL_q4 _ _ _ _ _ (by omega)]
  rfl
theorem q4_12 : gL (q4 A B C D) 12 = A := by rw [gL_q4 _ _ _ _ _ (by omega)]; rfl
theorem q4_14 : gL (q4 A B C D) 14 = C := by rw [gL_q4 _ _ _ _ _ (by omega)]; rfl
theorem q4_15 : gL (q4 A B C D) 15 = D := by rw [gL_q4 _ _ _ _ _ (by omega)]; rfl
theorem q4_unsw : unsw (q4 A B C D) 16 = C.length + D.length := by
  simp only [unsw]
  rw [gL_q4 _ _ _ _ _ (by omega), gL_q4 _ _ _ _ _ (by omega), gL_q4 _ _ _ _ _ (by omega), gL_q4 _ _ _ _ _ (by omega), gL_q4 _ _ _ _ _ (by omega), gL_q4 _ _ _ _ _ (by omega), gL_q4 _ _ _ _ _ (by omega), gL_q4 _ _ _ _ _ (by omega), gL_q4 _ _ _ _ _ (by omega), gL_q4 _ _ _ _ _ (by omega), gL_q4 _ _ _ _ _ (by omega), gL_q4 _ _ _ _ _ (by omega), gL_q4 _ _ _ _ _ (by omega), gL_q4 _ _ _ _ _ (by omega), gL_q4 _ _ _ _ _ (by omega), gL_q4 _ _ _ _ _ (by omega), gL_q4 _ _ _ _ _ (by omega), gL_q4 _ _ _ _ _ (by omega), gL_q4 _ _ _ _ _ (by omega), gL_q4 _ _ _ _ _ (by omega), gL_q4 _ _ _ _ _ (by omega), gL_q4 _ _ _ _ _ (by omega), gL_q4 _ _ _ _ _ (by omega), gL_q4 _ _ _ _ _ (by omega), gL_q4 _ _ _ _ _ (by omega), gL_q4 _ _ _ _ _ (by omega), gL_q4 _ _ _ _ _ (by omega), gL_q4 _ _ _ _ _ (by omega), gL_q4 _ _ _ _ _ (by omega), gL_q4 _ _ _ _ _ (by omega), gL_q4 _ _ _ _ _ (by omega), gL_q4 _ _ _ _ _ (by omega)]
  simp
theorem app_emp (L : List Int) (x : Int) : (L ++ [x]).isEmpty = false := by cases L <;> rfl
theorem q4_take1 (x : Int) : takeX (q4 (A ++ [x]) B C D) 3 = x ∧ takeU (q4 (A ++ [x]) B C D) 3 = false ∧ takeB (q4 (A ++ [x]) B C D) 3 = true ∧ takeL (q4 (A ++ [x]) B C D) 3 = q4 A B C D := by
  unfold takeX takeU takeB takeL
  simp only [ok3, if_true, show (3 : Int).toNat * 4 = 12 from rfl, show 12 + 2 = 14 from rfl, q4_12, q4_14, q4_set12, q4_set14, app_emp, Bool.true_and, Bool.false_and, Bool.not_false]
  refine ⟨by first | rfl | simp, by first | rfl | simp, by first | rfl | simp, by first | rfl | simp⟩
theorem q4_take2 (x : Int) : takeX (q4 [] B (C ++ [x]) D) 3 = x ∧ takeU (q4 [] B (C ++ [x]) D) 3 = true ∧ takeB (q4 [] B (C ++ [x]) D) 3 = true ∧ takeL (q4 [] B (C ++ [x]) D) 3 = q4 [] B C D := by
  unfold takeX takeU takeB takeL
  simp only [ok3, if_true, show (3 : Int).toNat * 4 = 12 from rfl, show 12 + 2 = 14 from rfl, q4_12, q4_14, q4_set12, q4_set14, app_emp, Bool.true_and, Bool.false_and, Bool.not_false]
  refine ⟨by first | rfl | simp, by first | rfl | simp, by first | rfl | simp, by first | rfl | simp⟩
theorem q4_take3 : takeX (q4 [] B [] D) 3 = 0 ∧ takeU (q4 [] B [] D) 3 = false ∧ takeB (q4 [] B [] D) 3 = false ∧ takeL (q4 [] B [] D) 3 = q4 [] B [] D := by
  unfold takeX takeU takeB takeL
  simp only [ok3, if_true, show (3 : Int).toNat * 4 = 12 from rfl, show 12 + 2 = 14 from rfl, q4_12, q4_14, q4_set12, q4_set14]
  refine ⟨by first | rfl | simp, by first | rfl | simp, by first | rfl | simp, by first | rfl | simp⟩
theorem q4_full1 (x : Int) : fullX (q4 A B C (D ++ [x])) 3 = x ∧ fullB (q4 A B C (D ++ [x])) 3 = true ∧ fullL (q4 A B C (D ++ [x])) 3 = q4 A B C D := by
  unfold fullX fullB fullL
  simp only [ok3, if_true, show (3 : Int).toNat * 4 + 3 = 15 from rfl, q4_15, q4_set15, app_emp]
  refine ⟨by first | rfl | simp, by first | rfl | simp, by first | rfl | simp⟩
theorem q4_full2 : fullX (q4 A B C []) 3 = 0 ∧ fullB (q4 A B C []) 3 = false := by
  unfold fullX fullB
  simp only [ok3, if_true, show (3 : Int).toNat * 4 + 3 = 15 from rfl, q4_15]
  refine ⟨by first | rfl | simp, by first | rfl | simp⟩
theorem q4_le {M : Nat} (h1 : A.length ≤ M) (h2 : B.length ≤ M) (h3 : C.length ≤ M) (h4 : D.length ≤ M) : ∀ i, (gL (q4 A B C D) i).length ≤ M := by
  intro i
  by_cases hi : i < 64
  · rw [gL_q4 _ _ _ _ _ hi]
    split
    · exact h1
    · split
      · exact h2
      · split
        · exact h3
        · split
          · exact h4
          · simp
  · rw [gL_out _ _ (by rw [q4_len]; omega)]; simp
end
theorem rng_no (c : Int) (n : Nat) (x : Int) (h : x < c ∨ c + n ≤ x) : x ∉ rng c n := by rw [mem_rng]; omega
set_option maxRecDepth 100000 in
set_option maxHeartbeats 8000000 in
theorem turns8_walk (a0 a1 a2 : Int) (w : World) :
    Calls Try.prog 7 #[.int .i64 a0, .int .i64 a1, .int .i64 a2] w fun e w' => e = .returned (.bool true) ∧ Below w.heap.size w w' := by
  obtain ⟨s, hs, hsl⟩ := umod a0 21 (by decide) (by decide)
  obtain ⟨u, hu, hul⟩ := umod a1 21 (by decide) (by decide)
  obtain ⟨f, hf, hfl⟩ := umod a2 21 (by decide) (by decide)
  have HS := Lib.hid hs
  have HU := Lib.hid hu
  have HF := Lib.hid hf
  clear hs hu hf
  go_enter Try.func7, Try.ntmps7
  go_wp2_with fail
  refine (centNew w).mono ?_; rintro e w1 hn
  obtain ⟨c, rfl, h0⟩ := CentIn.new hn
  rw [q4_L0] at h0
  clear hn
  go_wp2_with fail
  try rw [HS.out, HU.out, HF.out]
  go_loopw [11] (fun s11 wr => ∃ i : Nat, s11 = .int .i64 i ∧ i ≤ u ∧ CentIn w wr c (q4 (rng 100 i) [] [] [])) (fun s11 _ => u - (intOf s11).toNat)
  case atStart => exact ⟨0, rfl, by omega, h0⟩
  case round =>
    clear h0
    obtain ⟨i, rfl, hi, h1⟩ := hrel
    by_cases hlt : i < u
    · have t1 : decide ((i : Int) < u) = true := decide_eq_true (by omega)
      have hsm := q4_le (A := rng 100 i) (B := []) (C := []) (D := []) (M := 50000) (by rw [rng_len]; omega) (by simp) (by simp) (by simp)
      have hp := q4_put (A := rng 100 i) (B := []) (C := []) (D := []) (x := 100 + (i : Int)) (rng_no _ _ _ (by omega)) (by simp) (by simp) (by simp)
      rw [← rng_succ] at hp
      have HP := Lib.hid hp
      have HSM := Lib.hid hsm
      clear hp hsm
      go_wp2_with fail
      refine (inPut 3 (100 + (i : Int)) false h1 HSM.out).mono ?_; rintro e w2 ⟨rfl, h2⟩
      rw [HP.out] at h2
      clear h1
      go_wp2_with fail
      go_roundw
      case rel => exact ⟨i + 1, by go_num, by omega, h2⟩
      case measure => simp [intOf]; omega
    · obtain rfl : u = i := by omega
      have t1 : decide ((u : Int) < u) = false := decide_eq_false (by omega)
      have t2 : decide (u < u) = false := decide_eq_false (by omega)
      go_wp2_with fail
      go_loopw [12] (fun s12 wr => ∃ i : Nat, s12 = .int .i64 i ∧ i ≤ f ∧ CentIn w wr c (q4 (rng 100 u) (rng 200 i) [] [])) (fun s12 _ => f - (intOf s12).toNat)
      case atStart => exact ⟨0, rfl, by omega, h1⟩
      case round =>
        clear h1
        obtain ⟨i, rfl, hi, h1⟩ := hrel
        by_cases hlt : i < f
        · have t1 : decide ((i : Int) < f) = true := decide_eq_true (by omega)
          have hsm := q4_le (A := rng 100 u) (B := rng 200 i) (C := []) (D := []) (M := 50000) (by rw [rng_len]; omega) (by rw [rng_len]; omega) (by simp) (by simp)
          have hp := q4_putF (A := rng 100 u) (B := rng 200 i) (C := []) (D := []) (x := 200 + (i : Int)) (rng_no _ _ _ (by omega)) (rng_no _ _ _ (by omega)) (by simp) (by simp)
          rw [← rng_succ] at hp
          have HP := Lib.hid hp
          have HSM := Lib.hid hsm
          clear hp hsm
          go_wp2_with fail
          refine (inPut 3 (200 + (i : Int)) true h1 HSM.out).mono ?_; rintro e w2 ⟨rfl, h2⟩
          rw [HP.out] at h2
          clear h1
          go_wp2_with fail
          go_roundw
          case rel => exact ⟨i + 1, by go_num, by omega, h2⟩
          case measure => simp [intOf]; omega
        · obtain rfl : f = i := by omega
          have t3 : decide ((f : Int) < f) = false := decide_eq_false (by omega)
          have t4 : decide (f < f) = false := decide_eq_false (by omega)
          have hsm := q4_le (A := rng 100 u) (B := rng 200 f) (C := []) (D := []) (M := 20000) (by rw [rng_len]; omega) (by rw [rng_len]; omega) (by simp) (by simp)
          have HSM := Lib.hid hsm
          clear hsm
          go_wp2_with fail
          refine (inBegin h1 HSM.out).mono ?_; rintro e w2 ⟨rfl, h2⟩
          rw [q4_beg] at h2
          clear h1
          go_wp2_with fail
          go_loopw [13] (fun s13 wr => ∃ i : Nat, s13 = .int .i64 i ∧ i ≤ s ∧ CentIn w wr c (q4 (rng 0 i) [] (rng 100 u) (rng 200 f))) (fun s13 _ => s - (intOf s13).toNat)
          case atStart => exact ⟨0, rfl, by omega, h2⟩
          case round =>
            clear h2
            obtain ⟨i, rfl, hi, h1⟩ := hrel
            by_cases hlt : i < s
            · have t1 : decide ((i : Int) < s) = true := decide_eq_true (by omega)
              have hsm := q4_le (A := rng 0 i) (B := []) (C := rng 100 u) (D := rng 200 f) (M := 50000) (by rw [rng_len]; omega) (by simp) (by rw [rng_len]; omega) (by rw [rng_len]; omega)
              have hp := q4_put (A := rng 0 i) (B := []) (C := rng 100 u) (D := rng 200 f) (x := (i : Int)) (rng_no _ _ _ (by omega)) (by simp) (rng_no _ _ _ (by omega)) (rng_no _ _ _ (by omega))
              rw [← rng_zero] at hp
              have HP := Lib.hid hp
              have HSM := Lib.hid hsm
              clear hp hsm
              go_wp2_with fail
              refine (inPut 3 (i : Int) false h1 HSM.out).mono ?_; rintro e w2 ⟨rfl, h2⟩
              rw [HP.out] at h2
              clear h1
              go_wp2_with fail
              go_roundw
              case rel => exact ⟨i + 1, by go_num, by omega, h2⟩
              case measure => simp [intOf]; omega
            · obtain rfl : s = i := by omega
              have t5 : decide ((s : Int) < s) = false := decide_eq_false (by omega)
              have t6 : decide (s < s) = false := decide_eq_false (by omega)
              have hsm := q4_le (A := rng 0 s) (B := []) (C := rng 100 u) (D := rng 200 f) (M := 100000) (by rw [rng_len]; omega) (by simp) (by rw [rng_len]; omega) (by rw [rng_len]; omega)
              have hun : (unsw (q4 (rng 0 s) [] (rng 100 u) (rng 200 f)) 16 : Int) = (u : Int) + f := by rw [q4_unsw, rng_len, rng_len]; omega
              have z1 : (((u : Int) + f) != ((u : Int) + f)) = false := by simp
              have HSM := Lib.hid hsm
              have HUN := Lib.hid hun
              clear hsm hun
              go_wp2_with fail
              refine (inUnswept h1 HSM.out).mono ?_; rintro e w2 ⟨rfl, h2⟩
              rw [HUN.out]
              clear h1
              go_wp2_with fail
              go_loopw [14, 15, 16, 17] (fun s14 s15 s16 s17 wr => ∃ i : Nat, s14 = .int .i64 ((i : Int) - 1) ∧ i ≤ s ∧ CentIn w wr c (q4 (rng 0 i) [] (rng 100 u) (rng 200 f))) (fun s14 _ _ _ _ => (intOf s14 + 1).toNat)
              case atStart => exact ⟨s, rfl, by omega, h2⟩
              case round =>
                clear h2 z1
                obtain ⟨i, rfl, hi, h1⟩ := hrel
                by_cases hlt : 0 < i
                · obtain ⟨j, rfl⟩ : ∃ j, i = j + 1 := ⟨i - 1, by omega⟩
                  have e1 : ((j + 1 : Nat) : Int) - 1 = (j : Int) := by omega
                  rw [e1]
                  obtain ⟨p1, p2, p3, p4⟩ := q4_take1 (A := rng 0 j) (B := []) (C := rng 100 u) (D := rng 200 f) (j : Int)
                  rw [← rng_zero] at p1 p2 p3 p4
                  have t7 : decide ((0 : Int) ≤ j) = true := decide_eq_true (by omega)
                  have z2 : ((j : Int) != (j : Int)) = false := by simp
                  have P1 := Lib.hid p1
                  have P2 := Lib.hid p2
                  have P3 := Lib.hid p3
                  have P4 := Lib.hid p4
                  clear p1 p2 p3 p4 e1
                  go_wp2_with fail
                  refine (inTake 3 h1).mono ?_; rintro e w3 ⟨rfl, h3⟩
                  rw [P1.out, P2.out, P3.out]
                  rw [P4.out] at h3
                  clear h1
                  go_wp2_with fail
                  go_roundw
                  case rel => exact ⟨j, rfl, by omega, h3⟩
                  case measure => simp [intOf]
                · obtain rfl : i = 0 := by omega
                  replace h1 : CentIn w _ c (q4 [] [] (rng 100 u) (rng 200 f)) := h1
                  have e1 : ((0 : Nat) : Int) - 1 = -1 := rfl
                  rw [e1]
                  clear e1
                  go_wp2_with fail
                  go_loopw [18, 19, 20, 21] (fun s18 s19 s20 s21 wr => ∃ i : Nat, s18 = .int .i64 ((i : Int) - 1) ∧ i ≤ u ∧ CentIn w wr c (q4 [] [] (rng 100 i) (rng 200 f))) (fun s18 _ _ _ _ => (intOf s18 + 1).toNat)
                  case atStart => exact ⟨u, rfl, by omega, h1⟩
                  case round =>
                    clear h1
                    obtain ⟨i, rfl, hi, h1⟩ := hrel
                    by_cases hlt : 0 < i
                    · obtain ⟨j, rfl⟩ : ∃ j, i = j + 1 := ⟨i - 1, by omega⟩
                      have e1 : ((j + 1 : Nat) : Int) - 1 = (j : Int) := by omega
                      rw [e1]
                      obtain ⟨p1, p2, p3, p4⟩ := q4_take2 (B := []) (C := rng 100 j) (D := rng 200 f) (100 + (j : Int))
                      rw [← rng_succ] at p1 p2 p3 p4
                      have t7 : decide ((0 : Int) ≤ j) = true := decide_eq_true (by omega)
                      have z2 : ((100 + (j : Int)) != (100 + (j : Int))) = false := by simp
                      have P1 := Lib.hid p1
                      have P2 := Lib.hid p2
                      have P3 := Lib.hid p3
                      have P4 := Lib.hid p4
                      clear p1 p2 p3 p4 e1
                      go_wp2_with fail
                      refine (inTake 3 h1).mono ?_; rintro e w3 ⟨rfl, h3⟩
                      rw [P1.out, P2.out, P3.out]
                      rw [P4.out] at h3
                      clear h1
                      go_wp2_with fail
                      go_roundw
                      case rel => exact ⟨j, rfl, by omega, h3⟩
                      case measure => simp [intOf]
                    · obtain rfl : i = 0 := by omega
                      replace h1 : CentIn w _ c (q4 [] [] [] (rng 200 f)) := h1
                      have e1 : ((0 : Nat) : Int) - 1 = -1 := rfl
                      rw [e1]
                      obtain ⟨p1, p2, p3, p4⟩ := q4_take3 (B := []) (D := rng 200 f)
                      have P1 := Lib.hid p1
                      have P2 := Lib.hid p2
                      have P3 := Lib.hid p3
                      have P4 := Lib.hid p4
                      clear p1 p2 p3 p4 e1
                      go_wp2_with fail
                      refine (inTake 3 h1).mono ?_; rintro e w3 ⟨rfl, h3⟩
                      rw [P1.out, P2.out, P3.out]
                      rw [P4.out] at h3
                      clear h1
                      go_wp2_with fail
                      go_loopw [25, 26, 27] (fun s25 s26 s27 wr => ∃ i : Nat, s25 = .int .i64 ((i : Int) - 1) ∧ i ≤ f ∧ CentIn w wr c (q4 [] [] [] (rng 200 i))) (fun s25 _ _ _ => (intOf s25 + 1).toNat)
                      case atStart => exact ⟨f, rfl, by omega, h3⟩
                      case round =>
                        clear h3
                        obtain ⟨i, rfl, hi, h1⟩ := hrel
                        by_cases hlt : 0 < i
                        · obtain ⟨j, rfl⟩ : ∃ j, i = j + 1 := ⟨i - 1, by omega⟩
                          have e1 : ((j + 1 : Nat) : Int) - 1 = (j : Int) := by omega
                          rw [e1]
                          obtain ⟨p1, p2, p3⟩ := q4_full1 (A := []) (B := []) (C := []) (D := rng 200 j) (200 + (j : Int))
                          rw [← rng_succ] at p1 p2 p3
                          have t7 : decide ((0 : Int) ≤ j) = true := decide_eq_true (by omega)
                          have z2 : ((200 + (j : Int)) != (200 + (j : Int))) = false := by simp
                          have P1 := Lib.hid p1
                          have P2 := Lib.hid p2
                          have P3 := Lib.hid p3
                          clear p1 p2 p3 e1
                          go_wp2_with fail
                          refine (inTakeFull 3 h1).mono ?_; rintro e w3 ⟨rfl, h3⟩
                          rw [P1.out, P2.out]
                          rw [P3.out] at h3
                          clear h1
                          go_wp2_with fail
                          go_roundw
                          case rel => exact ⟨j, rfl, by omega, h3⟩
                          case measure => simp [intOf]
                        · obtain rfl : i = 0 := by omega
                          replace h1 : CentIn w _ c (q4 [] [] [] []) := h1
                          have e1 : ((0 : Nat) : Int) - 1 = -1 := rfl
                          rw [e1]
                          obtain ⟨p1, p2⟩ := q4_full2 (A := []) (B := []) (C := [])
                          have P1 := Lib.hid p1
                          have P2 := Lib.hid p2
                          clear p1 p2 e1
                          go_wp2_with fail
                          refine (inTakeFull 3 h1).mono ?_; rintro e w3 ⟨rfl, h3⟩
                          rw [P1.out, P2.out]
                          rw [show fullL (q4 [] [] [] []) 3 = q4 [] [] [] [] by unfold fullL; rw [if_pos ok3, show (3 : Int).toNat * 4 + 3 = 15 from rfl, q4_set15, q4_15]; rfl] at h3
                          clear h1
                          go_wp2_with fail
                          refine (told8 w3).mono ?_; rintro e w4 ⟨rfl, c4⟩
                          have h4 := h3.still c4
                          clear h3 c4
                          go_wp2_with fail
                          refine (inUnswept h4 (q4_le (by simp) (by simp) (by simp) (by simp))).mono ?_; rintro e w5 ⟨rfl, h5⟩
                          rw [q4_unsw]
                          have hend := h5.ch.below (Nat.le_refl _) (by simp)
                          clear h4 h5
                          go_wp2_with fail
                          go_ret
                          exact ⟨rfl, hend⟩
end Go.Proofs.Ytaafdhohiekakaa
