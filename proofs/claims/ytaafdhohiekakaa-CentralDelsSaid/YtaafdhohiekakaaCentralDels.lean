/-
  The walk of the statement CentralDels: the law returns true at every input. Conditions: none.
-/
import Derived.Test.YtaafdhohiekakaaCentMath
namespace Go.Proofs.Ytaafdhohiekakaa
open Go.RowKit
theorem delC_none {Ls : List (List Int)} {x : Int} (h : hitC Ls x = false) : delC Ls x = Ls := by
  rcases delC_cases Ls x with ⟨_, h2, _⟩ | ⟨i, p, q, hi, h1, _, _, h4, h2⟩
  · exact h2
  · rw [h] at h4; cases h4
/-- The ids below i stand in the rows, each once. -/
structure Ids (Ls : List (List Int)) (i : Nat) : Prop where
  len : Ls.length = 64
  tot : tot Ls = i
  cnt : ∀ y : Int, cntC Ls y = if 0 ≤ y ∧ y < i then 1 else 0
theorem ids_L0 : Ids L0 0 := ⟨len_L0, tot_L0, fun y => by rw [cntC_L0, if_neg (by omega)]⟩
theorem Ids.put {Ls : List (List Int)} {i : Nat} (h : Ids Ls i) {k : Int} (hk : okC k = true) (full : Bool) : Ids (putC Ls k i full) (i + 1) := by
  have h0 : cntC Ls (i : Int) = 0 := by rw [h.cnt, if_neg (by omega)]
  refine ⟨putC_len h.len _ _ _, ?_, fun y => ?_⟩
  · have := tot_put h.len hk (i : Int) full
    rw [cntC_hit, h0, h.tot] at this
    simpa using this
  · rw [cntC_put h.len hk, h0, h.cnt]
    by_cases hy : y = i
    · rw [if_pos hy, if_pos (by omega)]
    · rw [if_neg hy]
      by_cases h1 : 0 ≤ y ∧ y < i
      · rw [if_pos h1, if_pos (by omega)]
      · rw [if_neg h1, if_neg (by omega)]
/-- What is left of the law behind the first Del: the same for both ways. -/
structure Left (Ls : List (List Int)) (k x : Nat) : Prop where
  len : Ls.length = 64
  tot : tot Ls + 1 = k
  cnt : cntC Ls (x : Int) = 0
  far : cntC Ls ((k : Int) + 7) = 0
theorem Left.of {Ls : List (List Int)} {k x : Nat} (hlen : Ls.length = 64) (ht : Go.Proofs.Ytaafdhohiekakaa.tot Ls = k) (hc : ∀ y : Int, cntC Ls y = if 0 ≤ y ∧ y < k then 1 else 0) (hx : x < k) : hitC Ls x = true ∧ Left (delC Ls x) k x := by
  have h1 : hitC Ls x = true := by rw [cntC_hit, hc, if_pos (by omega)]; rfl
  refine ⟨h1, delC_len hlen _, ?_, ?_, ?_⟩
  · have := tot_del hlen (x : Int)
    rw [h1, ht] at this
    simpa using this
  · rw [cntC_del hlen, if_pos rfl, hc, if_pos (by omega)]
  · rw [cntC_del hlen, if_neg (by omega), hc, if_neg (by omega)]
def lput (Ls : List (List Int)) (x : Nat) : List (List Int) := Ls.set (x % 16 * 4) (gL Ls (x % 16 * 4) ++ [(x : Int)])
theorem Left.put {Ls : List (List Int)} {k x : Nat} (h : Left Ls k x) : hitC Ls x = false ∧ delC Ls x = Ls ∧ putC Ls ((x % 16 : Nat) : Int) x false = lput Ls x ∧ takeX (lput Ls x) ((x % 16 : Nat) : Int) = x ∧ takeU (lput Ls x) ((x % 16 : Nat) : Int) = false ∧ takeB (lput Ls x) ((x % 16 : Nat) : Int) = true ∧
    hitC (takeL (lput Ls x) ((x % 16 : Nat) : Int)) x = false ∧ hitC (takeL (lput Ls x) ((x % 16 : Nat) : Int)) ((k : Int) + 7) = false ∧ (∀ i, (gL (lput Ls x) i).length ≤ k + 1) ∧ (∀ i, (gL (takeL (lput Ls x) ((x % 16 : Nat) : Int)) i).length ≤ k + 1) := by
  have h1 : hitC Ls x = false := by rw [cntC_hit, h.cnt]; rfl
  have hj : x % 16 < 16 := by omega
  have hr : x % 16 * 4 < 64 := by omega
  obtain ⟨r, hrr⟩ : ∃ r, x % 16 * 4 = r := ⟨_, rfl⟩
  have hok : okC ((x % 16 : Nat) : Int) = true := okC_nat hj
  have hp : putC Ls ((x % 16 : Nat) : Int) x false = lput Ls x := by
    unfold putC lput
    rw [if_pos hok, delC_none h1, Int.toNat_natCast]
    rfl
  have hg : gL (lput Ls x) (x % 16 * 4) = gL Ls (x % 16 * 4) ++ [(x : Int)] := by unfold lput; rw [gL_set _ _ _ _ (by rw [h.len]; omega), if_pos rfl]
  have hlen : (lput Ls x).length = 64 := by unfold lput; rw [List.length_set]; exact h.len
  have hne : gL (lput Ls x) (x % 16 * 4) ≠ [] := by rw [hg]; simp
  have hemp : (gL Ls (x % 16 * 4) ++ [(x : Int)]).isEmpty = false := by cases gL Ls (x % 16 * 4) <;> rfl
  have htk : takeL (lput Ls x) ((x % 16 : Nat) : Int) = (lput Ls x).set (x % 16 * 4) (gL Ls (x % 16 * 4)) := by
    unfold takeL
    rw [if_pos hok, Int.toNat_natCast, if_pos hne, hg, List.dropLast_concat]
  have hcs := fun y => cntC_set h.len hr (gL Ls (x % 16 * 4) ++ [(x : Int)]) y
  have hct := fun y => cntC_set hlen hr (gL Ls (x % 16 * 4)) y
  have hfin : ∀ y, cntC (takeL (lput Ls x) ((x % 16 : Nat) : Int)) y = cntC Ls y := fun y => by
    have a := hcs y
    have b := hct y
    rw [htk]
    rw [hg] at b
    have e : (Ls.set (x % 16 * 4) (gL Ls (x % 16 * 4) ++ [(x : Int)])) = lput Ls x := rfl
    rw [e] at a
    omega
  have htot := tot_set h.len hr (gL Ls (x % 16 * 4) ++ [(x : Int)])
  have htot2 := tot_set hlen hr (gL Ls (x % 16 * 4))
  have e : (Ls.set (x % 16 * 4) (gL Ls (x % 16 * 4) ++ [(x : Int)])) = lput Ls x := rfl
  rw [e, List.length_append, List.length_singleton] at htot
  rw [hg, List.length_append, List.length_singleton] at htot2
  have ht := h.tot
  refine ⟨h1, delC_none h1, hp, ?_, ?_, ?_, ?_, ?_, le_tot hlen (by omega), ?_⟩
  · unfold takeX
    rw [if_pos hok, Int.toNat_natCast, if_pos hne, hg, List.getLastD_concat]
  · unfold takeU
    rw [Int.toNat_natCast, hg, hemp, hok]; rfl
  · unfold takeB
    rw [Int.toNat_natCast, hg, hemp, hok]; rfl
  · rw [cntC_hit, hfin, h.cnt]; rfl
  · rw [cntC_hit, hfin, h.far]; rfl
  · rw [htk]; exact le_tot (by rw [List.length_set]; exact hlen) (by omega)
set_option maxRecDepth 100000 in
set_option maxHeartbeats 8000000 in
theorem dels8_walk (a0 a1 : Int) (full begin : Bool) (w : World) :
    Calls Try.prog 6 #[.int .i64 a0, .int .i64 a1, .bool full, .bool begin] w fun e w' => e = .returned (.bool true) ∧ Below w.heap.size w w' := by
  obtain ⟨q, hq, hql⟩ := umod a0 20 (by decide) (by decide)
  obtain ⟨k, hk⟩ : ∃ k, q + 1 = k := ⟨_, rfl⟩
  have hkq : (1 : Int) + (q : Int) = (k : Int) := by omega
  obtain ⟨x, hx, hxk0⟩ := umod a1 k (by omega) (by omega)
  have hxk : x < k := by omega
  have hk20 : k ≤ 20 := by omega
  have k0 : (0 : Int) ≤ k := by omega
  have k1 : ¬ (k : Int) = 0 := by omega
  have k2 : ((k : Int) == 0) = false := by rw [beq_eq_false_iff_ne]; omega
  have k3 : (0 : Int) < k := by omega
  have HQ := Lib.hid hq
  have hkw : wrap64 ((1 : Int) + (q : Int)) = (k : Int) := by rw [hkq]; exact IntWalk.wrap64_in _ (by omega)
  have HKQ := Lib.hid hkq
  have HKW := Lib.hid hkw
  have HX := Lib.hid hx
  clear hq hkq hkw hk hx hxk0
  go_enter Try.func6, Try.ntmps6
  go_wp2_with fail
  refine (centNew w).mono ?_; rintro e w1 hn
  obtain ⟨c, rfl, h0⟩ := CentIn.new hn
  clear hn
  go_wp2_with fail
  try rw [HQ.out]
  first
  | rw [HKW.out]
  | rw [HKQ.out]
  go_loopw [11] (fun s11 wr => ∃ (i : Nat) (Ls : List (List Int)), s11 = .int .i64 i ∧ i ≤ k ∧ CentIn w wr c Ls ∧ Ids Ls i ∧ Fresh Ls) (fun s11 _ => k - (intOf s11).toNat)
  case atStart => exact ⟨0, _, rfl, by omega, h0, ids_L0, fresh_L0⟩
  case round =>
    clear h0
    obtain ⟨i, Ls, rfl, hik, h1, hI, hF⟩ := hrel
    by_cases hlt : i < k
    · have t1 : decide ((i : Int) < k) = true := decide_eq_true (by omega)
      obtain ⟨j, hj⟩ : ∃ j, i % 16 = j := ⟨_, rfl⟩
      have e1 : (i : Int) % 16 = (j : Int) := by omega
      have hok : okC (j : Int) = true := okC_nat (by omega)
      have hsm := le_tot hI.len (M := 50000) (by rw [hI.tot]; omega)
      clear hj
      go_wp2_with fail
      refine (inPut (j : Int) (i : Int) full h1 hsm).mono ?_; rintro e w2 ⟨rfl, h2⟩
      clear h1 hsm
      go_wp2_with fail
      go_roundw
      case rel => exact ⟨i + 1, _, by go_num, by omega, h2, hI.put hok full, hF.put hI.len _ _ _⟩
      case measure => simp [intOf]; omega
    · obtain rfl : k = i := by omega
      have t1 : decide ((k : Int) < k) = false := decide_eq_false (by omega)
      have t2 : decide (k < k) = false := decide_eq_false (by omega)
      cases begin with
      | true =>
        have hsm := le_tot hI.len (M := 20000) (by rw [hI.tot]; omega)
        go_wp2_with fail
        refine (inBegin h1 hsm).mono ?_; rintro e w3 ⟨rfl, h3⟩
        clear h1 hsm
        obtain ⟨B, hB⟩ : ∃ B, begTo Ls 32 = B := ⟨_, rfl⟩
        have hBl : B.length = 64 := by rw [← hB]; exact begTo_len _ _
        have hBt : tot B = k := by rw [← hB, (beg_sums hI.len 0 32 (by omega)).2]; exact hI.tot
        have hBc : ∀ y : Int, cntC B y = if 0 ≤ y ∧ y < k then 1 else 0 := fun y => by rw [← hB, (beg_sums hI.len y 32 (by omega)).1]; exact hI.cnt y
        have hBB : Beg B := by rw [← hB]; exact beg_begTo
        rw [hB] at h3
        have hx := HX.out
        obtain ⟨hit1, hLf⟩ := Left.of hBl hBt hBc hxk
        have hB2 := le_tot hBl (M := k) (by omega)
        obtain ⟨D, hD⟩ : ∃ D, delC B x = D := ⟨_, rfl⟩
        rw [hD] at hLf
        have hD2 := le_tot hLf.len (M := k) (by have := hLf.tot; omega)
        obtain ⟨p1, p2, p3, p4, p5, p6, p7, p8, p9, p10⟩ := hLf.put
        obtain ⟨E, hE⟩ : ∃ E, lput D x = E := ⟨_, rfl⟩
        rw [hE] at p3 p4 p5 p6 p7 p8 p9 p10
        obtain ⟨j, hj⟩ : ∃ j, x % 16 = j := ⟨_, rfl⟩
        rw [hj] at p3 p4 p5 p6 p7 p8 p10
        have hxj : (x : Int) % 16 = (j : Int) := by omega
        have htt := hLf.tot
        have HB2 := Lib.hid hB2
        have HD2 := Lib.hid hD2
        have HDD := Lib.hid hD
        have P1 := Lib.hid p1
        have P2 := Lib.hid p2
        have P3 := Lib.hid p3
        have P4 := Lib.hid p4
        have P5 := Lib.hid p5
        have P6 := Lib.hid p6
        have P7 := Lib.hid p7
        have P8 := Lib.hid p8
        have P10 := Lib.hid p10
        have HIT := Lib.hid hit1
        have HTT := Lib.hid htt
        clear hB2 hD2 p1 p2 p3 p4 p5 p6 p7 p8 p9 p10 hit1 htt hE hj
        have hu : (unsw D 16 : Int) = (k : Int) - 1 := by have := HTT.out; rw [unsw_beg (by rw [← hD]; exact hBB.del hBl _)]; omega
        have hu2 : (((k : Int) - 1) != ((k : Int) - 1)) = false := by simp
        have HU := Lib.hid hu
        clear hu hB hI hF hBl hBt hBc hBB hLf
        clear hD
        have hv := Lib.hid hx
        clear hx
        go_wp2_with fail
        try rw [hv.out]
        refine (inDel (x : Int) h3 (fun i => Nat.le_trans (HB2.out i) (by omega))).mono ?_; rintro e w4 ⟨rfl, h4⟩
        rw [HIT.out]
        rw [HDD.out] at h4
        clear h3
        go_wp2_with fail
        refine (inDel (x : Int) h4 (fun i => Nat.le_trans (HD2.out i) (by omega))).mono ?_; rintro e w5 ⟨rfl, h5⟩
        rw [P1.out]
        rw [P2.out] at h5
        clear h4
        go_wp2_with fail
        refine (inUnswept h5 (fun i => Nat.le_trans (HD2.out i) (by omega))).mono ?_; rintro e w6 ⟨rfl, h6⟩
        rw [HU.out]
        clear h5
        go_wp2_with fail
        refine (inPut (j : Int) (x : Int) false h6 (fun i => Nat.le_trans (HD2.out i) (by omega))).mono ?_; rintro e w7 ⟨rfl, h7⟩
        rw [P3.out] at h7
        clear h6
        go_wp2_with fail
        refine (inTake (j : Int) h7).mono ?_; rintro e w8 ⟨rfl, h8⟩
        rw [P4.out, P5.out, P6.out]
        clear h7
        go_wp2_with fail
        refine (centTakeNil 0 w8).mono ?_; rintro e w9 ⟨rfl, rfl⟩
        go_wp2_with fail
        refine (told8 w9).mono ?_; rintro e w10 ⟨rfl, c10⟩
        have h10 := h8.still c10
        clear h8 c10
        go_wp2_with fail
        refine (inDel (x : Int) h10 (fun i => Nat.le_trans (P10.out i) (by omega))).mono ?_; rintro e w11 ⟨rfl, h11⟩
        rw [P7.out]
        rw [delC_none P7.out] at h11
        clear h10
        go_wp2_with fail
        refine (inDel ((k : Int) + 7) h11 (fun i => Nat.le_trans (P10.out i) (by omega))).mono ?_; rintro e w12 ⟨rfl, h12⟩
        rw [P8.out]
        clear h11
        go_wp2_with fail
        refine (centUnsweptNil w12).mono ?_; rintro e w13 ⟨rfl, rfl⟩
        go_wp2_with fail
        refine (centDelNil 0 w13).mono ?_; rintro e w14 ⟨rfl, rfl⟩
        have hend := h12.ch.below (Nat.le_refl _) (by simp)
        clear h12
        go_wp2_with fail
        go_ret
        exact ⟨rfl, hend⟩
      | false =>
        obtain ⟨B, hB⟩ : ∃ B, Ls = B := ⟨_, rfl⟩
        rw [hB] at h1 hI hF
        clear hB
        have h3 := h1
        have hBl := hI.len
        have hBt := hI.tot
        have hBc := hI.cnt
        clear h1
        have hx := HX.out
        obtain ⟨hit1, hLf⟩ := Left.of hBl hBt hBc hxk
        have hB2 := le_tot hBl (M := k) (by omega)
        obtain ⟨D, hD⟩ : ∃ D, delC B x = D := ⟨_, rfl⟩
        rw [hD] at hLf
        have hD2 := le_tot hLf.len (M := k) (by have := hLf.tot; omega)
        obtain ⟨p1, p2, p3, p4, p5, p6, p7, p8, p9, p10⟩ := hLf.put
        obtain ⟨E, hE⟩ : ∃ E, lput D x = E := ⟨_, rfl⟩
        rw [hE] at p3 p4 p5 p6 p7 p8 p9 p10
        obtain ⟨j, hj⟩ : ∃ j, x % 16 = j := ⟨_, rfl⟩
        rw [hj] at p3 p4 p5 p6 p7 p8 p10
        have hxj : (x : Int) % 16 = (j : Int) := by omega
        have htt := hLf.tot
        have HB2 := Lib.hid hB2
        have HD2 := Lib.hid hD2
        have HDD := Lib.hid hD
        have P1 := Lib.hid p1
        have P2 := Lib.hid p2
        have P3 := Lib.hid p3
        have P4 := Lib.hid p4
        have P5 := Lib.hid p5
        have P6 := Lib.hid p6
        have P7 := Lib.hid p7
        have P8 := Lib.hid p8
        have P10 := Lib.hid p10
        have HIT := Lib.hid hit1
        have HTT := Lib.hid htt
        clear hB2 hD2 p1 p2 p3 p4 p5 p6 p7 p8 p9 p10 hit1 htt hE hj
        have hu : (unsw D 16 : Int) = 0 := by rw [unsw_fresh (by rw [← hD]; exact hF.del hBl _) 16 (by omega)]; rfl
        have HU := Lib.hid hu
        clear hu hI hF hBl hBt hBc hLf
        clear hD
        have hv := Lib.hid hx
        clear hx
        go_wp2_with fail
        try rw [hv.out]
        refine (inDel (x : Int) h3 (fun i => Nat.le_trans (HB2.out i) (by omega))).mono ?_; rintro e w4 ⟨rfl, h4⟩
        rw [HIT.out]
        rw [HDD.out] at h4
        clear h3
        go_wp2_with fail
        refine (inDel (x : Int) h4 (fun i => Nat.le_trans (HD2.out i) (by omega))).mono ?_; rintro e w5 ⟨rfl, h5⟩
        rw [P1.out]
        rw [P2.out] at h5
        clear h4
        go_wp2_with fail
        refine (inUnswept h5 (fun i => Nat.le_trans (HD2.out i) (by omega))).mono ?_; rintro e w6 ⟨rfl, h6⟩
        rw [HU.out]
        clear h5
        go_wp2_with fail
        refine (inPut (j : Int) (x : Int) false h6 (fun i => Nat.le_trans (HD2.out i) (by omega))).mono ?_; rintro e w7 ⟨rfl, h7⟩
        rw [P3.out] at h7
        clear h6
        go_wp2_with fail
        refine (inTake (j : Int) h7).mono ?_; rintro e w8 ⟨rfl, h8⟩
        rw [P4.out, P5.out, P6.out]
        clear h7
        go_wp2_with fail
        refine (centTakeNil 0 w8).mono ?_; rintro e w9 ⟨rfl, rfl⟩
        go_wp2_with fail
        refine (told8 w9).mono ?_; rintro e w10 ⟨rfl, c10⟩
        have h10 := h8.still c10
        clear h8 c10
        go_wp2_with fail
        refine (inDel (x : Int) h10 (fun i => Nat.le_trans (P10.out i) (by omega))).mono ?_; rintro e w11 ⟨rfl, h11⟩
        rw [P7.out]
        rw [delC_none P7.out] at h11
        clear h10
        go_wp2_with fail
        refine (inDel ((k : Int) + 7) h11 (fun i => Nat.le_trans (P10.out i) (by omega))).mono ?_; rintro e w12 ⟨rfl, h12⟩
        rw [P8.out]
        clear h11
        go_wp2_with fail
        refine (centUnsweptNil w12).mono ?_; rintro e w13 ⟨rfl, rfl⟩
        go_wp2_with fail
        refine (centDelNil 0 w13).mono ?_; rintro e w14 ⟨rfl, rfl⟩
        have hend := h12.ch.below (Nat.le_refl _) (by simp)
        clear h12
        go_wp2_with fail
        go_ret
        exact ⟨rfl, hend⟩
end Go.Proofs.Ytaafdhohiekakaa
