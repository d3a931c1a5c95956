/-
  The walk of the statement RootsEach: the law returns true at every input. Conditions: none.
-/
import Derived.Test.YtebibdoekcophaaRootsNew
import Derived.Test.YtebibdoekcophaaInfo
import Derived.Deep.LoopGhost
namespace Go.Proofs.Ytebibdoekcophaa
open Go.RowKit
set_option maxRecDepth 100000 in
set_option maxHeartbeats 1000000 in
theorem told21 (w : World) : Calls Try.prog 28 #[] w fun e w' => e = .returned (.bool true) ∧ Ch [] w w' := by
  go_enter Try.func28, Try.ntmps28
  go_wp2_with fail
  have r0 : Rd (w.alloc (.cells #[.int .i64 4] 3)) (some ⟨w.heap.size, 0, none⟩) [4] := .inr ⟨_, _, rfl, fun i hi => by
    have : i = 0 := by simp at hi; omega
    subst this
    exact (Blk.new w _ _).cell 0⟩
  refine (rootsNew 9 _ [4] 1 _ (by decide) (by decide) r0 (by decide)).mono ?_; rintro e w1 ⟨rfl, v1, h1, hv1, hc1⟩
  rw [show gJobs 9 (gCount 9) ++ sJobs [4] = [((-1, 0, 8) : Job), (-1, 8, 9), (4, 0, 16)] from rfl] at h1
  obtain ⟨b, hb⟩ : ∃ b, (w.alloc (.cells #[.int .i64 4] 3)).heap.size = b := ⟨_, rfl⟩
  rw [hb] at h1 hv1 ⊢
  have HB := Lib.hid hb
  clear hb
  go_wp2_with fail
  refine (rootsLeft _ _ _ _ h1).mono ?_; rintro e w2 ⟨rfl, rfl⟩
  go_wp2_with fail
  refine (rootsNext _ _ _ _ _ h1).mono ?_; rintro e w3 ⟨rfl, v3, h3, hc3, ho3⟩
  go_wp2_with fail
  have b3 : Blk (w3.alloc (.cells #[.int .i64 (-1), .int .i64 0, .int .i64 8] 41)) w3.heap.size #[.int .i64 (-1), .int .i64 0, .int .i64 8] 41 := Blk.new _ _ _
  refine (rootsNext _ _ _ _ _ (h3.keep ((Ch.refl [] w3).alloc _) (by simp) (by simp))).mono ?_; rintro e w4 ⟨rfl, v4, h4, hc4, ho4⟩
  have hb3 : b < w3.heap.size := h3.1.lt
  have b34 := b3.keep hc4 (by simp; omega)
  go_wp2_with fail
  have b4 : Blk (w4.alloc (.cells #[.int .i64 (-1), .int .i64 8, .int .i64 9] 41)) w4.heap.size #[.int .i64 (-1), .int .i64 8, .int .i64 9] 41 := Blk.new _ _ _
  refine (rootsNext _ _ _ _ _ (h4.keep ((Ch.refl [] w4).alloc _) (by simp) (by simp))).mono ?_; rintro e w5 ⟨rfl, v5, h5, hc5, ho5⟩
  have hb4 : b < w4.heap.size := h4.1.lt
  have b35 := (b34.alloc (.cells #[.int .i64 (-1), .int .i64 8, .int .i64 9] 41)).keep hc5 (by simp; omega)
  have b45 := b4.keep hc5 (by simp; omega)
  go_wp2_with fail
  have b5 : Blk (w5.alloc (.cells #[.int .i64 4, .int .i64 0, .int .i64 16] 41)) w5.heap.size #[.int .i64 4, .int .i64 0, .int .i64 16] 41 := Blk.new _ _ _
  refine (rootsNextEmpty _ _ _ (h5.keep ((Ch.refl [] w5).alloc _) (by simp) (by simp))).mono ?_; rintro e w6 ⟨rfl, h6, hc6⟩
  have b36 := (b35.alloc (.cells #[.int .i64 4, .int .i64 0, .int .i64 16] 41)).keep hc6 (by simp)
  have b46 := (b45.alloc (.cells #[.int .i64 4, .int .i64 0, .int .i64 16] 41)).keep hc6 (by simp)
  have b56 := b5.keep hc6 (by simp)
  have z3 := b36.lt
  have z4 := b46.lt
  have z5 := b56.lt
  have c30 := b36.cell 0
  have c31 := b36.cell 1
  have c32 := b36.cell 2
  have c40 := b46.cell 0
  have c41 := b46.cell 1
  have c42 := b46.cell 2
  have c50 := b56.cell 0
  have c51 := b56.cell 1
  have c52 := b56.cell 2
  clear b3 b34 b4 b35 b45 b5
  go_wp2_with fail
  go_ret
  have hbw : ∀ i ∈ [b], i ∈ ([] : List Nat) ∨ w.heap.size ≤ i := by
    intro i hi
    have := HB.out
    simp at hi this
    exact .inr (by omega)
  have k2 := ((Ch.refl [] w).alloc (.cells #[.int .i64 4] 3)).trans hc1
  have k3 := (k2.transT hc3 hbw).alloc (.cells #[.int .i64 (-1), .int .i64 0, .int .i64 8] 41)
  have k4 := (k3.transT hc4 hbw).alloc (.cells #[.int .i64 (-1), .int .i64 8, .int .i64 9] 41)
  have k5 := ((k4.transT hc5 hbw).alloc (.cells #[.int .i64 4, .int .i64 0, .int .i64 16] 41)).trans hc6
  exact ⟨rfl, k5.alloc _⟩
/-- The p-th of all jobs. -/
theorem allJobs_low (gl : Int) (k p : Nat) (h : p < gCount gl) : (gJobs gl (gCount gl) ++ sJobs (upto k))[p]? = some (gJob gl p) := by
  rw [List.getElem?_append_left (by rw [gJobs_len]; exact h)]
  simp [gJobs, h]
theorem allJobs_high (gl : Int) (k p : Nat) (h : gCount gl ≤ p) (h' : p < gCount gl + k) : (gJobs gl (gCount gl) ++ sJobs (upto k))[p]? = some (((p - gCount gl : Nat) : Int), 0, 16) := by
  rw [List.getElem?_append_right (by rw [gJobs_len]; exact h), gJobs_len]
  simp [sJobs, upto, show p - gCount gl < k by omega]
set_option maxRecDepth 100000 in
set_option maxHeartbeats 2000000 in
theorem each_walk (a0 : Int) (a1 : Int) (w0 : (Lit.int .i64 a0).wf = true) (w1 : (Lit.int .i64 a1).wf = true) (w : World) :
    Calls Try.prog 6 #[.int .i64 a0, .int .i64 a1] w fun e w' => e = .returned (.bool true) ∧ Below w.heap.size w w' := by
  obtain ⟨g, hg, hgl⟩ := umod a0 101 (by decide) (by decide)
  obtain ⟨k, hk, hkl⟩ := umod a1 51 (by decide) (by decide)
  obtain ⟨i0, hi0, hz0, hz1, hz2⟩ := info_parts Try.infoInt
  go_enter Try.func6, Try.ntmps6
  go_wp2_with fail
  rw [hg, hk]
  clear hg hk
  go_loopw [7, 8] (fun s7 s8 wr => ∃ i : Nat, s8 = .int .i64 i ∧ i ≤ k ∧ Own wr 3 1 s7 i ((upto i).map (Value.int .i64)) ∧ (∀ q, s7.ownBlock = some q → w.heap.size ≤ q) ∧ Ch [] w wr) (fun _ s8 _ => k - (intOf s8).toNat)
  case atStart => exact ⟨0, rfl, by omega, Own.nil _ _ _, by simp [Value.ownBlock], Ch.refl _ _⟩
  case round =>
    obtain ⟨i, rfl, hi, hO, hv, hc⟩ := hrel
    by_cases hlt : i < k
    · have hO1 := hO.alloc (.cells #[.int .i64 (i : Int)] 3)
      go_wp2_with (at_builtin; refine wpList_append_Own rfl _ _ 22 22 rfl 3 i0 (.int .i64 0) 1 8 Try.underlying22 hi0 hz0 hz1 hz2 rfl u7 i _ rfl hO1 _ 1 [.int .i64 (i : Int)] rfl (Src_lit Try.underlying22 _ [_] 1 1 rfl _ (mem_one rfl)) (by unfold maxLen; omega) (by omega) ?_)
      intro v' w2 hown2 hc2 hf2
      go_wp2
      go_roundw
      case rel =>
        refine ⟨i + 1, by go_num, by omega, by rw [upto_succ]; simpa using hown2, ?_, (hc.alloc (.cells #[.int .i64 (i : Int)] 3)).transT hc2 (fun q hq => .inr (hv q (by simpa using hq)))⟩
        intro q hq
        rcases hf2 with h | h
        · exact hv q (by rw [← h]; exact hq)
        · have := h q hq; have := hc.size; simp at *; omega
      case measure => simp [intOf]; omega
    · obtain rfl : i = k := by omega
      obtain ⟨ga, gc, rfl, hn1, hn2, hn3, hrd⟩ := hO.rd
      rw [upto_len]
      clear hn1 hn2 hn3 hO
      go_wp2_with fail
      have hR := rootsNew (g : Int) ga (upto i) gc wr (by omega) (by rw [upto_len]; omega) hrd (by omega)
      rw [upto_len] at hR
      refine hR.mono ?_; rintro e w2 ⟨rfl, v2, h2, hv2, hc2⟩
      obtain ⟨b, hb⟩ : ∃ b, wr.heap.size = b := ⟨_, rfl⟩
      have hbw : w.heap.size ≤ b := by rw [← hb]; exact hc.size
      rw [hb] at h2 hv2 ⊢
      clear hb
      obtain ⟨G, hG⟩ : ∃ G, gCount g = G := ⟨_, rfl⟩
      have hGg : 8 * G < g + 8 ∧ g ≤ 8 * G := by rw [← hG]; unfold gCount; omega
      have hlen : (gJobs g (gCount g) ++ sJobs (upto i)).length = G + i := by rw [List.length_append, gJobs_len, sJobs_len, upto_len, hG]
      obtain ⟨J, hJ⟩ : ∃ J, gJobs g (gCount g) ++ sJobs (upto i) = J := ⟨_, rfl⟩
      have hlow : ∀ p, p < G → J[p]? = some (gJob g p) := fun p hp => by rw [← hJ]; exact allJobs_low g i p (by rw [hG]; exact hp)
      have hhigh : ∀ p, G ≤ p → p < G + i → J[p]? = some (((p - G : Nat) : Int), 0, 16) := fun p hp hp' => by rw [← hJ, ← hG]; exact allJobs_high g i p (by rw [hG]; exact hp) (by rw [hG]; exact hp')
      rw [hJ] at h2 hlen
      have HLOW := Lib.hid hlow
      have HHIGH := Lib.hid hhigh
      have HLEN := Lib.hid hlen
      clear hJ hG hlow hhigh hlen hR
      have hLeft := rootsLeft b v2 J w2 h2
      rw [HLEN.out] at hLeft
      have q1 : ((g : Int) + 7) / 8 = G := by omega
      go_wp2_with fail
      refine hLeft.mono ?_; rintro e w3 ⟨rfl, rfl⟩
      clear hLeft
      go_wp2_with fail
      clear q1 hrd hv hi hlt
      go_loopg [10, 11] (G + i) (fun r s10 s11 wx => ∃ (p : Nat) (v : Value), p + r = G + i ∧ RootsAt wx b v (J.drop p) ∧ (∀ q, v.ownBlock = some q → b < q) ∧ s10 = .int .i64 ((min (8 * p) g : Nat) : Int) ∧ s11 = .int .i64 ((p - G : Nat) : Int) ∧ Ch [] w wx)
      case atStart => exact ⟨0, v2, by omega, h2, hv2, by simp, by simp, hc.trans hc2⟩
      case round =>
        clear h2 hv2 hc hc2
        obtain ⟨p, v, hpr, hR, hv, rfl, rfl, hc⟩ := hrel
        have hL := rootsLeft b v (J.drop p) wr hR
        rw [List.length_drop, HLEN.out, show G + i - p = gk by omega] at hL
        have HL := Lib.hid hL
        clear hL
        by_cases hlt : 0 < gk
        · by_cases hpG : p < G
          · have hj := drop_cons J p _ (HLOW.out p hpG)
            rw [hj] at hR
            obtain ⟨m, hm⟩ : ∃ m : Nat, (if (g : Int) < 8 * (p : Int) + 8 then (g : Int) else 8 * (p : Int) + 8) = m := ⟨min g (8 * p + 8), by split <;> omega⟩
            have hmm : m = min g (8 * p + 8) := by split at hm <;> omega
            rw [show gJob (g : Int) p = (-1, 8 * (p : Int), (m : Int)) by rw [← hm]; rfl] at hR
            have e1 : ((min (8 * p) g : Nat) : Int) = 8 * (p : Int) := by omega
            have e2 : ((p - G : Nat) : Int) = 0 := by omega
            rw [e1, e2]
            have hm1 : 8 * p < m := by omega
            have hm2 : m ≤ 8 * p + 8 := by omega
            have hm3 : 8 ≤ m - 8 * p ∨ (m - 8 * p < 8 ∧ m = g) := by omega
            have HM := Lib.hid hmm
            clear hj hm hmm e1 e2
            rcases hm3 with hm3 | ⟨hm3, hm4⟩
            all_goals
              try subst hm4
              go_wp2_with fail
              refine HL.out.mono ?_; rintro e w4 ⟨rfl, rfl⟩
              go_wp2_with fail
              refine (rootsNext _ _ _ _ _ hR).mono ?_; rintro e w5 ⟨rfl, v5, h5, hc5, hf5⟩
              go_wp2
              go_roundg (gk - 1)
              case measure => omega
              case rel =>
                have hmv := HM.out
                exact ⟨p + 1, v5, by omega, h5.keep ((Ch.refl [] w5).alloc _) (by simp) (by simp), by rw [hf5]; exact hv, by congr 1; omega, by congr 1; omega,
                  (hc.transT hc5 (by intro q hq; simp at hq; exact .inr (by omega))).alloc _⟩
          · have hj := drop_cons J p _ (HHIGH.out p (by omega) (by omega))
            rw [hj] at hR
            obtain ⟨t, ht⟩ : ∃ t : Nat, p - G = t := ⟨_, rfl⟩
            rw [ht] at hR ⊢
            have HT := Lib.hid ht
            have e1 : ((min (8 * p) g : Nat) : Int) = g := by omega
            have ht2 : ((t : Int) == -1) = false := by rw [beq_eq_false_iff_ne]; omega
            rw [e1]
            clear hj ht e1
            go_wp2_with fail
            refine HL.out.mono ?_; rintro e w4 ⟨rfl, rfl⟩
            go_wp2_with fail
            refine (rootsNext _ _ _ _ _ hR).mono ?_; rintro e w5 ⟨rfl, v5, h5, hc5, hf5⟩
            have htb : t ≤ 60 := by have := HT.out; omega
            go_wp2
            go_roundg (gk - 1)
            case measure => omega
            case rel =>
              have htv := HT.out
              exact ⟨p + 1, v5, by omega, h5.keep ((Ch.refl [] w5).alloc _) (by simp) (by simp), by rw [hf5]; exact hv, by congr 1; omega, by congr 1; omega,
                (hc.transT hc5 (by intro q hq; simp at hq; exact .inr (by omega))).alloc _⟩
        · have hp : p = G + i := by omega
          have e1 : ((min (8 * p) g : Nat) : Int) = g := by omega
          have e2 : ((p - G : Nat) : Int) = i := by omega
          rw [e1, e2]
          clear e1 e2 hp
          go_wp2_with fail
          refine HL.out.mono ?_; rintro e w4 ⟨rfl, rfl⟩
          go_wp2_with fail
          refine (told21 _).mono ?_; rintro e w5 ⟨rfl, hc5⟩
          go_wp2
          go_ret
          exact ⟨rfl, (hc.trans hc5).below (Nat.le_refl _) (by simp)⟩
end Go.Proofs.Ytebibdoekcophaa
