/-
  The walk of the statement PoolFlags: the law returns true at every input. Conditions: none.
-/
import Derived.Test.YtalnkhcippcghaaPoolMath2
namespace Go.Proofs.Ytalnkhcippcghaa
open Go.RowKit
set_option maxRecDepth 100000 in
set_option maxHeartbeats 2000000 in
theorem flags_walk (a0 : Int) (w : World) :
    Calls Try.prog 9 #[.int .i64 a0] w fun e w' => e = .returned (.bool true) ∧ Below w.heap.size w w' := by
  obtain ⟨k, hk, hkl⟩ := umod a0 101 (by decide) (by decide)
  have HK := Lib.hid hk
  clear hk
  go_enter Try.func9, Try.ntmps9
  go_wp2_with fail
  refine (poolNew w 2 (by omega) (by omega)).mono ?_; rintro e w1 hn
  obtain ⟨p, rfl, h0⟩ := PoolIn.new hn
  clear hn
  go_wp2_with fail
  try rw [HK.out]
  go_loopw [6] (fun s6 wr => ∃ i : Nat, s6 = .int .i64 ((i : Int) + 1) ∧ i ≤ k ∧ ∃ s, PoolIn w wr p 2 s ∧ PI i s) (fun s6 _ => k + 1 - (intOf s6).toNat)
  case atStart => exact ⟨0, rfl, by omega, _, h0, PI.init⟩
  case round =>
    clear h0
    obtain ⟨i, rfl, hik, s, h1, hI⟩ := hrel
    by_cases hlt : i < k
    · have t1 : decide ((i : Int) + 1 ≤ k) = true := decide_eq_true (by omega)
      have hb := hI.wt
      go_wp2_with fail
      refine (iPut (i := 0) ((i : Int) + 1) h1 (by omega) (by omega) (by omega) (by rw [hI.ne]; omega)).mono ?_; rintro e w2 ⟨rfl, h2, -⟩
      have hI2 := hI.put ((i : Int) + 1)
      clear h1 hI
      go_wp2_with fail
      go_roundw
      case rel => exact ⟨i + 1, by go_num, by omega, _, h2, hI2⟩
      case measure => simp [intOf]; omega
    · obtain rfl : i = k := by omega
      have t1 : decide ((i : Int) + 1 ≤ i) = false := decide_eq_false (by omega)
      have hF := hI.flag
      have hF1 := hI.fl1
      have hb := hI.wt
      have hne := hI.ne
      go_wp2_with fail
      refine (sFlushed (i := 0) h1.1 (by omega)).mono ?_; rintro e w2 ⟨rfl, rfl⟩
      rw [hF]
      have z1 : (decide (64 < i) != decide ((i : Int) > 64)) = false := by
        rw [show decide ((i : Int) > 64) = decide (64 < i) by apply decide_eq_decide.2; omega]; simp
      go_wp2_with fail
      refine (sFlushed (i := 1) h1.1 (by omega)).mono ?_; rintro e w3 ⟨rfl, rfl⟩
      rw [hF1]
      go_wp2_with fail
      refine (iReset (i := 0) h1 (by omega)).mono ?_; rintro e w4 ⟨rfl, h2, -⟩
      obtain ⟨s2, hs2⟩ : ∃ s2, s.flag 0 false = s2 := ⟨_, rfl⟩
      have q1 : s2.fl 0 = false := by rw [← hs2]; exact updN_at s.fl 0 false
      have q2 : s2.full.length = s.full.length := by rw [← hs2]; rfl
      have q3 : s2.ne = 0 := by rw [← hs2]; exact hne
      rw [hs2] at h2
      clear h1 hs2 hI hF hF1 z1
      go_wp2_with fail
      refine (sFlushed (i := 0) h2.1 (by omega)).mono ?_; rintro e w5 ⟨rfl, rfl⟩
      rw [q1]
      go_wp2_with fail
      refine (iGet (i := 0) h2 (by omega) (by omega) (by omega)).mono ?_; rintro e w6 ⟨rfl, h3, -⟩
      obtain ⟨r1, r2⟩ := get_rows (s := s2) (i := 0)
      obtain ⟨s3, hs3⟩ : ∃ s3, getS s2 0 = s3 := ⟨_, rfl⟩
      rw [hs3] at h3 r1 r2
      have q4 : s3.fl 0 = false := by rw [r2]; exact q1
      clear h2 hs3 r2
      go_wp2_with fail
      refine (sFlushed (i := 0) h3.1 (by omega)).mono ?_; rintro e w7 ⟨rfl, rfl⟩
      rw [q4]
      go_wp2_with fail
      refine (iLocal (i := 0) h3 (by omega)).mono ?_; rintro e w8 ⟨rfl, h4, -⟩
      have hfl := flush_fl (s := s3) (i := 0)
      rw [q4, Bool.false_or] at hfl
      obtain ⟨hg, hhg⟩ : ∃ hg, (s3.one 0).length + (s3.two 0).length = hg := ⟨_, rfl⟩
      rw [hhg] at hfl ⊢
      obtain ⟨fo, ft⟩ := flush_own (s := s3) (i := 0)
      clear h3 hhg
      go_wp2_with fail
      refine (iFlush (i := 0) h4 (by omega) (by omega) (by omega)).mono ?_; rintro e w9 ⟨rfl, h5, -⟩
      clear h4
      go_wp2_with fail
      refine (told18 w9).mono ?_; rintro e w10 ⟨rfl, c10⟩
      have h6 := h5.still c10
      clear h5 c10
      go_wp2_with fail
      refine (sFlushed (i := 0) h6.1 (by omega)).mono ?_; rintro e w11 ⟨rfl, rfl⟩
      rw [hfl]
      have z2 : (decide (0 < hg) == decide ((hg : Int) > 0)) = true := by
        rw [show decide ((hg : Int) > 0) = decide (0 < hg) by apply decide_eq_decide.2; omega]; simp
      have HFL := Lib.hid hfl
      clear hfl
      go_wp2_with fail
      refine (iLocal (i := 0) h6 (by omega)).mono ?_; rintro e w12 ⟨rfl, h7, -⟩
      rw [fo, ft]
      have hend := h7.2.below (Nat.le_refl _) (by simp)
      clear h6 h7
      go_wp2_with fail
      go_ret
      exact ⟨rfl, hend⟩
end Go.Proofs.Ytalnkhcippcghaa
