/-
  The walk of the statement PoolLists: the law returns true at every input. Conditions: none.
-/
import Derived.Test.YtalnkhcippcghaaPoolMath2
namespace Go.Proofs.Ytalnkhcippcghaa
open Go.RowKit
/-- What stays while the second P gets. -/
structure PG (m k : Nat) (s : PSt) : Prop where
  wt : Go.Proofs.Ytalnkhcippcghaa.wt List.length s 2 = k
  oth : s.one 0 = [] ∧ s.two 0 = []
  rows : s.full.length + s.ne = m
theorem PG.get {m k : Nat} {s : PSt} (h : PG m (k + 1) s) (hp : ∀ L ∈ s.full, L ≠ []) : getB s 1 = true ∧ PG m k (getS s 1) := by
  have hb : getB s 1 = true := getB_of (n := 2) (by omega) (fun j hj hne => by
    obtain rfl : j = 0 := by omega
    exact h.oth) (by rw [h.wt]; omega)
  refine ⟨hb, ?_, ?_, ?_⟩
  · have := wt_get (n := 2) addLen (by omega) hp hb
    rw [h.wt] at this
    simpa using this
  · have := get_others (s := s) (i := 1) (j := 0) (by omega)
    rw [this.1, this.2]; exact h.oth
  · rw [get_rows.1]; exact h.rows
theorem PI.wt2 {i : Nat} {s : PSt} (h : PI i s) (hp : Go.Proofs.Ytalnkhcippcghaa.wt List.length s 2 = i) : PG ((i + 31) / 32) i (flushS s 0) := by
  refine ⟨by rw [flush_wt rfl (by omega)]; exact hp, flush_own, ?_⟩
  have := flush_ne (s := s) (i := 0)
  have := h.ne
  rw [h.rows]; omega
set_option maxRecDepth 100000 in
set_option maxHeartbeats 2000000 in
theorem lists_walk (a0 : Int) (w : World) :
    Calls Try.prog 11 #[.int .i64 a0] w fun e w' => e = .returned (.bool true) ∧ Below w.heap.size w w' := by
  obtain ⟨k, hk, hkl⟩ := umod a0 301 (by decide) (by decide)
  have HK := Lib.hid hk
  clear hk
  go_enter Try.func11, Try.ntmps11
  go_wp2_with fail
  refine (poolNew w 2 (by omega) (by omega)).mono ?_; rintro e w1 hn
  obtain ⟨p, rfl, h0⟩ := PoolIn.new hn
  clear hn
  go_wp2_with fail
  try rw [HK.out]
  go_loopw [6] (fun s6 wr => ∃ i : Nat, s6 = .int .i64 ((i : Int) + 1) ∧ i ≤ k ∧ ∃ s, PoolIn w wr p 2 s ∧ PI i s ∧ wt List.length s 2 = i) (fun s6 _ => k + 1 - (intOf s6).toNat)
  case atStart => exact ⟨0, rfl, by omega, _, h0, PI.init, rfl⟩
  case round =>
    clear h0
    obtain ⟨i, rfl, hik, s, h1, hI, hW⟩ := hrel
    by_cases hlt : i < k
    · have t1 : decide ((i : Int) + 1 ≤ k) = true := decide_eq_true (by omega)
      have hb := hI.wt
      go_wp2_with fail
      refine (iPut (i := 0) ((i : Int) + 1) h1 (by omega) (by omega) (by omega) (by rw [hI.ne]; omega)).mono ?_; rintro e w2 ⟨rfl, h2, -⟩
      have hI2 := hI.put ((i : Int) + 1)
      have hW2 := wt_put (n := 2) (i := 0) (s := s) addLen (by omega) ((i : Int) + 1)
      rw [hW] at hW2
      clear h1 hI hW
      go_wp2_with fail
      go_roundw
      case rel => exact ⟨i + 1, by go_num, by omega, _, h2, hI2, hW2⟩
      case measure => simp [intOf]; omega
    · obtain rfl : i = k := by omega
      have t1 : decide ((i : Int) + 1 ≤ i) = false := decide_eq_false (by omega)
      have hb := hI.wt
      have hG := hI.wt2 hW
      have hR := hI.rows
      have hFl := hI.had
      have hne2 : (flushS s 0).ne = 0 := by have := flush_ne (s := s) (i := 0); have := hI.ne; omega
      have hne := hI.ne
      go_wp2_with fail
      refine (iFlush (i := 0) h1 (by omega) (by omega) (by omega)).mono ?_; rintro e w2 ⟨rfl, h2, -⟩
      obtain ⟨s2, hs2⟩ : ∃ s2, flushS s 0 = s2 := ⟨_, rfl⟩
      rw [hs2] at h2 hG hR hFl hne2
      obtain ⟨m, hm⟩ : ∃ m, (i + 31) / 32 = m := ⟨_, rfl⟩
      rw [hm] at hG hR
      have hm2 : ((i : Int) + 31) / 32 = (m : Int) := by omega
      have hm3 : m ≤ 20 := by omega
      have hw31 : wrap64 ((i : Int) + 31) = (i : Int) + 31 := IntWalk.wrap64_in _ (by omega)
      clear h1 hs2 hI hW hb hm hne
      go_wp2_with fail
      refine (iLists h2).mono ?_; rintro e w3 ⟨rfl, h3, -⟩
      rw [hR, hne2]
      have z1 : ((m : Int) != (m : Int)) = false := by simp
      have z2 : ((i : Int) != (i : Int)) = false := by simp
      clear h2
      go_wp2_with fail
      refine (iLen h3 (by omega) (by omega)).mono ?_; rintro e w4 ⟨rfl, h4, -⟩
      rw [hG.wt]
      clear h3
      go_wp2_with fail
      refine (sFlushed (i := 0) h4.1 (by omega)).mono ?_; rintro e w5 ⟨rfl, rfl⟩
      rw [hFl]
      have z3 : (decide (0 < i) != decide ((i : Int) > 0)) = false := by
        rw [show decide ((i : Int) > 0) = decide (0 < i) by apply decide_eq_decide.2; omega]; simp
      have HFl := Lib.hid hFl
      clear hFl
      go_wp2_with fail
      clear z1 z2 z3 hm2 hw31 hne2 hR
      go_loopw [9, 10, 11] (fun s9 s10 s11 wr => ∃ j : Nat, s9 = .int .i64 j ∧ j ≤ i ∧ ∃ s, PoolIn w wr p 2 s ∧ PG m (i - j) s) (fun s9 _ _ _ => i - (intOf s9).toNat)
      case atStart => exact ⟨0, rfl, by omega, _, h4, hG⟩
      case round =>
        clear h4 hG
        obtain ⟨j, rfl, hj, s, h5, hG⟩ := hrel
        have hrows := hG.rows
        by_cases hjl : j < i
        · have t2 : decide ((j : Int) < i) = true := decide_eq_true (by omega)
          obtain ⟨g1, g2⟩ := PG.get (k := i - (j + 1)) (by rw [show i - (j + 1) + 1 = i - j by omega]; exact hG) h5.pos
          have G1 := Lib.hid g1
          clear g1
          go_wp2_with fail
          refine (iGet (i := 1) h5 (by omega) (by omega) (by omega)).mono ?_; rintro e w6 ⟨rfl, h6, -⟩
          rw [G1.out]
          clear h5 hG
          go_wp2_with fail
          go_roundw
          case rel => exact ⟨j + 1, by go_num, by omega, _, h6, g2⟩
          case measure => simp [intOf]; omega
        · obtain rfl : j = i := by omega
          have t2 : decide ((j : Int) < j) = false := decide_eq_false (by omega)
          have hw := hG.wt
          rw [Nat.sub_self] at hw
          obtain ⟨z1, _⟩ := wt_zero h5.pos hw
          rw [z1, List.length_nil, Nat.zero_add] at hrows
          have z2 : ((m : Int) == (m : Int)) = true := by simp
          have HW := Lib.hid hw
          have HZ := Lib.hid z1
          clear hw z1 hG
          go_wp2_with fail
          refine (iLists h5).mono ?_; rintro e w6 ⟨rfl, h6, -⟩
          rw [HZ.out, hrows, List.length_nil]
          clear h5 hrows
          go_wp2_with fail
          refine (poolGetNil 0 w6).mono ?_; rintro e w7 ⟨rfl, rfl⟩
          go_wp2_with fail
          refine (told18 w7).mono ?_; rintro e w8 ⟨rfl, c8⟩
          have h8 := h6.still c8
          clear h6 c8
          go_wp2_with fail
          refine (iLen h8 (by omega) (by rw [HZ.out]; simp)).mono ?_; rintro e w9 ⟨rfl, h9, -⟩
          rw [HW.out]
          clear h8
          go_wp2_with fail
          refine (poolLenNil w9).mono ?_; rintro e w10 ⟨rfl, rfl⟩
          go_wp2_with fail
          refine (poolGiveNil 0 w10).mono ?_; rintro e w11 ⟨rfl, rfl⟩
          go_wp2_with fail
          refine (poolFlushedNil 0 w11).mono ?_; rintro e w12 ⟨rfl, rfl⟩
          have hend := h9.2.below (Nat.le_refl _) (by simp)
          clear h9
          go_wp2_with fail
          go_ret
          exact ⟨rfl, hend⟩
end Go.Proofs.Ytalnkhcippcghaa
