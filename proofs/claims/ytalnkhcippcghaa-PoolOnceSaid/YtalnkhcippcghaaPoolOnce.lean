/-
  The walk of the statement PoolOnce: the law returns true at every input. Conditions: none beyond how the arguments are read.
-/
import Derived.Test.YtalnkhcippcghaaPoolMath2
import Derived.Test.YtalnkhcippcghaaBools
namespace Go.Proofs.Ytalnkhcippcghaa
open Go.RowKit
/-- The pool holds 1 to i, each once; no buffer is empty in common. -/
structure PO (n i : Nat) (s : PSt) : Prop where
  len : wt List.length s n = i
  cnt : ∀ y : Int, wt (List.count y) s n = if 1 ≤ y ∧ y ≤ i then 1 else 0
  ne : s.ne = 0
theorem PO.init (n : Nat) : PO n 0 initP := ⟨wt_init rfl n, fun y => by rw [wt_init rfl n, if_neg (by omega)], rfl⟩
theorem PO.put {n i q : Nat} {s : PSt} (h : PO n i s) (hq : q < n) : PO n (i + 1) (putS s q ((i : Int) + 1)) := by
  refine ⟨?_, fun y => ?_, ?_⟩
  · rw [wt_put addLen hq, h.len]; rfl
  · rw [wt_put (addCnt y) hq, h.cnt, List.count_singleton]
    by_cases e : ((i : Int) + 1 == y) = true
    · rw [if_pos e]
      have e' : (i : Int) + 1 = y := by simpa using e
      rw [if_neg (by omega), if_pos (by omega)]
    · rw [if_neg e]
      have e' : ¬ (i : Int) + 1 = y := by simpa using e
      by_cases h1 : 1 ≤ y ∧ y ≤ (i : Int)
      · rw [if_pos h1, if_pos (by omega)]
      · rw [if_neg h1, if_neg (by omega)]
  · have := put_ne (s := s) (i := q) ((i : Int) + 1)
    have := h.ne
    omega
theorem PO.put1 {n i q : Nat} {s : PSt} (h : PO n (i - 1) s) (hi : 1 ≤ i) (hq : q < n) : PO n i (putS s q (i : Int)) := by
  have := h.put hq
  rw [show i - 1 + 1 = i by omega, show ((i - 1 : Nat) : Int) + 1 = i by omega] at this
  exact this
theorem PO.give {n i q : Nat} {s : PSt} (h : PO n i s) (hq : q < n) : PO n i (giveS s q) := by
  refine ⟨by rw [give_wt addLen hq]; exact h.len, fun y => by rw [give_wt (addCnt y) hq]; exact h.cnt y, ?_⟩
  have := give_ne (s := s) (i := q)
  have := h.ne
  omega
theorem PO.flush {n i q : Nat} {s : PSt} (h : PO n i s) (hq : q < n) : PO n i (flushS s q) := by
  refine ⟨by rw [flush_wt rfl hq]; exact h.len, fun y => by rw [flush_wt rfl hq]; exact h.cnt y, ?_⟩
  have := flush_ne (s := s) (i := q)
  have := h.ne
  omega
/-- Behind i of k: who is told is in U, who is not is in the pool; only P l has any of its own. -/
structure PT3 (n l k i : Nat) (U : Nat → Bool) (s : PSt) : Prop where
  len : wt List.length s n + i = k
  cnt : ∀ y : Int, wt (List.count y) s n = if 1 ≤ y ∧ y ≤ k ∧ U y.toNat = false then 1 else 0
  oth : ∀ j, j < n → j ≠ l → s.one j = [] ∧ s.two j = []
  rows : s.full.length + s.ne ≤ 300
theorem PO.start {n l k : Nat} {s : PSt} (h : PO n k s) (hk : k ≤ 300) (hp : ∀ L ∈ s.full, L ≠ []) (ho : ∀ j, j < n → s.one j = [] ∧ s.two j = []) : PT3 n l k 0 noneB s := by
  refine ⟨h.len, fun y => ?_, fun j hj _ => ho j hj, ?_⟩
  · rw [h.cnt]
    by_cases h1 : 1 ≤ y ∧ y ≤ (k : Int)
    · rw [if_pos h1, if_pos ⟨h1.1, h1.2, rfl⟩]
    · rw [if_neg h1, if_neg (fun e => h1 ⟨e.1, e.2.1⟩)]
  · have := full_le (n := n) hp
    have := h.len
    have := h.ne
    omega
theorem PT3.get {n l k i : Nat} {U : Nat → Bool} {s : PSt} (h : PT3 n l k i U s) (hl : l < n) (hi : i < k) (hp : ∀ L ∈ s.full, L ≠ []) :
    getB s l = true ∧ ∃ x : Nat, getV s l = x ∧ 1 ≤ x ∧ x ≤ k ∧ U x = false ∧ PT3 n l k (i + 1) (updB U x true) (getS s l) := by
  have hlen := h.len
  have hb : getB s l = true := getB_of hl h.oth (by omega)
  have hw := wt_get (f := List.length) addLen hl hp hb
  have hc := fun y : Int => wt_get (f := List.count y) (addCnt y) hl hp hb
  obtain ⟨v, hv⟩ : ∃ v, getV s l = v := ⟨_, rfl⟩
  rw [hv] at hw hc
  have h1 := hc v
  rw [List.count_singleton, if_pos (by simp), h.cnt] at h1
  have hr : 1 ≤ v ∧ v ≤ (k : Int) ∧ U v.toNat = false := by
    by_cases e : 1 ≤ v ∧ v ≤ (k : Int) ∧ U v.toNat = false
    · exact e
    · rw [if_neg e] at h1; omega
  obtain ⟨x, hx⟩ : ∃ x : Nat, v = x := ⟨v.toNat, by omega⟩
  subst hx
  rw [Int.toNat_natCast] at hr
  refine ⟨hb, x, hv, by omega, by omega, hr.2.2, ?_, fun y => ?_, fun j hj hne => ?_, ?_⟩
  · have : [(x : Int)].length = 1 := rfl
    omega
  · have h2 := hc y
    rw [List.count_singleton, h.cnt] at h2
    by_cases e : ((x : Int) == y) = true
    · have e' : (x : Int) = y := by simpa using e
      subst e'
      rw [if_pos e, if_pos ⟨hr.1, hr.2.1, by rw [Int.toNat_natCast]; exact hr.2.2⟩] at h2
      rw [if_neg (by intro e3; have := e3.2.2; rw [Int.toNat_natCast] at this; simp [updB] at this)]
      omega
    · have e' : ¬ (x : Int) = y := by simpa using e
      rw [if_neg e] at h2
      rw [Nat.add_zero] at h2
      rw [h2]
      by_cases hy : 1 ≤ y
      · have : updB U x true y.toNat = U y.toNat := by unfold updB; rw [if_neg (by omega)]
        rw [this]
      · rw [if_neg (by omega), if_neg (by omega)]
  · have := get_others (s := s) hne
    rw [this.1, this.2]; exact h.oth j hj hne
  · rw [get_rows.1]; exact h.rows
theorem PT3.done {n l k : Nat} {U : Nat → Bool} {s : PSt} (h : PT3 n l k k U s) (h0 : 0 < n) (hl : l < n) (hp : ∀ L ∈ s.full, L ≠ []) :
    getB s 0 = false ∧ getB (getS s 0) l = false ∧ wt List.length (getS (getS s 0) l) n = 0 ∧ (getS s 0).full.length + (getS s 0).ne ≤ 300 ∧ (getS (getS s 0) l).full.length + (getS (getS s 0) l).ne ≤ 300 := by
  have h1 : wt List.length s n = 0 := by have := h.len; omega
  obtain ⟨e1, e2⟩ := wt_zero hp h1
  have b0 : getB s 0 = false := getB_nil (e2 0 h0).1 (e2 0 h0).2 e1
  obtain ⟨_, _, _, _, e3⟩ := get_false b0
  have f1 : (getS s 0).full = [] := by rw [e3]; exact e1
  have w1 : wt List.length (getS s 0) n = 0 := by rw [e3, wt_swap h0]; exact h1
  obtain ⟨_, e5⟩ := wt_zero (s := getS s 0) (by rw [f1]; simp) w1
  have b1 : getB (getS s 0) l = false := getB_nil (e5 l hl).1 (e5 l hl).2 f1
  obtain ⟨_, _, _, _, e6⟩ := get_false b1
  have r1 := get_rows (s := s) (i := 0)
  have r2 := get_rows (s := getS s 0) (i := l)
  have := h.rows
  exact ⟨b0, b1, by rw [e6, wt_swap hl]; exact w1, by omega, by omega⟩
set_option maxRecDepth 100000 in
set_option maxHeartbeats 4000000 in
theorem once_walk (a0 a1 : Int) (a2 : Option Addr) (xs : List Int) (cap : Nat) (w : World) (hr : Rd w a2 xs) (hm : xs.length ≤ maxLen) :
    Calls Try.prog 10 #[.int .i64 a0, .int .i64 a1, .slice a2 xs.length cap] w fun e w' => e = .returned (.bool true) ∧ Below w.heap.size w w' := by
  unfold maxLen at hm
  obtain ⟨k, hk, hkl⟩ := umod a0 301 (by decide) (by decide)
  obtain ⟨l, hl, hll⟩ := umod a1 8 (by decide) (by decide)
  obtain ⟨n, hn⟩ : ∃ n, l + 1 = n := ⟨_, rfl⟩
  have hn1 : (1 : Int) + (l : Int) = (n : Int) := by omega
  have hn8 : n ≤ 8 := by omega
  have n0 : (0 : Int) ≤ n := by omega
  have n1 : ¬ (n : Int) = 0 := by omega
  have n2 : ((n : Int) == 0) = false := by rw [beq_eq_false_iff_ne]; omega
  have n3 : (0 : Int) < n := by omega
  have HK := Lib.hid hk
  have HL := Lib.hid hl
  have HN := Lib.hid hn
  have hnw : wrap64 ((1 : Int) + (l : Int)) = (n : Int) := by rw [hn1]; exact IntWalk.wrap64_in _ (by omega)
  have HN1 := Lib.hid hn1
  have HNW := Lib.hid hnw
  obtain ⟨m, hmm⟩ : ∃ m, xs.length = m := ⟨_, rfl⟩
  have HM := Lib.hid hmm
  rw [hmm] at hm ⊢
  clear hk hl hn hn1 hnw hmm
  have hmk := fun w => run_makeBools w (k + 1) (by omega)
  go_enter Try.func10, Try.ntmps10
  go_wp2_with fail
  try rw [HL.out]
  rw [HNW.out]
  refine (poolNew w n (by omega) (by omega)).mono ?_; rintro e w1 hn
  obtain ⟨p, rfl, h0⟩ := PoolIn.new hn
  clear hn
  have hmk1 := hmk w1
  obtain ⟨b, hb⟩ : ∃ b, w1.heap.size = b := ⟨_, rfl⟩
  have hb0 := Blk.new' hb.symm (bools noneB (k + 1)) 4
  have h0a := h0.still ((Ch.refl [] w1).alloc (.cells (bools noneB (k + 1)) 4))
  have hbw : w.heap.size ≤ b := by have := h0.2.size; omega
  rw [hb] at hmk1
  obtain ⟨w2, hw2⟩ : ∃ w2, w1.alloc (.cells (bools noneB (k + 1)) 4) = w2 := ⟨_, rfl⟩
  rw [hw2] at hmk1 hb0 h0a
  have hkw : wrap64 ((k : Int) + 1) = (k : Int) + 1 := IntWalk.wrap64_in _ (by omega)
  have HKW := Lib.hid hkw
  push_cast at hmk1
  clear hmk hw2 hb h0 hkw
  go_wp2_with fail
  rw [HK.out]
  go_wp2_with fail
  rw [HKW.out]
  rw [hmk1]
  go_wp2_with fail
  go_loopw [12, 13] (fun s12 s13 wr => ∃ i : Nat, s12 = .int .i64 i ∧ 1 ≤ i ∧ i ≤ k + 1 ∧ ∃ s, PoolIn w wr p n s ∧ Blk wr b (bools noneB (k + 1)) 4 ∧ PO n (i - 1) s) (fun s12 _ _ => k + 1 - (intOf s12).toNat)
  case atStart => exact ⟨1, rfl, by omega, by omega, _, h0a, hb0, PO.init n⟩
  case round =>
    clear h0a hb0 hmk1
    obtain ⟨i, rfl, hi1, hik, s, h1, hbl, hO⟩ := hrel
    by_cases hlt : i ≤ k
    · have t1 : decide ((i : Int) ≤ k) = true := decide_eq_true (by omega)
      have hfl := full_le (n := n) h1.pos
      rw [hO.len] at hfl
      have HFL := Lib.hid (show s.full.length ≤ 1000 by omega)
      have hne := hO.ne
      clear hfl
      by_cases hw : i < m
      · have t2 : decide ((i : Int) < m) = true := decide_eq_true (by omega)
        have hrr := hr.below (h1.2.below (Nat.le_refl _) (by simp))
        obtain ⟨bx, ox, rfl, hcell⟩ := hrr.at (i := i) (by rw [HM.out]; exact hw)
        have d1 := hcell i (by rw [HM.out]; exact hw)
        obtain ⟨y, hy⟩ : ∃ y, gI xs i = y := ⟨_, rfl⟩
        rw [hy] at d1
        obtain ⟨q, hq, hql⟩ := umod y n (by omega) (by omega)
        have hqn : q < n := by omega
        have HQ := Lib.hid hq
        have v1 : (i : Int) < m := by omega
        have v2 : (0 : Int) ≤ i := by omega
        clear hcell hy hq hrr hr
        go_wp2_with fail
        rw [HQ.out]
        clear d1
        refine (iPut (i := q) (i : Int) h1 hqn (by omega) HFL.out (by rw [hne]; omega)).mono ?_; rintro e w3 ⟨rfl, h3, f3⟩
        have hO3 := hO.put1 hi1 hqn
        have b3 := f3.blkT hbl (by decide)
        have hfl3 := full_le (n := n) h3.pos
        rw [hO3.len] at hfl3
        have hne3 := hO3.ne
        have HF3 := Lib.hid hfl3
        have HL3 := Lib.hid hO3.len
        obtain ⟨s3, hs3⟩ : ∃ s3, putS s q (i : Int) = s3 := ⟨_, rfl⟩
        rw [hs3] at h3 hO3 hne3
        have HS3 := Lib.hid hs3
        clear h1 hO hbl f3 hfl3 hs3
        by_cases h17 : i % 17 = 0
        · have d17 : (i : Int) % 17 = 0 := by omega
          go_wp2_with fail
          refine (iGive (i := q) h3 hqn (by rw [← HS3.out]; have := HF3.out; omega) (by rw [hne3]; omega)).mono ?_; rintro e w4 ⟨rfl, h4, f4⟩
          have hO4 := hO3.give hqn
          have b4 := f4.blkT b3 (by decide)
          have hfl4 := full_le (n := n) h4.pos
          rw [hO4.len] at hfl4
          have HF4 := Lib.hid hfl4
          have HL4 := Lib.hid hO4.len
          clear h3 hO3 b3 f4 hfl4 d17
          go_wp2_with fail
          refine (iLen h4 (by omega) (by have := HF4.out; omega)).mono ?_; rintro e w5 ⟨rfl, h5, c5⟩
          rw [HL4.out]
          have b5 := b4.keep c5 (by simp)
          have zz : ((i : Int) != (i : Int)) = false := by simp
          clear h4 b4 c5
          go_wp2_with fail
          go_roundw
          case rel => exact ⟨i + 1, by go_num, by omega, by omega, _, h5, b5, hO4⟩
          case measure => simp [intOf]; omega
        · obtain ⟨d, hd⟩ : ∃ d : Nat, i % 17 = d := ⟨_, rfl⟩
          have d17 : (i : Int) % 17 = (d : Int) := by omega
          have dz : ((d : Int) == 0) = false := by rw [beq_eq_false_iff_ne]; omega
          have dzz : ¬ (d : Int) = 0 := by omega
          clear hd
          go_wp2_with fail
          refine (iLen h3 (by omega) (by rw [← HS3.out]; have := HF3.out; omega)).mono ?_; rintro e w5 ⟨rfl, h5, c5⟩
          rw [← HS3.out, HL3.out]
          have b5 := b3.keep c5 (by simp)
          have zz : ((i : Int) != (i : Int)) = false := by simp
          clear h3 b3 c5
          go_wp2_with fail
          go_roundw
          case rel => exact ⟨i + 1, by go_num, by omega, by omega, _, h5, b5, hO3⟩
          case measure => simp [intOf]; omega
      · have t2 : decide ((i : Int) < m) = false := decide_eq_false (by omega)
        obtain ⟨q, hq⟩ : ∃ q : Nat, i % n = q := ⟨_, rfl⟩
        have hqn : q < n := by rw [← hq]; exact Nat.mod_lt _ (by omega)
        have hq2 : (i : Int) % (n : Int) = (q : Int) := by rw [← hq]; rfl
        clear hq
        go_wp2_with fail
        refine (iPut (i := q) (i : Int) h1 hqn (by omega) HFL.out (by rw [hne]; omega)).mono ?_; rintro e w3 ⟨rfl, h3, f3⟩
        have hO3 := hO.put1 hi1 hqn
        have b3 := f3.blkT hbl (by decide)
        have hfl3 := full_le (n := n) h3.pos
        rw [hO3.len] at hfl3
        have hne3 := hO3.ne
        have HF3 := Lib.hid hfl3
        have HL3 := Lib.hid hO3.len
        obtain ⟨s3, hs3⟩ : ∃ s3, putS s q (i : Int) = s3 := ⟨_, rfl⟩
        rw [hs3] at h3 hO3 hne3
        have HS3 := Lib.hid hs3
        clear h1 hO hbl f3 hfl3 hs3
        by_cases h17 : i % 17 = 0
        · have d17 : (i : Int) % 17 = 0 := by omega
          go_wp2_with fail
          refine (iGive (i := q) h3 hqn (by rw [← HS3.out]; have := HF3.out; omega) (by rw [hne3]; omega)).mono ?_; rintro e w4 ⟨rfl, h4, f4⟩
          have hO4 := hO3.give hqn
          have b4 := f4.blkT b3 (by decide)
          have hfl4 := full_le (n := n) h4.pos
          rw [hO4.len] at hfl4
          have HF4 := Lib.hid hfl4
          have HL4 := Lib.hid hO4.len
          clear h3 hO3 b3 f4 hfl4 d17
          go_wp2_with fail
          refine (iLen h4 (by omega) (by have := HF4.out; omega)).mono ?_; rintro e w5 ⟨rfl, h5, c5⟩
          rw [HL4.out]
          have b5 := b4.keep c5 (by simp)
          have zz : ((i : Int) != (i : Int)) = false := by simp
          clear h4 b4 c5
          go_wp2_with fail
          go_roundw
          case rel => exact ⟨i + 1, by go_num, by omega, by omega, _, h5, b5, hO4⟩
          case measure => simp [intOf]; omega
        · obtain ⟨d, hd⟩ : ∃ d : Nat, i % 17 = d := ⟨_, rfl⟩
          have d17 : (i : Int) % 17 = (d : Int) := by omega
          have dz : ((d : Int) == 0) = false := by rw [beq_eq_false_iff_ne]; omega
          have dzz : ¬ (d : Int) = 0 := by omega
          clear hd
          go_wp2_with fail
          refine (iLen h3 (by omega) (by rw [← HS3.out]; have := HF3.out; omega)).mono ?_; rintro e w5 ⟨rfl, h5, c5⟩
          rw [← HS3.out, HL3.out]
          have b5 := b3.keep c5 (by simp)
          have zz : ((i : Int) != (i : Int)) = false := by simp
          clear h3 b3 c5
          go_wp2_with fail
          go_roundw
          case rel => exact ⟨i + 1, by go_num, by omega, by omega, _, h5, b5, hO3⟩
          case measure => simp [intOf]; omega
    · obtain rfl : i = k + 1 := by omega
      rw [Nat.add_sub_cancel] at hO
      have t1 : decide (((k + 1 : Nat) : Int) ≤ k) = false := decide_eq_false (by omega)
      obtain ⟨i, hi⟩ : ∃ i : Nat, k + 1 = i := ⟨_, rfl⟩
      rw [hi] at t1 ⊢
      have hfl := full_le (n := n) h1.pos
      have HI := Lib.hid hi
      have t1n : ¬ (i : Int) ≤ k := by omega
      clear hik hi1 hlt hr hi
      go_wp2_with fail
      go_loopw [6, 14] (fun s6 s14 wr => ∃ j : Nat, s14 = .int .i64 j ∧ j ≤ n ∧ ∃ s, PoolIn w wr p n s ∧ Blk wr b (bools noneB i) 4 ∧ PO n k s ∧ ∀ q, q < j → s.one q = [] ∧ s.two q = []) (fun _ s14 _ => n - (intOf s14).toNat)
      case atStart => exact ⟨0, rfl, by omega, _, h1, by rw [← HI.out]; exact hbl, hO, fun q hq => by omega⟩
      case round =>
        clear h1 hbl hO hfl
        obtain ⟨j, rfl, hj, s, h2, hbl, hO, hE⟩ := hrel
        have hfl := full_le (n := n) h2.pos
        rw [hO.len] at hfl
        have hne := hO.ne
        by_cases hjl : j < n
        · have t2 : decide ((j : Int) < n) = true := decide_eq_true (by omega)
          have hO3 := hO.flush hjl
          obtain ⟨fo, ft⟩ := flush_own (s := s) (i := j)
          have hE3 : ∀ q, q < j + 1 → (flushS s j).one q = [] ∧ (flushS s j).two q = [] := fun q hq => by
            by_cases e : q = j
            · subst e; exact ⟨fo, ft⟩
            · have := flush_others (s := s) (i := j) e
              rw [this.1, this.2.1]; exact hE q (by omega)
          have HFO := Lib.hid fo
          have HFT := Lib.hid ft
          clear fo ft hO hE
          go_wp2_with fail
          refine (iFlush (i := j) h2 hjl (by omega) (by omega)).mono ?_; rintro e w3 ⟨rfl, h3, f3⟩
          have b3 := f3.blkT hbl (by decide)
          clear h2 hbl f3
          go_wp2_with fail
          refine (iLocal (i := j) h3 hjl).mono ?_; rintro e w4 ⟨rfl, h4, c4⟩
          rw [HFO.out, HFT.out]
          have b4 := b3.keep c4 (by simp)
          clear h3 b3 c4
          go_wp2_with fail
          go_roundw
          case rel => exact ⟨j + 1, by go_num, by omega, _, h4, b4, hO3, hE3⟩
          case measure => simp [intOf]; omega
        · obtain rfl : j = n := by omega
          have t2 : decide ((j : Int) < j) = false := decide_eq_false (by omega)
          have h300 : k ≤ 300 := by omega
          have hP3 := hO.start (l := l) h300 h2.pos hE
          have hln : l < j := by have := HN.out; omega
          have hj1 : (j : Int) - 1 = (l : Int) := by have := HN.out; omega
          have hjw : wrap64 ((j : Int) - 1) = (l : Int) := by rw [hj1]; exact IntWalk.wrap64_in _ (by omega)
          have HJ1 := Lib.hid hj1
          have HJW := Lib.hid hjw
          clear hO hE hfl hne hj1 hjw
          go_wp2_with fail
          go_loopw [6, 15, 16, 17] (fun s6 s15 s16 s17 wr => ∃ c : Nat, s15 = .int .i64 c ∧ c ≤ k ∧ ∃ s U, PoolIn w wr p j s ∧ Blk wr b (bools U i) 4 ∧ PT3 j l k c U s) (fun _ s15 _ _ _ => k - (intOf s15).toNat)
          case atStart => exact ⟨0, rfl, by omega, _, _, h2, hbl, hP3⟩
          case round =>
            clear h2 hbl hP3
            obtain ⟨c, rfl, hc, s, U, h3, hbl, hP⟩ := hrel
            have hrows := hP.rows
            have HR := Lib.hid hrows
            by_cases hcl : c < k
            · have t3 : decide ((c : Int) < k) = true := decide_eq_true (by omega)
              obtain ⟨g1, x, g2, x1, xk, hUx, hP4⟩ := hP.get hln hcl h3.pos
              have G1 := Lib.hid g1
              have G2 := Lib.hid g2
              clear g1 g2 hrows hP
              go_wp2_with fail
              first
              | rw [HJW.out]
              | rw [HJ1.out]
              refine (iGet (i := l) h3 hln (by have := HR.out; omega) (by have := HR.out; omega)).mono ?_; rintro e w4 ⟨rfl, h4, f4⟩
              rw [G1.out, G2.out]
              have b4 := f4.blkT hbl (by decide)
              have d4 := (b4.cell x).trans (bools_at (by have := HI.out; omega))
              rw [hUx] at d4
              have z4 := b4.frozen x
              have y1 : decide ((x : Int) < 1) = false := decide_eq_false (by omega)
              have y2 : decide ((x : Int) > k) = false := decide_eq_false (by omega)
              have y3 : (x : Int) < i := by have := HI.out; omega
              have y4 : (0 : Int) ≤ x := by omega
              have y5 : ¬ (x : Int) < 1 := by omega
              have y6 : ¬ (k : Int) < x := by omega
              have cs : Ch [b] w4 (w4.setCell ⟨b, x, none⟩ (.bool true)) := (Ch.refl [b] w4).setCell (.inl (by simp)) _
              have h5 : PoolIn w (w4.setCell ⟨b, x, none⟩ (.bool true)) p j (getS s l) := by
                refine ⟨?_, h4.2.transT cs (by intro q hq; simp at hq; subst hq; exact .inr hbw)⟩
                obtain ⟨vs, vf, ve, X, O, T, F, E, C, loc, q1, q2, q3, q4, q5⟩ := h4.1
                exact .of (q1.keep cs (fun q hq => by simp at hq; subst hq; exact ⟨_, _, b4, by decide⟩)) q2 (Nat.le_trans q3 cs.size) q4 q5
              have b5 := b4.set x (.bool true)
              rw [bools_set] at b5
              clear h3 hbl f4 h4 b4 cs hUx
              go_wp2_with fail
              go_roundw
              case rel => exact ⟨c + 1, by go_num, by omega, _, _, h5, b5, hP4⟩
              case measure => simp [intOf]; omega
            · obtain rfl : c = k := by omega
              have t3 : decide ((c : Int) < c) = false := decide_eq_false (by omega)
              obtain ⟨g1, g2, g3, g4, g5⟩ := hP.done (by omega) hln h3.pos
              have G1 := Lib.hid g1
              have G2 := Lib.hid g2
              have G3 := Lib.hid g3
              have G4 := Lib.hid g4
              have G5 := Lib.hid g5
              clear g1 g2 g3 g4 g5 hrows hP hbl
              go_wp2_with fail
              refine (iGet (i := 0) h3 (by omega) (by have := HR.out; omega) (by have := HR.out; omega)).mono ?_; rintro e w4 ⟨rfl, h4, -⟩
              rw [G1.out]
              clear h3
              go_wp2_with fail
              first
              | rw [HJW.out]
              | rw [HJ1.out]
              refine (iGet (i := l) h4 hln (by have := G4.out; omega) (by have := G4.out; omega)).mono ?_; rintro e w5 ⟨rfl, h5, -⟩
              rw [G2.out]
              clear h4
              go_wp2_with fail
              refine (told18 w5).mono ?_; rintro e w6 ⟨rfl, c6⟩
              have h6 := h5.still c6
              clear h5 c6
              go_wp2_with fail
              refine (iLen h6 (by omega) (by have := G5.out; omega)).mono ?_; rintro e w7 ⟨rfl, h7, -⟩
              rw [G3.out]
              have hend := h7.2.below (Nat.le_refl _) (by simp)
              clear h6 h7
              go_wp2_with fail
              go_ret
              exact ⟨rfl, hend⟩
end Go.Proofs.Ytalnkhcippcghaa
