/-
  The walk of the statement BitsFills: the law returns true at every input. Conditions: the library's table reads as its text lays it.
-/
import Derived.Test.YtheniiinioggiaaDoorBitsSt
import Derived.Test.YtheniiinioggiaaDoorArgs
import Derived.Test.YtheniiinioggiaaDoorPlan
namespace Go.Proofs.YtheniiinioggiaaDoor
open Go.RowKit
/-- All below i are in it. -/
def below (i : Nat) : Nat → Bool := fun k => decide (k < i)
/-- All but each d-th below i. -/
def sieve (d i : Nat) : Nat → Bool := fun k => !(decide (k < i) && k % d == 0)
theorem cnt_all (S : Nat → Bool) (n : Nat) (h : ∀ k, k < n → S k = true) : cnt S n = n := by
  induction n with
  | zero => rfl
  | succ n ih => rw [cnt_succ, ih (fun k hk => h k (by omega)), h n (by omega)]; rfl
/-- How many of the numbers below n are told out when all multiples of d below i are out. -/
def outs (d i : Nat) : Nat := cnt (fun k => k % d == 0) i
theorem sieve_cnt (d n : Nat) : cnt (sieve d n) n + outs d n = n := by
  have h := cnt_not (fun k => k % d == 0) n
  rw [show cnt (sieve d n) n = cnt (notS fun k => k % d == 0) n from cnt_congr n (fun k hk => by simp [sieve, notS, hk])]
  unfold outs
  omega
theorem mod_gap (d m : Nat) (hd : 0 < d) (k : Nat) (h1 : m * d < k) (h2 : k < (m + 1) * d) : (k % d == 0) = false := by
  rw [beq_eq_false_iff_ne]
  intro h
  obtain ⟨c, rfl⟩ := Nat.dvd_of_mod_eq_zero h
  rw [Nat.mul_comm] at h1
  rw [Nat.mul_comm (m + 1)] at h2
  have := Nat.lt_of_mul_lt_mul_left h1
  have := Nat.lt_of_mul_lt_mul_left h2
  omega
theorem outs_step (d m : Nat) (hd : 0 < d) : outs d ((m + 1) * d) = outs d (m * d) + 1 := by
  have e := cnt_skip (S := fun k => k % d == 0) (p := m * d + 1) (k := (m + 1) * d) (fun j h1 h2 => mod_gap d m hd j (by omega) h2) (by rw [Nat.succ_mul]; omega)
  unfold outs
  rw [e, cnt_succ]
  simp
theorem outs_skip (d m n : Nat) (hd : 0 < d) (h1 : n ≤ (m + 1) * d) (h2 : m * d < n) : outs d n = outs d (m * d) + 1 := by
  have e := cnt_skip (S := fun k => k % d == 0) (p := m * d + 1) (k := n) (fun j h3 h4 => mod_gap d m hd j (by omega) (by omega)) (by omega)
  unfold outs
  rw [e, cnt_succ]
  simp
theorem outs_mul (d m : Nat) (hd : 0 < d) : outs d (m * d) = m := by
  induction m with
  | zero => rw [Nat.zero_mul]; rfl
  | succ m ih => rw [outs_step d m hd, ih]
theorem putS_nat (S : Nat → Bool) (n i : Nat) (v : Bool) (hi : i < n) : putS S n i v = upd S i v := by
  unfold putS
  rw [if_pos ⟨by omega, by omega⟩, Int.toNat_natCast]
theorem setB_nat (S : Nat → Bool) (n i : Nat) (hi : i < n) : setB S n i = !S i := by
  unfold setB
  rw [decide_eq_true (show (0 : Int) ≤ i by omega), decide_eq_true (show (i : Int) < n by omega), Int.toNat_natCast]
  rfl
theorem below_step (n i : Nat) (hi : i < n) (k : Nat) : putS (below i) n i true k = below (i + 1) k := by
  rw [putS_nat _ _ _ _ hi]
  unfold upd below
  by_cases h : k = i
  · subst h; simp
  · rw [if_neg h]
    by_cases h1 : k < i
    · rw [decide_eq_true h1, decide_eq_true (by omega)]
    · rw [decide_eq_false h1, decide_eq_false (by omega)]
theorem sieve_step (n d m : Nat) (hd : 0 < d) (hi : m * d < n) (k : Nat) : putS (sieve d (m * d)) n ((m * d : Nat) : Int) false k = sieve d ((m + 1) * d) k := by
  rw [putS_nat _ _ _ _ hi]
  have hs : (m + 1) * d = m * d + d := Nat.succ_mul m d
  unfold upd sieve
  by_cases h : k = m * d
  · subst h
    rw [if_pos rfl, decide_eq_true (show m * d < (m + 1) * d by omega)]
    simp
  · rw [if_neg h]
    by_cases h1 : k < m * d
    · rw [decide_eq_true h1, decide_eq_true (show k < (m + 1) * d by omega)]
    · by_cases h2 : k < (m + 1) * d
      · rw [mod_gap d m hd k (by omega) h2]; simp
      · rw [decide_eq_false h1, decide_eq_false h2]
theorem sieve_at (d m : Nat) : sieve d (m * d) (m * d) = true := by simp [sieve]
theorem sieve_after (d m : Nat) (hd : 0 < d) : sieve d ((m + 1) * d) (m * d) = false := by
  have hs : (m + 1) * d = m * d + d := Nat.succ_mul m d
  unfold sieve
  rw [decide_eq_true (show m * d < (m + 1) * d by omega)]
  simp
/-- All but the multiples. -/
def rest (d : Nat) : Nat → Bool := fun k => !(k % d == 0)
theorem sieve_rest (d m n : Nat) (h : n ≤ m * d) (k : Nat) (hk : k < n) : sieve d (m * d) k = rest d k := by
  unfold sieve rest
  rw [decide_eq_true (show k < m * d by omega)]
  simp
theorem rest_cnt (d m n : Nat) (hd : 0 < d) (h : n ≤ m * d) (h2 : m = 0 ∨ (m - 1) * d < n) : cnt (rest d) n + m = n := by
  have h3 := sieve_cnt d n
  rw [cnt_congr n (fun k hk => show sieve d n k = rest d k by simp [sieve, rest, hk])] at h3
  have h4 : outs d n = m := by
    rcases h2 with rfl | h2
    · obtain rfl : n = 0 := by omega
      rfl
    · by_cases hm : m = 0
      · subst hm
        obtain rfl : n = 0 := by omega
        rfl
      · obtain ⟨q, rfl⟩ : ∃ q, m = q + 1 := ⟨m - 1, by omega⟩
        simp only [Nat.add_sub_cancel] at h2
        rw [outs_skip d q n hd h h2, outs_mul d q hd]
  omega
set_option maxRecDepth 100000 in
set_option maxHeartbeats 4000000 in
theorem fills3_walk (a0 a1 : Int) (w : World) (hT : TabW w) :
    Calls Tryd.prog 4 #[.int .i64 a0, .int .i64 a1] w fun e w' => e = .returned (.bool true) ∧ Below w.heap.size w w' := by
  obtain ⟨n, hn, hnl⟩ := umod a0 301 (by decide) (by decide)
  obtain ⟨q, hq, hql⟩ := umod a1 9 (by decide) (by decide)
  obtain ⟨d, hd⟩ : ∃ d, q + 1 = d := ⟨_, rfl⟩
  have hdq : (1 : Int) + (q : Int) = (d : Int) := by omega
  have hdw : wrap64 ((1 : Int) + (q : Int)) = (d : Int) := by rw [hdq]; exact IntWalk.wrap64_in _ (by omega)
  have hd0 : 0 < d := by omega
  have hd9 : d ≤ 9 := by omega
  have hN := bitsNew n w (by omega)
  have HN := Lib.hid hn
  have HQ := Lib.hid hq
  have HDQ := Lib.hid hdq
  have HDW := Lib.hid hdw
  have HT := Lib.hid hT
  have d1 : (0 : Int) < d := by omega
  have d2 : (0 : Int) ≤ d := by omega
  have d3 : ¬ (d : Int) = 0 := by omega
  have d4 : ((d : Int) == 0) = false := by rw [beq_eq_false_iff_ne]; omega
  clear hn hq hd hdq hdw hT
  go_enter Tryd.func4, Tryd.ntmps4
  go_wp2_with fail
  try rw [HN.out]
  try rw [HQ.out]
  first
  | rw [HDW.out]
  | rw [HDQ.out]
  refine hN.mono ?_; rintro e w1 ⟨b, G, rfl, h1, hb, hG, c1⟩
  have hst : SetSt w w1 b n (below 0) G := SetSt.congr ⟨h1, c1, hb, hG⟩ (fun k _ => by simp [below])
  clear hN h1 c1 hb hG
  go_wp2_with fail
  go_loopw [8] (fun s8 wr => ∃ i : Nat, s8 = .int .i64 i ∧ i ≤ n ∧ SetSt w wr b n (below i) G) (fun s8 _ => n - (intOf s8).toNat)
  case atStart => exact ⟨0, rfl, by omega, hst⟩
  case round =>
    clear hst
    obtain ⟨i, rfl, hi, hst⟩ := hrel
    by_cases hlt : i < n
    · have t1 : decide ((i : Int) < n) = true := decide_eq_true (by omega)
      have hs := stSet (i : Int) hst
      rw [setB_nat _ _ _ hlt, show below i i = false by simp [below]] at hs
      have HS := Lib.hid (fun k => below_step n i hlt k)
      go_wp2_with fail
      refine hs.mono ?_; rintro e w2 ⟨rfl, h2⟩
      have h3 := h2.congr (fun k _ => HS.out k)
      clear hs h2 hst
      go_wp2_with fail
      go_roundw
      case rel => exact ⟨i + 1, by go_num, by omega, h3⟩
      case measure => simp [intOf]; omega
    · obtain rfl : n = i := by omega
      have t1 : decide ((n : Int) < n) = false := decide_eq_false (by omega)
      have t2 : decide (n < n) = false := decide_eq_false (by omega)
      have g1 := bitsCount b n _ G _ hst.at_
      rw [cnt_all (below n) n (fun k hk => by simp [below, hk])] at g1
      have g2 := bitsNext b n _ G false 0 _ hst.at_ (hst.tab HT.out)
      rw [show (0 : Int).toNat = 0 from rfl, nxt_none (fun j _ h2 => by simp [below, h2])] at g2
      have z1 : ((n : Int) != (n : Int)) = false := by simp
      go_wp2_with fail
      refine g1.mono ?_; rintro e w2 ⟨rfl, rfl⟩
      clear g1
      go_wp2_with fail
      refine g2.mono ?_; rintro e w3 ⟨rfl, rfl⟩
      clear g2
      have hst2 : SetSt w w3 b n (sieve d (0 * d)) G := hst.congr (fun k hk => by simp [below, sieve, hk])
      clear hst
      go_wp2_with fail
      go_loopw [9, 10] (fun s9 s10 wr => ∃ (m i : Nat), s9 = .int .i64 m ∧ s10 = .int .i64 i ∧ Hid (i = m * d) ∧ i ≤ n + d ∧ m ≤ i ∧ (m = 0 ∨ Hid ((m - 1) * d < n)) ∧ SetSt w wr b n (sieve d (m * d)) G) (fun _ s10 _ => n + 10 - (intOf s10).toNat)
      case atStart => exact ⟨0, 0, rfl, rfl, Lib.hid (by omega), by omega, by omega, .inl rfl, hst2⟩
      case round =>
        clear hst2
        obtain ⟨m, i, rfl, rfl, HI, hi, hmi, hm, hst⟩ := hrel
        by_cases hlt : i < n
        · have t1 : decide ((i : Int) < n) = true := decide_eq_true (by omega)
          have t2 : decide (i < n) = true := decide_eq_true hlt
          have hmd : m * d < n := by rw [← HI.out]; exact hlt
          have hx1 := stClear (i : Int) hst
          have e1 : hasI (sieve d (m * d)) n (i : Int) = true := by rw [hasI_in hlt, HI.out]; exact sieve_at d m
          rw [e1] at hx1
          have HX := Lib.hid hx1
          clear hx1 e1 hm
          go_wp2_with fail
          refine HX.out.mono ?_; rintro e w4 ⟨rfl, h4⟩
          have h4' : SetSt w w4 b n (sieve d ((m + 1) * d)) G := h4.congr (fun k _ => by rw [HI.out]; exact sieve_step n d m hd0 hmd k)
          clear HX h4 hst
          have e2 : hasI (sieve d ((m + 1) * d)) n (i : Int) = false := by rw [hasI_in hlt, HI.out]; exact sieve_after d m hd0
          have hx2 := stClear (i : Int) h4'
          rw [e2] at hx2
          have HX := Lib.hid hx2
          clear hx2 e2
          go_wp2_with fail
          refine HX.out.mono ?_; rintro e w5 ⟨rfl, h5⟩
          have h5' : SetSt w w5 b n (sieve d ((m + 1) * d)) G := h5.congr (fun k _ => by
            rw [putS_nat _ _ _ _ hlt, upd_self (by rw [HI.out]; exact sieve_after d m hd0)])
          clear HX h5 h4'
          have hx3 := bitsHasIn b n _ G i w5 h5'.at_ hlt
          rw [show sieve d ((m + 1) * d) i = false by rw [HI.out]; exact sieve_after d m hd0] at hx3
          have HX := Lib.hid hx3
          clear hx3
          go_wp2_with fail
          refine HX.out.mono ?_; rintro e w6 ⟨rfl, rfl⟩
          clear HX
          go_wp2_with fail
          go_roundw
          case rel => exact ⟨m + 1, i + d, by go_num, by go_num, Lib.hid (by rw [HI.out, Nat.succ_mul]), by omega, by omega, .inr (Lib.hid (by simpa using hmd)), h5'⟩
          case measure => simp [intOf]; omega
        · have t1 : decide ((i : Int) < n) = false := decide_eq_false (by omega)
          have t2 : decide (i < n) = false := decide_eq_false hlt
          have hmd : n ≤ m * d := by rw [← HI.out]; omega
          have hst3 : SetSt w _ b n (rest d) G := hst.congr (fun k hk => sieve_rest d m n hmd k hk)
          have hcnt := rest_cnt d m n hd0 hmd (hm.imp id (fun h => h.out))
          have HC := Lib.hid hcnt
          clear hst hcnt hm
          go_wp2_with fail
          go_loopw [11, 12] (fun s11 s12 wr => ∃ i : Nat, s11 = .int .i64 i ∧ i ≤ n ∧ SetSt w wr b n (rest d) G) (fun s11 _ _ => n - (intOf s11).toNat)
          case atStart => exact ⟨0, rfl, by omega, hst3⟩
          case round =>
            clear hst3
            obtain ⟨j, rfl, hj, hst⟩ := hrel
            by_cases hjn : j < n
            · have t3 : decide ((j : Int) < n) = true := decide_eq_true (by omega)
              obtain ⟨r, hr⟩ : ∃ r, j % d = r := ⟨_, rfl⟩
              have e1 : (j : Int) % (d : Int) = (r : Int) := by rw [← hr, Int.natCast_emod]
              have e1t : (j : Int).tmod (d : Int) = (r : Int) := by rw [Int.tmod_eq_emod_of_nonneg (by omega)]; exact e1
              have d5 : ¬ d = 0 := by omega
              by_cases hr0 : r = 0
              · subst hr0
                replace e1 : (j : Int) % (d : Int) = 0 := e1
                replace e1t : (j : Int).tmod (d : Int) = 0 := e1t
                have hrj : rest d j = false := by unfold rest; rw [hr]; rfl
                have hx := bitsHasIn b n _ G j (wr.drewN 1) (hst.at_.ch ((Ch.refl [] wr).drewN 1)) hjn
                rw [hrj] at hx
                have hst7 := hst.still ((Ch.refl [] wr).drewN 1)
                have hnx := bitsNext b n _ G false (j : Int) (wr.drewN 1) hst7.at_ (hst7.tab HT.out)
                rw [Int.toNat_natCast, nxt_at hjn (Nat.le_refl _) hrj (fun k h1 h2 => by omega)] at hnx
                have z1 : ((j : Int) != (j : Int)) = false := by simp
                have HX := Lib.hid hx
                have HNX := Lib.hid hnx
                clear hx hnx hrj hr
                go_upto_region 22 with fail
                obtain ⟨L, hLL⟩ : ∃ L : World → Prop, ∀ w', L w' ↔ True := ⟨fun _ => True, fun _ => Iff.rfl⟩
                have hS0 : L (wr.drewN 1) := (hLL _).2 trivial
                have hSA : Nonempty { w' : World // L w' } := ⟨⟨_, hS0⟩⟩
                clear hLL
                refine wp_region_plan (Cls L) (List.range 8) (.reads [0, 1, 3, 4, 5, 6] (.only 2 (.reads [7] .done))) (by kernel_rfl) (by kernel_rfl) (fun _ _ _ _ _ h => h) ?_
                simp only [Plan.reads, Plan.only, List.foldr_cons, List.foldr_nil]
                iterate 6 (refine wpPlan_readS hS0 (fun K hK => ?_); simp only [List.getD_cons_zero, List.getD_cons_succ]; go_simp; refine hK _ ?_; clear hK K)
                refine wpPlan_only (fun K hK => ?_)
                simp only [List.getD_cons_zero, List.getD_cons_succ]
                go_simp
                refine HX.out.mono ?_; rintro e w6 ⟨rfl, rfl⟩
                refine hK _ _ (fun _ => Cls.mk hS0) ?_
                clear hK K HX
                iterate 1 (refine wpPlan_readS hS0 (fun K hK => ?_); simp only [List.getD_cons_zero, List.getD_cons_succ]; go_simp; refine hK _ ?_; clear hK K)
                refine wpPlan_done ?_
                clear hS0 hSA
                go_wp2_with fail
                refine HNX.out.mono ?_; rintro e w7 ⟨rfl, rfl⟩
                clear HNX
                go_wp2_with fail
                go_roundw
                case rel => exact ⟨j + 1, by go_num, by omega, hst7⟩
                case measure => simp [intOf]; omega
              · have hrj : rest d j = true := by unfold rest; rw [hr]; simp [hr0]
                have hx := bitsHasIn b n _ G j (wr.drewN 1) (hst.at_.ch ((Ch.refl [] wr).drewN 1)) hjn
                rw [hrj] at hx
                have hst7 := hst.still ((Ch.refl [] wr).drewN 1)
                have hnx := bitsNext b n _ G false (j : Int) (wr.drewN 1) hst7.at_ (hst7.tab HT.out)
                have y1 : ((r : Int) == 0) = false := by rw [beq_eq_false_iff_ne]; omega
                have y2 : ((r : Int) != 0) = true := by rw [bne_iff_ne]; omega
                have HX := Lib.hid hx
                have HNX := Lib.hid hnx
                clear hx hnx hrj hr
                go_upto_region 22 with fail
                obtain ⟨L, hLL⟩ : ∃ L : World → Prop, ∀ w', L w' ↔ True := ⟨fun _ => True, fun _ => Iff.rfl⟩
                have hS0 : L (wr.drewN 1) := (hLL _).2 trivial
                have hSA : Nonempty { w' : World // L w' } := ⟨⟨_, hS0⟩⟩
                clear hLL
                refine wp_region_plan (Cls L) (List.range 8) (.reads [0, 1, 3, 4, 5, 6] (.only 2 (.reads [7] .done))) (by kernel_rfl) (by kernel_rfl) (fun _ _ _ _ _ h => h) ?_
                simp only [Plan.reads, Plan.only, List.foldr_cons, List.foldr_nil]
                iterate 6 (refine wpPlan_readS hS0 (fun K hK => ?_); simp only [List.getD_cons_zero, List.getD_cons_succ]; go_simp; refine hK _ ?_; clear hK K)
                refine wpPlan_only (fun K hK => ?_)
                simp only [List.getD_cons_zero, List.getD_cons_succ]
                go_simp
                refine HX.out.mono ?_; rintro e w6 ⟨rfl, rfl⟩
                refine hK _ _ (fun _ => Cls.mk hS0) ?_
                clear hK K HX
                iterate 1 (refine wpPlan_readS hS0 (fun K hK => ?_); simp only [List.getD_cons_zero, List.getD_cons_succ]; go_simp; refine hK _ ?_; clear hK K)
                refine wpPlan_done ?_
                clear hS0 hSA
                go_wp2_with fail
                refine HNX.out.mono ?_; rintro e w7 ⟨rfl, rfl⟩
                clear HNX
                go_wp2_with fail
                go_roundw
                case rel => exact ⟨j + 1, by go_num, by omega, hst7⟩
                case measure => simp [intOf]; omega
            · obtain rfl : n = j := by omega
              have t3 : decide ((n : Int) < n) = false := decide_eq_false (by omega)
              have t4 : decide (n < n) = false := decide_eq_false (by omega)
              obtain ⟨C, hC⟩ : ∃ C, cnt (rest d) n = C := ⟨_, rfl⟩
              have hCm := HC.out
              rw [hC] at hCm
              have hcn : ∀ w', SetAt w' b n (rest d) G → Calls Tryd.prog 18 #[.pointer (some ⟨b, 0, none⟩)] w' fun e w'' => e = .returned (.int .i64 (C : Nat)) ∧ w'' = w' := fun w' h => by
                have := bitsCount b n _ G w' h
                rw [hC] at this
                exact this
              have hA := els_len (rest d) n
              rw [hC] at hA
              have z1 : (n : Int) - m = C := by omega
              have z2 : ((C : Int) == (C : Int)) = true := beq_self_eq_true _
              have HCN := Lib.hid hcn
              have HA := Lib.hid hA
              clear hcn hA hC hCm
              go_wp2_with fail
              refine (told3 _ (hst.tab HT.out)).mono ?_; rintro e w6 ⟨rfl, c6⟩
              have hst6 := hst.still c6
              clear hst c6
              go_wp2_with fail
              refine (HCN.out w6 hst6.at_).mono ?_; rintro e w7 ⟨rfl, rfl⟩
              go_wp2_with fail
              refine (bitsAll b n _ G w7 hst6.at_ (hst6.tab HT.out) (by omega)).mono ?_; rintro e w8 ⟨v8, rfl, o8, c8⟩
              obtain ⟨a8, q8, rfl, _⟩ := o8.form
              rw [HA.out]
              have hst8 := hst6.still c8
              clear hst6 c8 o8
              have g3 := bitsNextPast b n _ G (n : Int) true w8 hst8.at_ (by omega)
              have g4 := bitsNextPast b n _ G (n : Int) false w8 hst8.at_ (by omega)
              have hend := hst8.ch.below (Nat.le_refl _) (by simp)
              clear hst8
              go_wp2_with fail
              refine g3.mono ?_; rintro e w9 ⟨rfl, rfl⟩
              clear g3
              go_wp2_with fail
              refine g4.mono ?_; rintro e w10 ⟨rfl, rfl⟩
              clear g4
              go_wp2_with fail
              go_ret
              exact ⟨rfl, hend⟩
end Go.Proofs.YtheniiinioggiaaDoor
