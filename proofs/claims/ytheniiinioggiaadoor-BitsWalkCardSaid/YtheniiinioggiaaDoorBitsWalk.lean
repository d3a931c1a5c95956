/-
  The walk of the statement BitsWalk: the law returns true at every input. Conditions: the library's table reads as its text lays it.
-/
import Derived.Test.YtheniiinioggiaaDoorBitsSt
import Derived.Test.YtheniiinioggiaaDoorArgs
namespace Go.Proofs.YtheniiinioggiaaDoor
open Go.RowKit
set_option maxRecDepth 100000 in
set_option maxHeartbeats 4000000 in
theorem walk3_walk (a0 : Int) (a1 : Option Addr) (xs : List Int) (cap : Nat) (w : World) (hT : TabW w) (r : Rd w a1 xs) (m : xs.length ≤ maxLen) :
    Calls Tryd.prog 3 #[.int .i64 a0, .slice a1 xs.length cap] w fun e w' => e = .returned (.bool true) ∧ Below w.heap.size w w' := by
  unfold maxLen at m
  obtain ⟨n, hn, hnl⟩ := umod a0 301 (by decide) (by decide)
  obtain ⟨l, hl⟩ : ∃ l, xs.length = l := ⟨_, rfl⟩
  rw [hl] at m ⊢
  have hN := bitsNew n w (by omega)
  have HL := Lib.hid hl
  clear hl
  go_enter Tryd.func3, Tryd.ntmps3
  go_wp2_with fail
  try rw [hn]
  refine hN.mono ?_; rintro e w1 ⟨b, G, rfl, h1, hb, hG, c1⟩
  have hst : SetSt w w1 b n (fun _ => false) G := ⟨h1, c1, hb, hG⟩
  clear hN h1 c1 hb hG hn
  by_cases h60 : 60 < l
  · have t0 : decide ((60 : Int) < l) = true := decide_eq_true (by omega)
    go_wp2_with fail
    refine (told3 w1 (hst.tab hT)).mono ?_; rintro e w2 ⟨rfl, c2⟩
    have hend := (hst.ch.trans c2).below (Nat.le_refl _) (by simp)
    clear hst c2
    go_wp2_with fail
    go_ret
    exact ⟨rfl, hend⟩
  · have t0 : decide ((60 : Int) < l) = false := decide_eq_false (by omega)
    go_wp2_with fail
    go_loopw [7] (fun s7 wr => ∃ (i : Nat) (S : Nat → Bool), s7 = .int .i64 i ∧ i ≤ l ∧ SetSt w wr b n S G) (fun s7 _ => l - (intOf s7).toNat)
    case atStart => exact ⟨0, _, rfl, by omega, hst⟩
    case round =>
      clear hst t0
      obtain ⟨i, S, rfl, hi, hst⟩ := hrel
      by_cases hlt : i < l
      · have t1 : decide ((i : Int) < l) = true := decide_eq_true (by omega)
        obtain ⟨ba, oa, rfl, hcell⟩ := (r.keep hst.ch (by simp)).at (i := i) (by rw [HL.out]; exact hlt)
        have d := hcell i (by rw [HL.out]; exact hlt)
        obtain ⟨x, hx⟩ : ∃ x, gI xs i = x := ⟨_, rfl⟩
        rw [hx] at d
        obtain ⟨v, hv, _⟩ := umod x 320 (by decide) (by decide)
        have hs := stSet (v : Int) hst
        have hv' := Lib.hid hv
        clear hcell hx hv
        go_wp2_with fail
        try rw [hv'.out]
        refine hs.mono ?_; rintro e w2 ⟨rfl, h2⟩
        clear hs d hst
        go_wp2_with fail
        go_roundw
        case rel => exact ⟨i + 1, _, by go_num, by omega, h2⟩
        case measure => simp [intOf]; omega
      · have t1 : decide ((i : Int) < l) = false := decide_eq_false (by omega)
        have hTr := hst.tab hT
        have g1 := bitsNext b n S G true 0 _ hst.at_ hTr
        rw [show (0 : Int).toNat = 0 from rfl] at g1
        have hcl := fun p => cnt_le S p
        have hcn := cnt_not S n
        have HCN := Lib.hid hcn
        have t2 : decide (i < l) = false := decide_eq_false hlt
        clear hcn hi hlt
        go_wp2_with fail
        refine g1.mono ?_; rintro e w2 ⟨rfl, rfl⟩
        clear g1
        go_wp2_with fail
        go_loop [8, 10] (fun s8 s10 => ∃ p : Nat, p ≤ n ∧ s8 = .int .i64 (cnt S p : Nat) ∧ s10 = .int .i64 (nxt S n p true)) (fun s8 _ => n + 1 - (intOf s8).toNat)
        case atStart => exact ⟨0, by omega, rfl, rfl⟩
        case round =>
          obtain ⟨p, hp, rfl, rfl⟩ := hrel
          obtain ⟨C, hC⟩ : ∃ C, cnt S p = C := ⟨_, rfl⟩
          have hCl := hcl p
          rw [hC] at hCl ⊢
          rcases nxt_step S n p hp with ⟨q1, q2⟩ | ⟨k, q1, q2, q3, q4, q5⟩
          · rw [q1]
            rw [hC] at q2
            have HQ := Lib.hid q2
            clear q1 q2 hC
            have g1 := bitsNext b n S G false (-5) w2 hst.at_ (hst.tab hT)
            rw [show (-5 : Int).toNat = 0 from rfl, nxt_not] at g1
            go_wp2_with fail
            refine g1.mono ?_; rintro e w3 ⟨rfl, rfl⟩
            clear g1
            go_wp2_with fail
            go_loop [9, 11] (fun s9 s11 => ∃ p : Nat, p ≤ n ∧ s9 = .int .i64 (cnt (notS S) p : Nat) ∧ s11 = .int .i64 (nxt (notS S) n p true)) (fun s9 _ => n + 1 - (intOf s9).toNat)
            case atStart => exact ⟨0, by omega, rfl, rfl⟩
            case round =>
              obtain ⟨p', hp', rfl, rfl⟩ := hrel
              obtain ⟨D, hD⟩ : ∃ D, cnt (notS S) p' = D := ⟨_, rfl⟩
              have hDl := cnt_le (notS S) p'
              rw [hD] at hDl ⊢
              rcases nxt_step (notS S) n p' hp' with ⟨q1, q2⟩ | ⟨k, q1, q2, q3, q4, q5⟩
              · rw [q1]
                rw [hD] at q2
                have hsum := HCN.out
                rw [HQ.out, q2] at hsum
                have hc1 := bitsCount b n S G
                have hA := els_len S n
                rw [HQ.out] at hA
                have hcnt : ∀ w', SetAt w' b n S G → Calls Tryd.prog 18 #[.pointer (some ⟨b, 0, none⟩)] w' fun e w'' => e = .returned (.int .i64 (C : Nat)) ∧ w'' = w' := fun w' h => by
                  have := bitsCount b n S G w' h
                  rw [HQ.out] at this
                  exact this
                have z1 : ((C : Int) == (C : Int)) = true := beq_self_eq_true _
                have z2 : (C : Int) + D = n := by omega
                have z3 : ((n : Int) == (n : Int)) = true := beq_self_eq_true _
                have HCNT := Lib.hid hcnt
                have HA := Lib.hid hA
                have HT := Lib.hid hT
                clear q1 q2 hD hsum hc1 hA hcnt hcl hTr
                go_wp2_with fail
                refine (told3 w3 (hst.tab HT.out)).mono ?_; rintro e w4 ⟨rfl, c4⟩
                have hst4 := hst.still c4
                clear hst c4
                go_wp2_with fail
                refine (HCNT.out w4 hst4.at_).mono ?_; rintro e w5 ⟨rfl, rfl⟩
                go_wp2_with fail
                refine (bitsAll b n S G w5 hst4.at_ (hst4.tab HT.out) (by omega)).mono ?_; rintro e w6 ⟨v6, rfl, o6, c6⟩
                obtain ⟨a6, q6, rfl, _⟩ := o6.form
                rw [HA.out]
                have hend := (hst4.still c6).ch.below (Nat.le_refl _) (by simp)
                clear hst4 c6 o6
                go_wp2_with fail
                go_ret
                exact ⟨rfl, hend⟩
              · rw [q1]
                rw [hD] at q5
                have g1 := bitsHasIn b n S G k w3 hst.at_ q2
                rw [show S k = false by simpa [notS] using q4] at g1
                have g2 := bitsNext b n S G false ((k : Int) + 1) w3 hst.at_ (hst.tab hT)
                rw [show ((k : Int) + 1).toNat = k + 1 by omega, nxt_not] at g2
                have HQ5 := Lib.hid q5
                have hD1 := cnt_le (notS S) (k + 1)
                rw [q5] at hD1
                have u0 : ¬ (n : Int) ≤ k := by omega
                have u1 : ¬ (n : Int) < (D : Int) + 1 := by omega
                have u2 : (0 : Int) ≤ k := by omega
                clear q1 q5 q4 hD hcl
                go_wp2_with fail
                refine g1.mono ?_; rintro e w4 ⟨rfl, rfl⟩
                clear g1
                go_wp2_with fail
                refine g2.mono ?_; rintro e w5 ⟨rfl, rfl⟩
                clear g2
                go_wp2_with fail
                go_round
                case rel => exact ⟨k + 1, by omega, by rw [HQ5.out]; go_num, rfl⟩
                case measure => simp [intOf]; omega
          · rw [q1]
            rw [hC] at q5
            have g1 := bitsHasIn b n S G k w2 hst.at_ q2
            rw [q4] at g1
            have g2 := bitsNext b n S G true ((k : Int) + 1) w2 hst.at_ (hst.tab hT)
            rw [show ((k : Int) + 1).toNat = k + 1 by omega] at g2
            have hC1 := hcl (k + 1)
            rw [q5] at hC1
            have HQ := Lib.hid q5
            have u0 : ¬ (n : Int) ≤ k := by omega
            have u1 : ¬ (n : Int) < (C : Int) + 1 := by omega
            have u2 : (0 : Int) ≤ k := by omega
            clear q1 q5 q4 hC hcl
            go_wp2_with fail
            refine g1.mono ?_; rintro e w3 ⟨rfl, rfl⟩
            clear g1
            go_wp2_with fail
            refine g2.mono ?_; rintro e w4 ⟨rfl, rfl⟩
            clear g2
            go_wp2_with fail
            go_round
            case rel => exact ⟨k + 1, by omega, by rw [HQ.out]; go_num, rfl⟩
            case measure => simp [intOf]; omega
end Go.Proofs.YtheniiinioggiaaDoor
