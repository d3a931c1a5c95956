/-
  Contracts of the document's answer for layer 8 (spans in common): Unswept, Any, Take, TakeFull. Conditions: none beyond what each theorem names.
-/
import Derived.Test.YtaafdhohiekakaaRefCent2
namespace Go.Proofs.Ytaafdhohiekakaa
open Go.RowKit
section
variable {w w0 w2 : World} {r : Nat} {us : List Value} {Ls : List (List Int)} {S : List Nat}
theorem refCUnswept (h : RC w r us Ls S) (hl : ∀ i, (gL Ls i).length ≤ 100000) :
    Calls Try.prog 38 #[.pointer (some ⟨r, 0, none⟩)] w fun e w' => e = .returned (.int .i64 (unsw Ls 16 : Nat)) ∧ Ch [] w w' := by
  have HL := Lib.hid hl
  clear hl
  go_enter Try.func38, Try.ntmps38
  go_wp2_with fail
  go_loopw [3, 4] (fun s3 s4 wr => ∃ k : Nat, s4 = .int .i64 k ∧ k ≤ 16 ∧ s3 = .int .i64 (unsw Ls k : Nat) ∧ Ch [] w wr) (fun _ s4 _ => 16 - (intOf s4).toNat)
  case atStart => exact ⟨0, rfl, by omega, rfl, Ch.refl _ _⟩
  case round =>
    obtain ⟨k, rfl, hk, rfl, hc⟩ := hrel
    by_cases hk16 : k < 16
    · have t1 : decide ((k : Int) < 16) = true := decide_eq_true (by omega)
      have h1 := h.still hc
      have hu : unsw Ls (k + 1) = unsw Ls k + ((gL Ls (k * 4 + 2)).length + (gL Ls (k * 4 + 3)).length) := rfl
      have hul := unsw_le Ls 100000 HL.out k
      obtain ⟨U, hU⟩ : ∃ U, unsw Ls k = U := ⟨_, rfl⟩
      rw [hU] at hu hul ⊢
      obtain ⟨a2, q2, _, hc2, _⟩ := h1.1.at (i := k * 4 + 2) (by rw [h1.2.1]; omega)
      obtain ⟨a3, q3, _, hc3, _⟩ := h1.1.at (i := k * 4 + 3) (by rw [h1.2.1]; omega)
      have hl2 := HL.out (k * 4 + 2)
      have hl3 := HL.out (k * 4 + 3)
      obtain ⟨n2, hn2⟩ : ∃ n, (gL Ls (k * 4 + 2)).length = n := ⟨_, rfl⟩
      obtain ⟨n3, hn3⟩ : ∃ n, (gL Ls (k * 4 + 3)).length = n := ⟨_, rfl⟩
      rw [hn2] at hu hl2 hc2
      rw [hn3] at hu hl3 hc3
      have HU := Lib.hid hu
      have k0 : (0 : Int) ≤ k := by omega
      have k1 : (k : Int) < 16 := by omega
      clear hu hU hn2 hn3 h1
      go_upto_region 5 with fail
      go_quiet (fail)
      go_wp2
      go_roundw
      case rel => exact ⟨k + 1, by go_num, by omega, by rw [HU.out, ← Nat.add_assoc]; go_num, hc.drewN _⟩
      case measure => simp [intOf]; omega
    · obtain rfl : k = 16 := by omega
      go_wp2_with fail
      go_ret
      exact ⟨rfl, hc⟩
theorem refCAnyNone (h : RC w r us Ls S) (hx : ∀ m, m < 32 → gL Ls (ur m) = []) :
    Calls Try.prog 36 #[.pointer (some ⟨r, 0, none⟩)] w fun e w' => e = .returned (.tuple #[.int .i64 0, .int .i64 0, .bool false]) ∧ w' = w := by
  have HX := Lib.hid hx
  clear hx
  go_enter Try.func36, Try.ntmps36
  go_wp2_with fail
  go_loop [5] (fun s5 => ∃ k : Nat, s5 = .int .i64 k ∧ k ≤ 16) (fun s5 => 16 - (intOf s5).toNat)
  case atStart => exact ⟨0, rfl, by omega⟩
  case round =>
    obtain ⟨k, rfl, hk⟩ := hrel
    by_cases hk16 : k < 16
    · have t1 : decide ((k : Int) < 16) = true := decide_eq_true (by omega)
      go_wp2_with fail
      go_loop [6] (fun s6 => ∃ u : Nat, s6 = .int .i64 u ∧ 2 ≤ u ∧ u ≤ 4) (fun s6 => 4 - (intOf s6).toNat)
      case atStart => exact ⟨2, rfl, by omega, by omega⟩
      case round =>
        obtain ⟨u, rfl, hu2, hu⟩ := hrel
        by_cases hu4 : u < 4
        · have t2 : decide ((u : Int) < 4) = true := decide_eq_true (by omega)
          obtain ⟨a, c, _, hcell, _⟩ := h.1.at (i := k * 4 + u) (by rw [h.2.1]; omega)
          have he := HX.out (k * 2 + (u - 2)) (by omega)
          rw [ur_kf k (u - 2) (by omega), show k * 4 + 2 + (u - 2) = k * 4 + u by omega] at he
          rw [he] at hcell
          clear he
          go_wp2_with fail
          go_round
          case rel => exact ⟨u + 1, by go_num, by omega, by omega⟩
          case measure => simp [intOf]; omega
        · obtain rfl : u = 4 := by omega
          go_wp2_with fail
          go_round
          case rel => exact ⟨k + 1, by go_num, by omega⟩
          case measure => simp [intOf]; omega
    · obtain rfl : k = 16 := by omega
      go_wp2
      exact bodyPost_ret (results_tmp3 rfl _ _ _) rfl ⟨rfl, rfl⟩
set_option maxHeartbeats 1000000 in
theorem refCAnyAt (m0 : Nat) (x : Int) (t : List Int) (h : RC w r us Ls S) (hm0 : m0 < 32) (hL : gL Ls (ur m0) = x :: t) (hx : ∀ m, m < m0 → gL Ls (ur m) = []) (hl : t.length ≤ 100000) :
    Calls Try.prog 36 #[.pointer (some ⟨r, 0, none⟩)] w fun e w' => e = .returned (.tuple #[.int .i64 ((m0 / 2 : Nat) : Int), .int .i64 x, .bool true]) ∧ RCx w' r (Ls.set (ur m0) t) S ∧ Ch [r] w w' := by
  have HX := Lib.hid hx
  have HL := Lib.hid hL
  clear hx hL
  go_enter Try.func36, Try.ntmps36
  go_wp2_with fail
  go_loop [5] (fun s5 => ∃ k : Nat, s5 = .int .i64 k ∧ k * 2 ≤ m0) (fun s5 => 16 - (intOf s5).toNat)
  case atStart => exact ⟨0, rfl, by omega⟩
  case round =>
    obtain ⟨k, rfl, hk⟩ := hrel
    have t1 : decide ((k : Int) < 16) = true := decide_eq_true (by omega)
    go_wp2_with fail
    go_loop [6] (fun s6 => ∃ u : Nat, s6 = .int .i64 u ∧ 2 ≤ u ∧ u ≤ 4 ∧ k * 2 + u ≤ m0 + 2) (fun s6 => 4 - (intOf s6).toNat)
    case atStart => exact ⟨2, rfl, by omega, by omega, by omega⟩
    case round =>
      obtain ⟨u, rfl, hu2, hu, hku⟩ := hrel
      by_cases hu4 : u < 4
      · have t2 : decide ((u : Int) < 4) = true := decide_eq_true (by omega)
        obtain ⟨a, c, hus, hcell, hA⟩ := h.1.at (i := k * 4 + u) (by rw [h.2.1]; omega)
        have e1 := ur_kf k (u - 2) (by omega)
        rw [show k * 4 + 2 + (u - 2) = k * 4 + u by omega] at e1
        by_cases hlt : k * 2 + u < m0 + 2
        · have he := HX.out (k * 2 + (u - 2)) (by omega)
          rw [e1] at he
          rw [he] at hcell
          clear he e1 hus hA
          go_wp2_with fail
          go_round
          case rel => exact ⟨u + 1, by go_num, by omega, by omega, by omega⟩
          case measure => simp [intOf]; omega
        · have hm : k * 2 + (u - 2) = m0 := by omega
          rw [hm] at e1
          have hgl := HL.out
          rw [e1] at hgl
          rw [hgl] at hus hcell hA
          have HE := Lib.hid e1
          obtain ⟨ba, oa, rfl, hc0⟩ := hA.at (i := 0) (by simp)
          have e0 := hc0 0 (by simp)
          rw [show gI (x :: t) 0 = x from rfl, Nat.add_zero] at e0
          obtain ⟨n, hn⟩ : ∃ n, t.length = n := ⟨_, rfl⟩
          rw [List.length_cons, hn] at hcell hus
          rw [hn] at hl
          have hnc : (n : Int) + 1 ≤ c := by have h9 := hA.2.1; simp at h9; omega
          have n1 : (1 : Int) ≤ (n : Int) + 1 := by omega
          have n2 : decide ((n : Int) + 1 > 0) = true := decide_eq_true (by omega)
          have HN := Lib.hid hn
          have ht := hA.tail
          obtain ⟨A2, hA2⟩ : ∃ A2 : Option Addr, (if c = 1 then some ⟨ba, oa, none⟩ else some ⟨ba, oa + 1, none⟩) = A2 := ⟨_, rfl⟩
          rw [hA2] at ht
          have HA2 := Lib.hid hA2
          have hk2 : m0 / 2 = k := by omega
          have HK2 := Lib.hid hk2
          have hnr : ba ≠ r := by
            obtain ⟨y, hy, _, hb⟩ := hA.2.2.2.resolve_left (by simp)
            cases hy
            intro e
            subst e
            exact hb h.2.2
          have k2 : (0 : Int) ≤ k := by omega
          have k3 : (k : Int) < 16 := by omega
          have u2 : (0 : Int) ≤ u := by omega
          have u3 : (u : Int) < 4 := by omega
          clear hc0 hn hA2 hgl e1 hm hk2
          go_upto_region 9 with fail
          refine wp_region_tail 9 (by kernel_rfl) (by kernel_rfl) ?_
          simp only [List.take_succ_cons, List.take_zero, List.drop_succ_cons, List.drop_zero]
          repeat still_step
          refine wpStill_nil ?_
          rw [HA2.out]
          have h1 : RC (w.drewN 1) r us Ls S := h.still ((Ch.refl [] w).drewN 1)
          have f1 := h1.1.2.1.frozen (k * 4 + u)
          obtain ⟨R1, R2⟩ := h1.1.set h1.2.2 (i := k * 4 + u) (by rw [h.2.1]; omega) (ht.keep ((Ch.refl [] w).drewN 1) (by simp)) HN.out
          have cR := (((Ch.refl [] w).drewN 1).mono (T := [r]) (by simp)).trans R2
          go_upto_region 10 with fail
          go_quiet (fail)
          go_wp2
          refine bodyPost_ret (results_tmp3 rfl _ _ _) rfl ⟨by cases HK2.out; rfl, ⟨us.set (k * 4 + u) (.slice A2 n (c - 1)), ?_, by rw [List.length_set]; exact h.2.1, h.2.2⟩, cR.drewN _⟩
          rw [HE.out]
          exact R1.still ((Ch.refl [] _).drewN _)
      · obtain rfl : u = 4 := by omega
        go_wp2_with fail
        go_round
        case rel => exact ⟨k + 1, by go_num, by omega⟩
        case measure => simp [intOf]; omega
theorem refCAny (h : RC w r us Ls S) (hl : ∀ i, (gL Ls i).length ≤ 100000) :
    Calls Try.prog 36 #[.pointer (some ⟨r, 0, none⟩)] w fun e w' => e = .returned (.tuple #[.int .i64 (anyK Ls), .int .i64 (anyX Ls), .bool (anyB Ls)]) ∧ RCx w' r (anyL Ls) S ∧ Ch [r] w w' := by
  unfold anyK anyX anyB anyL
  rcases anyM_cases Ls with ⟨h1, h2⟩ | ⟨m, x, t, h1, h2, h3, h4⟩
  · simp only [h1, Option.isSome_none]
    refine (refCAnyNone h h2).mono ?_
    rintro e w' ⟨rfl, rfl⟩
    exact ⟨rfl, ⟨us, h⟩, Ch.refl _ _⟩
  · simp only [h1, h3, List.headD_cons, List.tail_cons, Option.isSome_some]
    exact refCAnyAt m x t h h2 h3 h4 (by have := hl (ur m); rw [h3] at this; simp at this; omega)
/-- What 'last' comes to. -/
def lastX (Ls : List (List Int)) (k : Int) (j : Nat) : Int := if okC k then (gL Ls (k.toNat * 4 + j)).getLastD 0 else 0
def lastB (Ls : List (List Int)) (k : Int) (j : Nat) : Bool := okC k && !(gL Ls (k.toNat * 4 + j)).isEmpty
def lastL (Ls : List (List Int)) (k : Int) (j : Nat) : List (List Int) := if okC k then Ls.set (k.toNat * 4 + j) (gL Ls (k.toNat * 4 + j)).dropLast else Ls
theorem refCLast (k : Int) (j : Nat) (h : RC w r us Ls S) (hj : j < 4) (hl : ∀ i, (gL Ls i).length ≤ 100000) :
    Calls Try.prog 49 #[.pointer (some ⟨r, 0, none⟩), .int .i64 k, .int .i64 j] w fun e w' => e = .returned (.tuple #[.int .i64 (lastX Ls k j), .bool (lastB Ls k j)]) ∧ RCx w' r (lastL Ls k j) S ∧ Ch [r] w w' := by
  unfold lastX lastB lastL
  cases hk : okC k with
  | true =>
    have := okC_lt' hk
    obtain ⟨k', rfl⟩ : ∃ k' : Nat, k = k' := ⟨k.toNat, by omega⟩
    simp only [if_true, Int.toNat_natCast, Bool.true_and]
    rcases List.eq_nil_or_concat (gL Ls (k' * 4 + j)) with h0 | ⟨p, x, h0⟩
    · rw [h0]
      refine (refCLastEmpty k' j h (by omega) hj h0).mono ?_
      rintro e w' ⟨rfl, rfl⟩
      rw [List.dropLast_nil, self_set Ls _ h0]
      exact ⟨rfl, ⟨us, h⟩, Ch.refl _ _⟩
    · rw [List.concat_eq_append] at h0
      have := refCLastSome k' j p x h (by omega) hj h0 (by have := hl (k' * 4 + j); rw [h0] at this; simp at this; omega)
      rw [h0]
      simp only [show (p ++ [x]).isEmpty = false by cases p <;> rfl]
      simpa using this
  | false =>
    have hk' : k < 0 ∨ 15 < k := by
      simp only [okC, Bool.and_eq_false_iff, decide_eq_false_iff_not] at hk
      omega
    simp only [Bool.false_eq_true, if_false, Bool.false_and]
    refine (refCLastNo r k j w hk').mono ?_
    rintro e w' ⟨rfl, rfl⟩
    exact ⟨rfl, ⟨us, h⟩, Ch.refl _ _⟩
theorem take_of_last (Ls : List (List Int)) (k : Int) : (lastB Ls k 0 = true ∧ takeX Ls k = lastX Ls k 0 ∧ takeU Ls k = false ∧ takeB Ls k = true ∧ takeL Ls k = lastL Ls k 0) ∨
    (lastB Ls k 0 = false ∧ lastL Ls k 0 = Ls ∧ takeX Ls k = lastX Ls k 2 ∧ takeU Ls k = lastB Ls k 2 ∧ takeB Ls k = lastB Ls k 2 ∧ takeL Ls k = lastL Ls k 2) := by
  unfold lastB takeX lastX takeU takeB takeL lastL
  cases hk : okC k with
  | false => simp
  | true =>
    simp only [if_true, Bool.true_and, Nat.add_zero]
    rcases List.eq_nil_or_concat (gL Ls (k.toNat * 4)) with h0 | ⟨p, x, h0⟩
    · right
      rw [h0]
      simp [self_set Ls _ h0]
    · left
      rw [List.concat_eq_append] at h0
      rw [h0]
      simp
theorem refCTake (k : Int) (h : RC w r us Ls S) (hl : ∀ i, (gL Ls i).length ≤ 100000) :
    Calls Try.prog 32 #[.pointer (some ⟨r, 0, none⟩), .int .i64 k] w fun e w' => e = .returned (.tuple #[.int .i64 (takeX Ls k), .bool (takeU Ls k), .bool (takeB Ls k)]) ∧ RCx w' r (takeL Ls k) S ∧ Ch [r] w w' := by
  have h0 := refCLast k 0 h (by omega) hl
  rcases take_of_last Ls k with ⟨e0, e1, e2, e3, e4⟩ | ⟨e0, e5, e1, e2, e3, e4⟩
  · rw [e1, e2, e3, e4]
    rw [e0] at h0
    clear e0 e1 e2 e3 e4
    go_enter Try.func32, Try.ntmps32
    go_wp2_with fail
    refine h0.mono ?_; rintro e w1 ⟨rfl, h1, c1⟩
    clear h0
    go_wp2
    exact bodyPost_ret (results_tmp3 rfl _ _ _) rfl ⟨rfl, h1, c1⟩
  · rw [e1, e2, e3, e4]
    rw [e0, e5] at h0
    clear e0 e1 e2 e3 e4 e5
    go_enter Try.func32, Try.ntmps32
    go_wp2_with fail
    refine h0.mono ?_; rintro e w1 ⟨rfl, ⟨us1, h1⟩, c1⟩
    clear h0 h
    have h2 := refCLast k 2 h1 (by omega) hl
    go_wp2_with fail
    refine h2.mono ?_; rintro e w2 ⟨rfl, h3, c2⟩
    clear h2
    have cc := c1.trans c2
    go_wp2
    exact bodyPost_ret (results_tmp3 rfl _ _ _) rfl ⟨rfl, h3, cc⟩
theorem refCTakeFull (k : Int) (h : RC w r us Ls S) (hl : ∀ i, (gL Ls i).length ≤ 100000) :
    Calls Try.prog 33 #[.pointer (some ⟨r, 0, none⟩), .int .i64 k] w fun e w' => e = .returned (.tuple #[.int .i64 (fullX Ls k), .bool (fullB Ls k)]) ∧ RCx w' r (fullL Ls k) S ∧ Ch [r] w w' := by
  have h0 := refCLast k 3 h (by omega) hl
  rw [show lastX Ls k 3 = fullX Ls k from rfl, show lastB Ls k 3 = fullB Ls k from rfl, show lastL Ls k 3 = fullL Ls k from rfl] at h0
  go_enter Try.func33, Try.ntmps33
  go_wp2_with fail
  refine h0.mono ?_; rintro e w1 ⟨rfl, h1, c1⟩
  clear h0
  go_wp2
  go_ret2
  exact ⟨rfl, h1, c1⟩
end
end Go.Proofs.Ytaafdhohiekakaa
