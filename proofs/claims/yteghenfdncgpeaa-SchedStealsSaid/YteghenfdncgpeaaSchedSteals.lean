/-
  The walk of the statement SchedSteals: the law returns true at every input. Conditions: none.
-/
import Derived.Test.YteghenfdncgpeaaSchMath
import Derived.Test.YteghenfdncgpeaaRng
namespace Go.Proofs.Yteghenfdncgpeaa
open Go.RowKit
/-- Three Ps: the first has r0, the second nobody, the third r2, and 5000 next if h2; nobody in common. -/
structure Th (st : SSt) (r0 r2 : List Int) (h2 : Bool) : Prop where
  row0 : st.row 0 = r0
  hs0 : st.hs 0 = false
  row1 : st.row 1 = []
  hs1 : st.hs 1 = false
  row2 : st.row 2 = r2
  hs2 : st.hs 2 = h2
  nx2 : h2 = true → st.nx 2 = 5000
  com : st.com = []
theorem Th.init : Th initS [] [] false := ⟨rfl, rfl, rfl, rfl, rfl, rfl, (fun e => by cases e), rfl⟩
theorem Th.ready {st : SSt} {r2 : List Int} (h : Th st [] r2 false) (g : Int) (hl : r2.length < 256) : Th (readyS st 2 g false) [] (r2 ++ [g]) false := by
  obtain ⟨a, b, c, d⟩ := ready_at (st := st) (p := 2) (g := g) (nb := false)
  rw [h.hs2, h.row2] at c d
  obtain ⟨e1, e2⟩ := putX_room (nx := st.nx 2) (g := g) hl
  obtain ⟨_, f1, f2⟩ := ready_ne (st := st) (p := 2) (j := 0) (g := g) (nb := false) (by omega)
  obtain ⟨_, k1, k2⟩ := ready_ne (st := st) (p := 2) (j := 1) (g := g) (nb := false) (by omega)
  exact ⟨by rw [f2]; exact h.row0, by rw [f1]; exact h.hs0, by rw [k2]; exact h.row1, by rw [k1]; exact h.hs1, by rw [c, e1], by rw [b, h.hs2]; rfl, (fun e => by cases e), by rw [d, e2, h.com]; rfl⟩
theorem Th.next {st : SSt} {r2 : List Int} (h : Th st [] r2 false) : Th (readyS st 2 5000 true) [] r2 true := by
  obtain ⟨a, b, c, d⟩ := ready_at (st := st) (p := 2) (g := 5000) (nb := true)
  rw [h.hs2, h.row2] at c d
  obtain ⟨_, f1, f2⟩ := ready_ne (st := st) (p := 2) (j := 0) (g := 5000) (nb := true) (by omega)
  obtain ⟨_, k1, k2⟩ := ready_ne (st := st) (p := 2) (j := 1) (g := 5000) (nb := true) (by omega)
  exact ⟨by rw [f2]; exact h.row0, by rw [f1]; exact h.hs0, by rw [k2]; exact h.row1, by rw [k1]; exact h.hs1, by rw [c]; rfl, by rw [b]; rfl, fun _ => by rw [a]; rfl, by rw [d, h.com]; rfl⟩
theorem Th.get {st : SSt} {r0 r2 : List Int} {h2 : Bool} (h : Th st r0 r2 h2) : Th (getSt st 0) r0.tail r2 h2 := by
  obtain ⟨a, b, c, d⟩ := getSt_at (st := st) (p := 0)
  obtain ⟨_, k1, k2⟩ := getSt_ne (st := st) (p := 0) (j := 1) (by omega)
  obtain ⟨m0, m1, m2⟩ := getSt_ne (st := st) (p := 0) (j := 2) (by omega)
  exact ⟨by rw [c, h.hs0, h.row0]; rfl, b, by rw [k2]; exact h.row1, by rw [k1]; exact h.hs1, by rw [m2]; exact h.row2, by rw [m1]; exact h.hs2, fun e => by rw [m0]; exact h.nx2 e, by rw [d]; exact h.com⟩
/-- Nobody of one's own, and of no use whom one would steal from. -/
theorem Th.nobody {st : SSt} {r2 : List Int} {h2 : Bool} (h : Th st [] r2 h2) {vic : Int} (hv : vic = 0 ∨ vic = 1 ∨ vic = 3) : pickV st 0 3 1 vic = 0 ∧ pickB st 0 3 1 vic = false ∧ Th (pickS st 0 3 1 vic) [] r2 h2 := by
  obtain ⟨a, b, c⟩ := pick_steal (st := st) (p := 0) (n := 3) (tick := 1) (vic := vic) (by rw [h.hs0, h.row0]; rfl) h.com
  have key : (stealV st 0 3 vic).hs 0 = false ∧ (stealV st 0 3 vic).row 0 = [] ∧ Th (stealV st 0 3 vic) [] r2 h2 := by
    rcases hv with rfl | rfl | rfl
    · have e0 : stealV st 0 3 0 = st := stealV_no (.inr rfl)
      rw [e0]; exact ⟨h.hs0, h.row0, h⟩
    · have e : stealV st 0 3 ((1 : Nat) : Int) = stealS st 0 1 := stealV_yes (by omega) (by omega)
      rw [show (1 : Int) = ((1 : Nat) : Int) from rfl, e]
      obtain ⟨_, f2, f3, f4⟩ := steal_at (st := st) (p := 0) (q := 1) (by omega)
      obtain ⟨_, g2, g3⟩ := steal_from (st := st) (p := 0) (q := 1)
      obtain ⟨k0, k1, k2⟩ := steal_ne (st := st) (p := 0) (q := 1) (j := 2) (by omega) (by omega)
      rw [h.row0, h.row1, h.hs1] at f3
      rw [h.row0, h.row1, h.hs1] at g2 g3
      have r0 : (stealS st 0 1).row 0 = [] := by rw [f3]; rfl
      have s0 : (stealS st 0 1).hs 0 = false := by rw [f2]; exact h.hs0
      exact ⟨s0, r0, ⟨r0, s0, by rw [g3]; rfl, by rw [g2]; rfl, by rw [k2]; exact h.row2, by rw [k1]; exact h.hs2, fun e => by rw [k0]; exact h.nx2 e, by rw [f4]; exact h.com⟩⟩
    · have e0 : stealV st 0 3 3 = st := stealV_no (.inl rfl)
      rw [e0]; exact ⟨h.hs0, h.row0, h⟩
  obtain ⟨k1, k2, k3⟩ := key
  rw [k1, k2] at a b
  exact ⟨a, b, by rw [c]; exact k3.get⟩
theorem Th.own {st : SSt} {g : Int} {t r2 : List Int} {h2 : Bool} (h : Th st (g :: t) r2 h2) {vic : Int} : pickV st 0 3 1 vic = g ∧ pickB st 0 3 1 vic = true ∧ Th (pickS st 0 3 1 vic) t r2 h2 := by
  obtain ⟨a, b, c⟩ := pick_own (st := st) (p := 0) (n := 3) (vic := vic) (tick := 1) (fair_nobody h.com) (by rw [h.hs0, h.row0]; rfl)
  exact ⟨by rw [a, h.hs0, h.row0]; rfl, b, by rw [c]; exact h.get⟩
/-- Half of the third's row is stolen; its first is told. -/
theorem Th.steal {st : SSt} {r2 : List Int} {h2 : Bool} (h : Th st [] r2 h2) (hne : r2 ≠ []) (hl : r2.length ≤ 256) {g : Int} {t : List Int} (hg : r2.take (r2.length - r2.length / 2) = g :: t) : pickV st 0 3 1 2 = g ∧ pickB st 0 3 1 2 = true ∧ Th (pickS st 0 3 1 2) t (r2.drop (r2.length - r2.length / 2)) h2 := by
  obtain ⟨a, b, c⟩ := pick_steal (st := st) (p := 0) (n := 3) (tick := 1) (vic := 2) (by rw [h.hs0, h.row0]; rfl) h.com
  have e : stealV st 0 3 ((2 : Nat) : Int) = stealS st 0 2 := stealV_yes (by omega) (by omega)
  replace e : stealV st 0 3 2 = stealS st 0 2 := e
  rw [e] at a b c
  obtain ⟨f1, f2, f3, f4⟩ := steal_at (st := st) (p := 0) (q := 2) (by omega)
  obtain ⟨g1, g2, g3⟩ := steal_from (st := st) (p := 0) (q := 2)
  obtain ⟨k0, k1, k2⟩ := steal_ne (st := st) (p := 0) (q := 2) (j := 1) (by omega) (by omega)
  rw [h.row0, h.row2, h.hs2] at f3
  rw [h.row0, h.row2, h.hs2] at g2 g3
  have ek : stealK [] r2 h2 = r2.length - r2.length / 2 := by
    unfold stealK
    rw [if_neg hne, List.length_nil]
    omega
  have r0 : (stealS st 0 2).row 0 = g :: t := by
    rw [f3]
    unfold stealX
    rw [if_neg hne, ek, hg]; rfl
  have s0 : (stealS st 0 2).hs 0 = false := by rw [f2]; exact h.hs0
  have hT : Th (stealS st 0 2) (g :: t) (r2.drop (r2.length - r2.length / 2)) h2 := by
    refine ⟨r0, s0, by rw [k2]; exact h.row1, by rw [k1]; exact h.hs1, ?_, ?_, fun e => by rw [g1]; exact h.nx2 e, by rw [f4]; exact h.com⟩
    · rw [g3]
      unfold stealY
      rw [if_neg hne, ek]
    · rw [g2]
      unfold stealH
      rw [if_neg hne]
  rw [s0, r0] at a b
  exact ⟨a, b, by rw [c]; exact hT.get⟩
theorem Th.all {st : SSt} {r0 r2 : List Int} {h2 : Bool} (h : Th st r0 r2 h2) : allS st 0 = r0 ∧ allS st 1 = [] ∧ allS st 2 = if h2 then 5000 :: r2 else r2 := by
  refine ⟨by rw [allS_of rfl h.hs0 h.row0]; rfl, by rw [allS_of rfl h.hs1 h.row1]; rfl, ?_⟩
  cases h2 with
  | true => rw [allS_of (h.nx2 rfl) h.hs2 h.row2]; rfl
  | false => rw [allS_of rfl h.hs2 h.row2]; rfl
theorem Th.where {st : SSt} {r0 r2 : List Int} {h2 : Bool} (h : Th st r0 r2 h2) (n0 : (5000 : Int) ∉ r0) (n2 : (5000 : Int) ∉ r2) : whereB st 3 5000 = h2 ∧ (h2 = true → whereV st 3 5000 = 2) := by
  obtain ⟨a0, a1, a2⟩ := h.all
  have i0 : inRing st 5000 0 = false := by unfold inRing; rw [a0]; simpa using n0
  have i1 : inRing st 5000 1 = false := by unfold inRing; rw [a1]; rfl
  cases h2 with
  | true =>
    have i2 : inRing st 5000 2 = true := by unfold inRing; rw [a2]; simp
    have e : firstP (inRing st 5000) 3 = some 2 := firstP_some i2 (fun j hj => by
      rcases Nat.lt_or_ge j 1 with h | h
      · obtain rfl : j = 0 := by omega
        exact i0
      · obtain rfl : j = 1 := by omega
        exact i1) (by omega)
    exact ⟨by unfold whereB; rw [e], fun _ => by unfold whereV; rw [e]; rfl⟩
  | false =>
    have i2 : inRing st 5000 2 = false := by unfold inRing; rw [a2]; simpa using n2
    have e : firstP (inRing st 5000) 3 = none := firstP_none (fun j hj => by
      rcases Nat.lt_or_ge j 1 with h | h
      · obtain rfl : j = 0 := by omega
        exact i0
      · rcases Nat.lt_or_ge j 2 with h | h
        · obtain rfl : j = 1 := by omega
          exact i1
        · obtain rfl : j = 2 := by omega
          exact i2)
    exact ⟨by unfold whereB; rw [e, h.com]; rfl, fun e => by cases e⟩
theorem Th.tot {st : SSt} {r0 r2 : List Int} {h2 : Bool} (h : Th st r0 r2 h2) : totS st 3 = r0.length + r2.length + if h2 then 1 else 0 := by
  obtain ⟨a0, a1, a2⟩ := h.all
  have e : totS st 3 = st.com.length + (0 + (allS st 0).length + (allS st 1).length + (allS st 2).length) := rfl
  rw [e, h.com, a0, a1, a2]
  cases h2 <;> simp <;> omega
theorem rng_halves {k : Nat} (hk : 1 ≤ k) : (rng 0 k).take ((rng 0 k).length - (rng 0 k).length / 2) = 0 :: rng 1 (k - k / 2 - 1) ∧ (rng 0 k).drop ((rng 0 k).length - (rng 0 k).length / 2) = rng ((k - k / 2 : Nat) : Int) (k / 2) := by
  rw [rng_len]
  obtain ⟨H, hH⟩ : ∃ H, k - k / 2 = H + 1 := ⟨k - k / 2 - 1, by omega⟩
  refine ⟨?_, ?_⟩
  · rw [rng_take 0 _ k (by omega), hH, rng_cons, Nat.add_sub_cancel]; rfl
  · have e : rng 0 k = rng 0 (k - k / 2) ++ rng ((0 : Int) + ((k - k / 2 : Nat) : Int)) (k / 2) := by
      rw [← rng_split, Nat.sub_add_cancel (Nat.div_le_self k 2)]
    conv => lhs; rw [e]
    rw [List.drop_append_of_le_length (by rw [rng_len]; exact Nat.le_refl _), List.drop_eq_nil_of_le (by rw [rng_len]; exact Nat.le_refl _), List.nil_append, Int.zero_add]
set_option maxRecDepth 100000 in
set_option maxHeartbeats 2000000 in
theorem steals_walk (a0 : Int) (next : Bool) (w : World) :
    Calls Try.prog 13 #[.int .i64 a0, .bool next] w fun e w' => e = .returned (.bool true) ∧ Below w.heap.size w w' := by
  obtain ⟨q, hq, hql⟩ := umod a0 200 (by decide) (by decide)
  obtain ⟨k, hk⟩ : ∃ k, q + 1 = k := ⟨_, rfl⟩
  have hkk1 : (1 : Int) + (q : Int) = (k : Int) := by omega
  have hkw : wrap64 ((1 : Int) + (q : Int)) = (k : Int) := by rw [hkk1]; exact IntWalk.wrap64_in _ (by omega)
  have hk200 : k ≤ 200 := by omega
  have hk1 : 1 ≤ k := by omega
  have HQ := Lib.hid hq
  have HKW := Lib.hid hkw
  have HK1 := Lib.hid hkk1
  clear hq hk hkk1 hkw hql
  go_enter Try.func13, Try.ntmps13
  go_wp2_with fail
  refine (sdNew w 3 (by omega) (by omega)).mono ?_; rintro e w1 hn
  obtain ⟨s, D, rfl, h0⟩ := hn
  go_wp2_with fail
  rw [HQ.out]
  first
  | rw [HKW.out]
  | rw [HK1.out]
  go_loopw [8] (fun s8 wr => ∃ (i : Nat) (D : List Nat) (st : SSt), s8 = .int .i64 i ∧ i ≤ k ∧ SD w wr D s 3 st ∧ Th st [] (rng 0 i) false) (fun s8 _ => k - (intOf s8).toNat)
  case atStart => exact ⟨0, D, _, rfl, by omega, h0, Th.init⟩
  case round =>
    clear h0
    obtain ⟨i, D, st, rfl, hik, h1, hT⟩ := hrel
    by_cases hlt : i < k
    · have t1 : decide ((i : Int) < k) = true := decide_eq_true (by omega)
      have hT2 := hT.ready (i : Int) (by rw [rng_len]; omega)
      rw [← rng_zero] at hT2
      go_wp2_with fail
      refine (sdReady (i := 2) (i : Int) false h1 (by omega) (by rw [hT.com]; simp)).mono ?_; rintro e w2 ⟨rfl, D2, h2, -, -⟩
      clear h1 hT
      go_wp2_with fail
      go_roundw
      case rel => exact ⟨i + 1, D2, _, by go_num, by omega, h2, hT2⟩
      case measure => simp [intOf]; omega
    · obtain rfl : i = k := by omega
      have t1 : decide ((i : Int) < i) = false := decide_eq_false (by omega)
      obtain ⟨k, hk⟩ : ∃ k, i = k := ⟨_, rfl⟩
      rw [hk] at hT hk200 hk1 t1 ⊢
      clear hk hik hlt
      cases next with
      | true =>
        have hT2 := hT.next
        go_wp2_with fail
        refine (sdReady (i := 2) 5000 true h1 (by omega) (by rw [hT.com]; simp)).mono ?_; rintro e w2 ⟨rfl, D2, h3, -, -⟩
        clear h1 hT
        obtain ⟨st3, hst3⟩ : ∃ st3, readyS st 2 5000 true = st3 := ⟨_, rfl⟩
        rw [hst3] at h3 hT2
        have hT := hT2
        clear hst3 hT2
        have n1 := hT.nobody (vic := 0) (.inl rfl)
        go_wp2_with fail
        refine (sdPick (i := 0) 1 0 h3 (by omega) (by rw [hT.com]; simp)).mono ?_; rintro e w4 ⟨rfl, D4, h4, -, -⟩
        rw [n1.1, n1.2.1]
        obtain ⟨st4, hst4⟩ : ∃ st4, pickS st3 0 3 1 0 = st4 := ⟨_, rfl⟩
        have hT4 := n1.2.2
        rw [hst4] at h4 hT4
        clear h3 hT n1 hst4
        have n2 := hT4.nobody (vic := 3) (.inr (.inr rfl))
        go_wp2_with fail
        refine (sdPick (i := 0) 1 3 h4 (by omega) (by rw [hT4.com]; simp)).mono ?_; rintro e w5 ⟨rfl, D5, h5, -, -⟩
        rw [n2.1, n2.2.1]
        obtain ⟨st5, hst5⟩ : ∃ st5, pickS st4 0 3 1 3 = st5 := ⟨_, rfl⟩
        have hT5 := n2.2.2
        rw [hst5] at h5 hT5
        clear h4 hT4 n2 hst5
        have n3 := hT5.steal (g := 0) (t := rng 1 (k - k / 2 - 1)) (by intro e; have := congrArg List.length e; rw [rng_len] at this; simp at this; omega) (by rw [rng_len]; omega) (rng_halves hk1).1
        rw [(rng_halves hk1).2] at n3
        obtain ⟨H, hH⟩ : ∃ H, k - k / 2 - 1 = H := ⟨_, rfl⟩
        obtain ⟨F, hF⟩ : ∃ F, k / 2 = F := ⟨_, rfl⟩
        have hkF : k - F = H + 1 := by omega
        have hkd : (k : Int) / 2 = (F : Int) := by omega
        have hkh : (k : Int) - (F : Int) = (H : Int) + 1 := by omega
        rw [hF] at n3
        rw [show k - F - 1 = H by omega, show k - F = H + 1 by omega] at n3
        have HKF := Lib.hid hkF
        have hF100 : F ≤ 100 := by omega
        have hH100 : H ≤ 100 := by omega
        have hH1 : ((H : Int) + 1) - 1 = (H : Int) := by omega
        clear hkF hH hF
        go_wp2_with fail
        refine (sdPick (i := 0) 1 2 h5 (by omega) (by rw [hT5.com]; simp)).mono ?_; rintro e w6 ⟨rfl, D6, h6, -, -⟩
        rw [n3.1, n3.2.1]
        obtain ⟨st6, hst6⟩ : ∃ st6, pickS st5 0 3 1 2 = st6 := ⟨_, rfl⟩
        have hT6 := n3.2.2
        rw [hst6] at h6 hT6
        clear h5 hT5 n3 hst6
        have a0 : (allS st6 0).length = H := by rw [hT6.all.1, rng_len]
        have a2 : (allS st6 2).length = (F + 1) := by
          rw [hT6.all.2.2]
          simp [rng_len]
        have hw := hT6.where (by rw [mem_rng]; omega) (by rw [mem_rng]; omega)
        have HW := Lib.hid hw
        have HA0 := Lib.hid a0
        have HA2 := Lib.hid a2
        have zH : ((H : Int) != (H : Int)) = false := by simp
        have zL : ((((F + 1) : Nat) : Int) != (((F + 1) : Nat) : Int)) = false := by simp
        clear hw a0 a2
        go_wp2_with fail
        refine (sdLocal (i := 0) h6 (by omega)).mono ?_; rintro e w7 ⟨v7, rfl, o7, c7⟩
        obtain ⟨a7, cap7, rfl, _, _, _⟩ := o7.form
        rw [HA0.out]
        replace h6 := h6.still c7
        clear o7 c7
        go_wp2_with fail
        refine (sdLocal (i := 2) h6 (by omega)).mono ?_; rintro e w8 ⟨v8, rfl, o8, c8⟩
        obtain ⟨a8, cap8, rfl, _, _, _⟩ := o8.form
        rw [HA2.out]
        replace h6 := h6.still c8
        clear o8 c8
        go_wp2_with fail
        refine (sdWhere 5000 h6 (by omega) (by rw [hT6.com]; simp)).mono ?_; rintro e w9 ⟨rfl, c9⟩
        rw [HW.out.1]
        rw [HW.out.2 (by trivial)]
        replace h6 := h6.still c9
        clear c9
        go_wp2_with fail
        have hlt3 : totS st6 3 = totS st6 3 := rfl
        clear HW HA0 HA2 zH hkd hkh hH1 hlt3
        go_loopw [4, 19, 20, 21] (fun s4 s19 s20 s21 wr => ∃ (i : Nat) (D : List Nat) (st : SSt), s19 = .int .i64 i ∧ 1 ≤ i ∧ i ≤ H + 1 ∧ SD w wr D s 3 st ∧ Th st (rng (i : Int) (H + 1 - i)) (rng ((H + 1 : Nat) : Int) F) true) (fun _ s19 _ _ _ => H + 1 - (intOf s19).toNat)
        case atStart => exact ⟨1, _, st6, rfl, by omega, by omega, h6, hT6⟩
        case round =>
          clear h6 hT6
          obtain ⟨i, D, st, rfl, hi1, hiH, h7, hT7⟩ := hrel
          by_cases hlt : i < H + 1
          · have u1 : decide ((i : Int) < (H : Int) + 1) = true := decide_eq_true (by omega)
            have u2 : (i : Int) < (H : Int) + 1 := by omega
            have u3 : ((i : Int) != (i : Int)) = false := by simp
            rw [show H + 1 - i = (H + 1 - (i + 1)) + 1 by omega, rng_cons] at hT7
            obtain ⟨g1, g2, g3⟩ := hT7.own (vic := 1)
            have hc := hT7.com
            clear hT7
            go_wp2_with fail
            refine (sdPick (i := 0) 1 1 h7 (by omega) (by rw [hc]; simp)).mono ?_; rintro e wa ⟨rfl, Da, ha, -, -⟩
            rw [g1, g2]
            clear h7 g1 g2
            go_wp2_with fail
            go_roundw
            case rel => exact ⟨i + 1, Da, _, by go_num, by omega, by omega, ha, g3⟩
            case measure => simp [intOf]; omega
          · obtain rfl : i = H + 1 := by omega
            have u1 : decide (((H : Int) + 1) < (H : Int) + 1) = false := decide_eq_false (by omega)
            rw [Nat.sub_self] at hT7
            have hn := hT7.nobody (vic := 1) (.inr (.inl rfl))
            have hc := hT7.com
            clear hT7
            go_wp2_with fail
            refine (sdPick (i := 0) 1 1 h7 (by omega) (by rw [hc]; simp)).mono ?_; rintro e wa ⟨rfl, Da, ha, -, -⟩
            rw [hn.1, hn.2.1]
            have hTa := hn.2.2
            obtain ⟨sta, hsta⟩ : ∃ sta, pickS st 0 3 1 1 = sta := ⟨_, rfl⟩
            rw [hsta] at ha hTa
            clear h7 hn hsta
            go_wp2_with fail
            refine (schPickNil 0 1 0 wa).mono ?_; rintro e wb ⟨rfl, cb⟩
            replace ha := ha.still cb
            clear cb
            go_wp2_with fail
            refine (told27 wb).mono ?_; rintro e wc ⟨rfl, cc⟩
            replace ha := ha.still cc
            clear cc
            go_wp2_with fail
            refine (schLenNil wc).mono ?_; rintro e wd ⟨rfl, rfl⟩
            have htot : totS sta 3 = (F + 1) := by rw [hTa.tot, rng_len]; simp
            have hca := hTa.com
            clear hTa
            go_wp2_with fail
            refine (sdLen ha (by omega) (by rw [hca]; simp)).mono ?_; rintro e we ⟨rfl, ce⟩
            rw [htot]
            have hend := (ha.still ce).ch.below (Nat.le_refl _) (by simp)
            clear ha ce
            have zz : ((((F + 1) : Nat) : Int) == (((F + 1) : Nat) : Int)) = true := by simp
            go_wp2_with fail
            go_ret
            exact ⟨rfl, hend⟩
      | false =>
        obtain ⟨st3, hst3⟩ : ∃ st3, st = st3 := ⟨_, rfl⟩
        rw [hst3] at h1 hT
        have h3 := h1
        clear hst3 h1
        have n1 := hT.nobody (vic := 0) (.inl rfl)
        go_wp2_with fail
        refine (sdPick (i := 0) 1 0 h3 (by omega) (by rw [hT.com]; simp)).mono ?_; rintro e w4 ⟨rfl, D4, h4, -, -⟩
        rw [n1.1, n1.2.1]
        obtain ⟨st4, hst4⟩ : ∃ st4, pickS st3 0 3 1 0 = st4 := ⟨_, rfl⟩
        have hT4 := n1.2.2
        rw [hst4] at h4 hT4
        clear h3 hT n1 hst4
        have n2 := hT4.nobody (vic := 3) (.inr (.inr rfl))
        go_wp2_with fail
        refine (sdPick (i := 0) 1 3 h4 (by omega) (by rw [hT4.com]; simp)).mono ?_; rintro e w5 ⟨rfl, D5, h5, -, -⟩
        rw [n2.1, n2.2.1]
        obtain ⟨st5, hst5⟩ : ∃ st5, pickS st4 0 3 1 3 = st5 := ⟨_, rfl⟩
        have hT5 := n2.2.2
        rw [hst5] at h5 hT5
        clear h4 hT4 n2 hst5
        have n3 := hT5.steal (g := 0) (t := rng 1 (k - k / 2 - 1)) (by intro e; have := congrArg List.length e; rw [rng_len] at this; simp at this; omega) (by rw [rng_len]; omega) (rng_halves hk1).1
        rw [(rng_halves hk1).2] at n3
        obtain ⟨H, hH⟩ : ∃ H, k - k / 2 - 1 = H := ⟨_, rfl⟩
        obtain ⟨F, hF⟩ : ∃ F, k / 2 = F := ⟨_, rfl⟩
        have hkF : k - F = H + 1 := by omega
        have hkd : (k : Int) / 2 = (F : Int) := by omega
        have hkh : (k : Int) - (F : Int) = (H : Int) + 1 := by omega
        rw [hF] at n3
        rw [show k - F - 1 = H by omega, show k - F = H + 1 by omega] at n3
        have HKF := Lib.hid hkF
        have hF100 : F ≤ 100 := by omega
        have hH100 : H ≤ 100 := by omega
        have hH1 : ((H : Int) + 1) - 1 = (H : Int) := by omega
        clear hkF hH hF
        go_wp2_with fail
        refine (sdPick (i := 0) 1 2 h5 (by omega) (by rw [hT5.com]; simp)).mono ?_; rintro e w6 ⟨rfl, D6, h6, -, -⟩
        rw [n3.1, n3.2.1]
        obtain ⟨st6, hst6⟩ : ∃ st6, pickS st5 0 3 1 2 = st6 := ⟨_, rfl⟩
        have hT6 := n3.2.2
        rw [hst6] at h6 hT6
        clear h5 hT5 n3 hst6
        have a0 : (allS st6 0).length = H := by rw [hT6.all.1, rng_len]
        have a2 : (allS st6 2).length = F := by
          rw [hT6.all.2.2]
          simp [rng_len]
        have hw := hT6.where (by rw [mem_rng]; omega) (by rw [mem_rng]; omega)
        have HW := Lib.hid hw
        have HA0 := Lib.hid a0
        have HA2 := Lib.hid a2
        have zH : ((H : Int) != (H : Int)) = false := by simp
        have zL : (((F : Nat) : Int) != ((F : Nat) : Int)) = false := by simp
        clear hw a0 a2
        go_wp2_with fail
        refine (sdLocal (i := 0) h6 (by omega)).mono ?_; rintro e w7 ⟨v7, rfl, o7, c7⟩
        obtain ⟨a7, cap7, rfl, _, _, _⟩ := o7.form
        rw [HA0.out]
        replace h6 := h6.still c7
        clear o7 c7
        go_wp2_with fail
        refine (sdLocal (i := 2) h6 (by omega)).mono ?_; rintro e w8 ⟨v8, rfl, o8, c8⟩
        obtain ⟨a8, cap8, rfl, _, _, _⟩ := o8.form
        rw [HA2.out]
        replace h6 := h6.still c8
        clear o8 c8
        go_wp2_with fail
        refine (sdWhere 5000 h6 (by omega) (by rw [hT6.com]; simp)).mono ?_; rintro e w9 ⟨rfl, c9⟩
        rw [HW.out.1]
        skip
        replace h6 := h6.still c9
        clear c9
        go_wp2_with fail
        have hlt3 : totS st6 3 = totS st6 3 := rfl
        clear HW HA0 HA2 zH hkd hkh hH1 hlt3
        go_loopw [4, 19, 20, 21] (fun s4 s19 s20 s21 wr => ∃ (i : Nat) (D : List Nat) (st : SSt), s19 = .int .i64 i ∧ 1 ≤ i ∧ i ≤ H + 1 ∧ SD w wr D s 3 st ∧ Th st (rng (i : Int) (H + 1 - i)) (rng ((H + 1 : Nat) : Int) F) false) (fun _ s19 _ _ _ => H + 1 - (intOf s19).toNat)
        case atStart => exact ⟨1, _, st6, rfl, by omega, by omega, h6, hT6⟩
        case round =>
          clear h6 hT6
          obtain ⟨i, D, st, rfl, hi1, hiH, h7, hT7⟩ := hrel
          by_cases hlt : i < H + 1
          · have u1 : decide ((i : Int) < (H : Int) + 1) = true := decide_eq_true (by omega)
            have u2 : (i : Int) < (H : Int) + 1 := by omega
            have u3 : ((i : Int) != (i : Int)) = false := by simp
            rw [show H + 1 - i = (H + 1 - (i + 1)) + 1 by omega, rng_cons] at hT7
            obtain ⟨g1, g2, g3⟩ := hT7.own (vic := 1)
            have hc := hT7.com
            clear hT7
            go_wp2_with fail
            refine (sdPick (i := 0) 1 1 h7 (by omega) (by rw [hc]; simp)).mono ?_; rintro e wa ⟨rfl, Da, ha, -, -⟩
            rw [g1, g2]
            clear h7 g1 g2
            go_wp2_with fail
            go_roundw
            case rel => exact ⟨i + 1, Da, _, by go_num, by omega, by omega, ha, g3⟩
            case measure => simp [intOf]; omega
          · obtain rfl : i = H + 1 := by omega
            have u1 : decide (((H : Int) + 1) < (H : Int) + 1) = false := decide_eq_false (by omega)
            rw [Nat.sub_self] at hT7
            have hn := hT7.nobody (vic := 1) (.inr (.inl rfl))
            have hc := hT7.com
            clear hT7
            go_wp2_with fail
            refine (sdPick (i := 0) 1 1 h7 (by omega) (by rw [hc]; simp)).mono ?_; rintro e wa ⟨rfl, Da, ha, -, -⟩
            rw [hn.1, hn.2.1]
            have hTa := hn.2.2
            obtain ⟨sta, hsta⟩ : ∃ sta, pickS st 0 3 1 1 = sta := ⟨_, rfl⟩
            rw [hsta] at ha hTa
            clear h7 hn hsta
            go_wp2_with fail
            refine (schPickNil 0 1 0 wa).mono ?_; rintro e wb ⟨rfl, cb⟩
            replace ha := ha.still cb
            clear cb
            go_wp2_with fail
            refine (told27 wb).mono ?_; rintro e wc ⟨rfl, cc⟩
            replace ha := ha.still cc
            clear cc
            go_wp2_with fail
            refine (schLenNil wc).mono ?_; rintro e wd ⟨rfl, rfl⟩
            have htot : totS sta 3 = F := by rw [hTa.tot, rng_len]; simp
            have hca := hTa.com
            clear hTa
            go_wp2_with fail
            refine (sdLen ha (by omega) (by rw [hca]; simp)).mono ?_; rintro e we ⟨rfl, ce⟩
            rw [htot]
            have hend := (ha.still ce).ch.below (Nat.le_refl _) (by simp)
            clear ha ce
            have zz : (((F : Nat) : Int) == ((F : Nat) : Int)) = true := by simp
            go_wp2_with fail
            go_ret
            exact ⟨rfl, hend⟩
end Go.Proofs.Yteghenfdncgpeaa
