/-
  The walk of the statement SchedCommon: the law returns true at every input. Conditions: none.
-/
import Derived.Test.YteghenfdncgpeaaSchMath
import Derived.Test.YteghenfdncgpeaaRng
namespace Go.Proofs.Yteghenfdncgpeaa
open Go.RowKit
/-- One P whose row is r, nobody next; l in common. -/
structure OneP (st : SSt) (r l : List Int) : Prop where
  row : st.row 0 = r
  hs : st.hs 0 = false
  com : st.com = l
theorem OneP.ready {st : SSt} {r l : List Int} (h : OneP st r l) (g : Int) (hl : r.length < 256) : OneP (readyS st 0 g false) (r ++ [g]) l := by
  obtain ⟨a, b, c, d⟩ := ready_at (st := st) (p := 0) (g := g) (nb := false)
  rw [h.hs, h.row] at c d
  obtain ⟨e1, e2⟩ := putX_room (nx := st.nx 0) (g := g) hl
  exact ⟨by rw [c, e1], by rw [b, h.hs]; rfl, by rw [d, e2, h.com, List.append_nil]⟩
theorem OneP.own {st : SSt} {g : Int} {t l : List Int} (h : OneP st (g :: t) l) {tick vic : Int} (hf : fairB st tick = false) : pickV st 0 1 tick vic = g ∧ pickB st 0 1 tick vic = true ∧ OneP (pickS st 0 1 tick vic) t l := by
  obtain ⟨a, b, c⟩ := pick_own (p := 0) (n := 1) (vic := vic) hf (by rw [h.hs, h.row]; rfl)
  obtain ⟨_, d2, d3, d4⟩ := getSt_at (st := st) (p := 0)
  refine ⟨by rw [a, h.hs, h.row]; rfl, b, ?_⟩
  rw [c]
  exact ⟨by rw [d3, h.hs, h.row]; rfl, d2, by rw [d4]; exact h.com⟩
theorem OneP.fair {st : SSt} {r : List Int} {g : Int} (h : OneP st r [g]) {tick : Nat} {vic : Int} (h1 : 0 < tick) (h2 : tick % 61 = 0) : pickV st 0 1 tick vic = g ∧ pickB st 0 1 tick vic = true := by
  obtain ⟨a, b, _⟩ := pick_fair (st := st) (p := 0) (n := 1) (vic := vic) (tick := (tick : Int)) (decide_eq_true ⟨by omega, by
    rw [Int.tmod_eq_emod_of_nonneg (by omega)]; omega, by rw [h.com]; simp⟩)
  exact ⟨by rw [a, h.com]; rfl, b⟩
theorem OneP.unfair {st : SSt} {r l : List Int} (_ : OneP st r l) {tick : Nat} (h2 : tick % 61 ≠ 0) : fairB st (tick : Int) = false := fair_false (by
  rw [Int.tmod_eq_emod_of_nonneg (by omega)]; omega)
set_option maxRecDepth 100000 in
set_option maxHeartbeats 2000000 in
theorem common_walk (a0 a1 : Int) (w : World) :
    Calls Try.prog 12 #[.int .i64 a0, .int .i64 a1] w fun e w' => e = .returned (.bool true) ∧ Below w.heap.size w w' := by
  obtain ⟨q, hq, hql⟩ := umod a1 100 (by decide) (by decide)
  obtain ⟨u, hu, hul⟩ := umod a0 10000 (by decide) (by decide)
  obtain ⟨k, hk⟩ : ∃ k, q + 1 = k := ⟨_, rfl⟩
  obtain ⟨t, ht⟩ : ∃ t, u + 1 = t := ⟨_, rfl⟩
  have hk1 : (1 : Int) + (q : Int) = (k : Int) := by omega
  have ht1 : (1 : Int) + (u : Int) = (t : Int) := by omega
  have hkw : wrap64 ((1 : Int) + (q : Int)) = (k : Int) := by rw [hk1]; exact IntWalk.wrap64_in _ (by omega)
  have htw : wrap64 ((1 : Int) + (u : Int)) = (t : Int) := by rw [ht1]; exact IntWalk.wrap64_in _ (by omega)
  have hk100 : k ≤ 100 := by omega
  have hk0 : 1 ≤ k := by omega
  have ht0 : 1 ≤ t := by omega
  have ht2 : t ≤ 10000 := by omega
  have HQ := Lib.hid hq
  have HU := Lib.hid hu
  have HKW := Lib.hid hkw
  have HTW := Lib.hid htw
  have HK1 := Lib.hid hk1
  have HT1 := Lib.hid ht1
  clear hq hu hk ht hk1 ht1 hkw htw hql hul
  go_enter Try.func12, Try.ntmps12
  go_wp2_with fail
  refine (sdNew w 1 (by omega) (by omega)).mono ?_; rintro e w1 hn
  obtain ⟨s, D, rfl, h0⟩ := hn
  go_wp2_with fail
  rw [HQ.out]
  first
  | rw [HKW.out]
  | rw [HK1.out]
  go_loopw [8] (fun s8 wr => ∃ (i : Nat) (D : List Nat) (st : SSt), s8 = .int .i64 i ∧ i ≤ k ∧ SD w wr D s 1 st ∧ OneP st (rng 0 i) []) (fun s8 _ => k - (intOf s8).toNat)
  case atStart => exact ⟨0, D, _, rfl, by omega, h0, rfl, rfl, rfl⟩
  case round =>
    clear h0
    obtain ⟨i, D, st, rfl, hik, h1, hO⟩ := hrel
    have hcom := hO.com
    by_cases hlt : i < k
    · have t1 : decide ((i : Int) < k) = true := decide_eq_true (by omega)
      have hO2 := hO.ready (i : Int) (by rw [rng_len]; omega)
      rw [← rng_zero] at hO2
      have HC := Lib.hid (show st.com.length ≤ 80000 by rw [hcom]; simp)
      clear hO hcom
      go_wp2_with fail
      refine (sdReady (i := 0) (i : Int) false h1 (by omega) HC.out).mono ?_; rintro e w2 ⟨rfl, D2, h2, -, -⟩
      clear h1
      go_wp2_with fail
      go_roundw
      case rel => exact ⟨i + 1, D2, _, by go_num, by omega, h2, hO2⟩
      case measure => simp [intOf]; omega
    · obtain rfl : i = k := by omega
      have t1 : decide ((i : Int) < i) = false := decide_eq_false (by omega)
      have hO2 : OneP (st.setCom (st.com ++ [9999])) (rng 0 i) [9999] := ⟨hO.row, hO.hs, by rw [hcom]; rfl⟩
      have HC := Lib.hid (show st.com.length ≤ 80000 by rw [hcom]; simp)
      have hr0 : rng 0 i ≠ [] := by intro e; have := congrArg List.length e; rw [rng_len] at this; simp at this; omega
      have hr1 : (rng 0 i).length ≤ 100 := by rw [rng_len]; omega
      have hr2 : ∀ y ∈ rng 0 i, y ≠ 9999 := fun y hy => by rw [mem_rng] at hy; omega
      obtain ⟨r, hr⟩ : ∃ r, rng 0 i = r := ⟨_, rfl⟩
      rw [hr] at hO2 hr0 hr1 hr2
      clear hO hcom hr
      go_wp2_with fail
      refine (sdGlobal 9999 h1 HC.out).mono ?_; rintro e w2 ⟨rfl, D2, h2, -, -⟩
      obtain ⟨st2, hst2⟩ : ∃ st2, st.setCom (st.com ++ [9999]) = st2 := ⟨_, rfl⟩
      rw [hst2] at h2 hO2
      clear h1 hst2
      go_wp2_with fail
      rw [HU.out]
      first
      | rw [HTW.out]
      | rw [HT1.out]
      go_loopw [10, 11, 12] (fun s10 s11 s12 wr => ∃ (j : Nat) (D : List Nat) (st : SSt) (r : List Int), s10 = .int .i64 j ∧ j ≤ 61 ∧ SD w wr D s 1 st ∧ OneP st r [9999] ∧ r ≠ [] ∧ r.length ≤ 100 ∧ (∀ y ∈ r, y ≠ 9999) ∧ ∀ a, a < j → (t + a) % 61 ≠ 0) (fun s10 _ _ _ => 61 - (intOf s10).toNat)
      case atStart => exact ⟨0, D2, st2, r, rfl, by omega, h2, hO2, hr0, hr1, hr2, fun a ha => by omega⟩
      case round =>
        clear h2 hO2 hr0 hr1 hr2
        obtain ⟨j, D, st, r, rfl, hj, h3, hO, hr0, hr1, hr2, hno⟩ := hrel
        have hj61 : j < 61 := by
          rcases Nat.lt_or_ge j 61 with e | e
          · exact e
          · exfalso
            have := hno ((61 - t % 61) % 61) (by omega)
            omega
        have t2 : decide ((j : Int) < 61) = true := decide_eq_true (by omega)
        have HC := Lib.hid (show st.com.length ≤ 80000 by rw [hO.com]; simp)
        obtain ⟨tj, htj⟩ : ∃ tj, t + j = tj := ⟨_, rfl⟩
        have etj : (t : Int) + (j : Int) = (tj : Int) := by omega
        have ewj : wrap64 ((t : Int) + (j : Int)) = (tj : Int) := by rw [etj]; exact IntWalk.wrap64_in _ (by omega)
        have ETJ := Lib.hid etj
        have EWJ := Lib.hid ewj
        have HTJ := Lib.hid htj
        clear etj ewj htj
        by_cases hm : tj % 61 = 0
        · obtain ⟨g1, g2⟩ := hO.fair (vic := 0) (tick := tj) (by have := HTJ.out; omega) hm
          have G1 := Lib.hid g1
          have G2 := Lib.hid g2
          have hm2 : (tj : Int) % 61 = 0 := by omega
          clear g1 g2 hno hO
          go_wp2_with fail
          first
          | rw [EWJ.out]
          | rw [ETJ.out]
          refine (sdPick (i := 0) (tj : Int) 0 h3 (by omega) HC.out).mono ?_; rintro e w3 ⟨rfl, D3, h4, -, -⟩
          rw [G1.out, G2.out]
          clear h3
          go_wp2_with fail
          refine (told27 w3).mono ?_; rintro e w4 ⟨rfl, c4⟩
          have hend := (h4.still c4).ch.below (Nat.le_refl _) (by simp)
          have hm3 : ((t : Int) + (j : Int)) % 61 = 0 := by rw [ETJ.out]; exact hm2
          have hj3 : (j : Int) < 61 := by omega
          clear h4 c4
          go_wp2_with fail
          go_ret
          exact ⟨rfl, hend⟩
        · obtain ⟨g, tl, hg⟩ := List.exists_cons_of_ne_nil hr0
          subst hg
          obtain ⟨g1, g2, hO3⟩ := hO.own (tick := (tj : Int)) (vic := 0) (hO.unfair hm)
          have gne : g ≠ 9999 := hr2 g (by simp)
          have gb : (g == 9999) = false := by rw [beq_eq_false_iff_ne]; exact gne
          have hr1' : tl.length + 1 ≤ 100 := by simpa using hr1
          have hO4 := hO3.ready g (by omega)
          have hno2 : ∀ a, a < j + 1 → (t + a) % 61 ≠ 0 := fun a ha => by
            by_cases e : a = j
            · subst e; rw [HTJ.out]; exact hm
            · exact hno a (by omega)
          have HC3 := Lib.hid (show (pickS st 0 1 (tj : Int) 0).com.length ≤ 80000 by rw [hO3.com]; simp)
          have hr3 : ∀ y ∈ tl ++ [g], y ≠ 9999 := fun y hy => by
            rcases List.mem_append.1 hy with e | e
            · exact hr2 y (by simp [e])
            · simp at e; rw [e]; exact gne
          have hr4 : (tl ++ [g]).length ≤ 100 := by rw [List.length_append]; exact hr1'
          have G1 := Lib.hid g1
          have G2 := Lib.hid g2
          have HN2 := Lib.hid hno2
          have GN := Lib.hid gne
          clear g1 g2 hno hO hO3 hr0 hr1 hr2 hno2 hr1' gne
          go_wp2_with fail
          first
          | rw [EWJ.out]
          | rw [ETJ.out]
          refine (sdPick (i := 0) (tj : Int) 0 h3 (by omega) HC.out).mono ?_; rintro e w3 ⟨rfl, D3, h4, -, -⟩
          rw [G1.out, G2.out]
          clear h3
          go_wp2_with fail
          refine (sdReady (i := 0) g false h4 (by omega) HC3.out).mono ?_; rintro e w4 ⟨rfl, D4, h5, -, -⟩
          clear h4
          go_wp2_with fail
          go_roundw
          case rel => exact ⟨j + 1, D4, _, _, by go_num, by omega, h5, hO4, by simp, hr4, hr3, HN2.out⟩
          case measure => simp [intOf]; omega
end Go.Proofs.Yteghenfdncgpeaa
