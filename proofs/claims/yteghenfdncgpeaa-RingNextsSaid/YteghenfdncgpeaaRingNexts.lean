/-
  The walk of the statement RingNexts: the law returns true at every input. Conditions: none.
-/
import Derived.Test.YteghenfdncgpeaaRingTold
import Derived.Deep.LoopGhost
namespace Go.Proofs.Yteghenfdncgpeaa
open Go.RowKit
/-- c, c + 1, ..: n numbers. -/
def rng (c : Int) (n : Nat) : List Int := (List.range n).map fun (i : Nat) => c + (i : Int)
theorem rng_len (c : Int) (n : Nat) : (rng c n).length = n := by simp [rng]
theorem rng_succ (c : Int) (n : Nat) : rng c (n + 1) = rng c n ++ [c + (n : Int)] := by simp [rng, List.range_succ]
theorem rng_zero (n : Nat) : rng 0 (n + 1) = rng 0 n ++ [(n : Int)] := by rw [rng_succ, Int.zero_add]
set_option maxRecDepth 100000 in
set_option maxHeartbeats 2000000 in
theorem nexts_walk (a0 a1 : Int) (w : World) :
    Calls Try.prog 4 #[.int .i64 a0, .int .i64 a1] w fun e w' => e = .returned (.bool true) ∧ Below w.heap.size w w' := by
  obtain ⟨j, hj, hjl⟩ := umod a0 100 (by decide) (by decide)
  obtain ⟨a, ha, hal⟩ := umod a1 101 (by decide) (by decide)
  go_enter Try.func4, Try.ntmps4
  go_wp2_with fail
  refine (ringNew _).mono ?_; rintro e w1 ⟨rfl, hr1, c1⟩
  obtain ⟨b, hb⟩ : ∃ b, w.heap.size = b := ⟨_, rfl⟩
  rw [hb] at hr1 ⊢
  have HB := Lib.hid hb
  clear hb
  go_wp2_with fail
  rw [hj, ha]
  obtain ⟨k, hk⟩ : ∃ k : Nat, k = j + 1 := ⟨_, rfl⟩
  have e1 : IntKind.i64.wrap (1 + (j : Int)) = (k : Int) := by rw [IntWalk.i64_in _ (by omega)]; omega
  try rw [show (1 : Int) + (j : Int) = (k : Int) by omega]
  have hK := Lib.hid hk
  have hk1 : k ≤ 100 := by omega
  have hk2 : 1 ≤ k := by omega
  clear hk hj ha e1
  go_loopw [8] (fun s8 wr => ∃ i : Nat, s8 = .int .i64 i ∧ i ≤ a ∧ RingAt wr b 0 false (rng 1000 i) ∧ Ch [] w wr) (fun s8 _ => a - (intOf s8).toNat)
  case atStart => exact ⟨0, rfl, by omega, hr1, c1⟩
  case round =>
    clear hr1 c1
    obtain ⟨i, rfl, hi, hR, hc⟩ := hrel
    by_cases hlt : i < a
    · have hP := ringPutIn b 0 false (rng 1000 i) (1000 + (i : Int)) wr hR (by rw [rng_len]; omega)
      go_wp2_with fail
      refine hP.mono ?_; rintro e w2 ⟨v2, p2, rfl, h2, c2⟩
      go_wp2
      go_roundw
      case rel => exact ⟨i + 1, by go_num, by omega, by rw [rng_succ]; exact h2, hc.transT c2 (by intro q hq; simp at hq; subst hq; exact .inr (by have := HB.out; omega))⟩
      case measure => simp [intOf]; omega
    · obtain rfl : i = a := by omega
      clear hlt hi
      go_wp2_with fail
      go_loopw [9] (fun s9 wr => ∃ m : Nat, s9 = .int .i64 m ∧ m ≤ k ∧ ((m = 0 ∧ RingAt wr b 0 false (rng 1000 i)) ∨ ∃ t : Nat, m = t + 1 ∧ RingAt wr b t true (rng 1000 i ++ rng 0 t)) ∧ Ch [] w wr) (fun s9 _ => k - (intOf s9).toNat)
      case atStart => exact ⟨0, rfl, by omega, .inl ⟨rfl, hR⟩, hc⟩
      case round =>
        clear hR hc
        obtain ⟨m, rfl, hm, hR, hc⟩ := hrel
        by_cases hlt : m < k
        · rcases hR with ⟨rfl, hR⟩ | ⟨t, rfl, hR⟩
          · go_wp2_with fail
            refine (ringPutNew b 0 (rng 1000 i) 0 _ hR).mono ?_; rintro e w2 ⟨rfl, h2, c2⟩
            go_wp2
            go_roundw
            case rel => exact ⟨1, rfl, by omega, .inr ⟨0, rfl, by simpa [rng] using h2⟩, hc.transT c2 (by intro q hq; simp at hq; subst hq; exact .inr (by have := HB.out; omega))⟩
            case measure => simp [intOf]; omega
          · have hP := ringPutNextIn b t (rng 1000 i ++ rng 0 t) ((t + 1 : Nat) : Int) wr hR (by rw [List.length_append, rng_len, rng_len]; omega)
            go_wp2_with fail
            refine hP.mono ?_; rintro e w2 ⟨v2, p2, rfl, h2, c2⟩
            go_wp2
            go_roundw
            case rel => exact ⟨t + 2, by go_num, by omega, .inr ⟨t + 1, rfl, by rw [rng_zero, ← List.append_assoc]; exact h2⟩, hc.transT c2 (by intro q hq; simp at hq; subst hq; exact .inr (by have := HB.out; omega))⟩
            case measure => simp [intOf]; omega
        · obtain rfl : m = k := by omega
          obtain ⟨t, hmt, hR⟩ : ∃ t : Nat, m = t + 1 ∧ RingAt wr b t true (rng 1000 i ++ rng 0 t) := by
            rcases hR with ⟨h0, _⟩ | h
            · omega
            · exact h
          clear hm hlt
          have e2 : (m : Int) - 1 = (t : Int) := by omega
          have e3 : IntKind.i64.wrap ((m : Int) - 1) = (t : Int) := by rw [IntWalk.i64_in _ (by omega)]; omega
          have hL : RingL wr b ((t : Int) :: (rng 1000 i ++ rng 0 t)) := ⟨t, true, _, hR, rfl⟩
          have hbw : b < wr.heap.size := hL.lt
          have ht1 : t < 100 := by omega
          have HMT := Lib.hid hmt
          clear hR hmt
          go_wp2_with fail
          clear hR
          have hL2 : RingL (wr.alloc (.cells #[.int .i64 (t : Int)] 3)) b ((t : Int) :: (rng 1000 i ++ rng 0 t)) := hL.keep ((Ch.refl [] wr).alloc _) (by simp)
          have hO2 : OwI (wr.alloc (.cells #[.int .i64 (t : Int)] 3)) (b + 1) (.slice (some ⟨wr.heap.size, 0, none⟩) 1 1) ((t : Int) :: rng 1000 0) := OwI.lit wr (b + 1) [(t : Int)] (by omega) (by simp)
          have hC2 : Ch [] w (wr.alloc (.cells #[.int .i64 (t : Int)] 3)) := hc.alloc _
          go_loopw [10, 11] (fun s10 s11 wr => ∃ d : Nat, s11 = .int .i64 d ∧ d ≤ i ∧ OwI wr (b + 1) s10 ((t : Int) :: rng 1000 d) ∧ RingL wr b ((t : Int) :: (rng 1000 i ++ rng 0 t)) ∧ Ch [] w wr) (fun _ s11 _ => i - (intOf s11).toNat)
          case atStart => exact ⟨0, rfl, by omega, hO2, hL2, hC2⟩
          case round =>
            clear hL2 hO2 hC2 hL hc hbw
            obtain ⟨d, rfl, hd, hO, hL, hc⟩ := hrel
            have hbw : b < wr.heap.size := hL.lt
            by_cases hlt : d < i
            · have hO1 := hO.alloc (.cells #[.int .i64 (1000 + (d : Int))] 3)
              go_wp2_with (at_builtin; refine wpList_app rfl (.tmp 57) (.tmp 60) rfl (b + 1) u10 ((t : Int) :: rng 1000 d) rfl hO1 (by simp; omega) _ [1000 + (d : Int)] rfl (srcOne _ _) (by simp [rng_len]; omega) ?_)
              intro v' w2 hv' c2 _
              have hv2 : OwI w2 (b + 1) v' ((t : Int) :: rng 1000 (d + 1)) := by rw [rng_succ]; exact hv'
              have hbv : ∀ q ∈ u10.ownBlock.toList, b + 1 ≤ q := fun q hq => hO.2 q (by simpa using hq)
              have HBV := Lib.hid hbv
              clear hv' hbv
              go_wp2
              go_roundw
              case rel =>
                exact ⟨d + 1, by go_num, by omega, hv2, (hL.keep ((Ch.refl [] wr).alloc _) (by simp)).keep c2 (fun hq => by have := HBV.out b hq; omega), (hc.alloc _).transT c2 (by intro q hq; have := HBV.out q hq; have := HB.out; exact .inr (by omega))⟩
              case measure => simp [intOf]; omega
            · obtain rfl : d = i := by omega
              clear hlt hd
              have hO' : OwI wr (b + 1) u10 ((t : Int) :: (rng 1000 d ++ rng 0 0)) := by simpa [rng] using hO
              clear hO
              go_wp2_with fail
              go_loopw [10, 12] (fun s10 s12 wr => ∃ x : Nat, s12 = .int .i64 x ∧ x ≤ t ∧ OwI wr (b + 1) s10 ((t : Int) :: (rng 1000 d ++ rng 0 x)) ∧ RingL wr b ((t : Int) :: (rng 1000 d ++ rng 0 t)) ∧ Ch [] w wr) (fun _ s12 _ => t - (intOf s12).toNat)
              case atStart => exact ⟨0, rfl, by omega, hO', hL, hc⟩
              case round =>
                clear hO' hL hc hbw
                obtain ⟨x, rfl, hx, hO, hL, hc⟩ := hrel
                have hbw : b < wr.heap.size := hL.lt
                by_cases hlt : x < t
                · have hO1 := hO.alloc (.cells #[.int .i64 (x : Int)] 3)
                  go_wp2_with (at_builtin; refine wpList_app rfl (.tmp 68) (.tmp 70) rfl (b + 1) u10 ((t : Int) :: (rng 1000 d ++ rng 0 x)) rfl hO1 (by simp; omega) _ [(x : Int)] rfl (srcOne _ _) (by simp [rng_len]; omega) ?_)
                  intro v' w2 hv' c2 _
                  have hv2 : OwI w2 (b + 1) v' ((t : Int) :: (rng 1000 d ++ rng 0 (x + 1))) := by rw [rng_zero]; simpa using hv'
                  have hbv : ∀ q ∈ u10.ownBlock.toList, b + 1 ≤ q := fun q hq => hO.2 q (by simpa using hq)
                  have HBV := Lib.hid hbv
                  clear hv' hbv
                  go_wp2
                  go_roundw
                  case rel =>
                    exact ⟨x + 1, by go_num, by omega, hv2, (hL.keep ((Ch.refl [] wr).alloc _) (by simp)).keep c2 (fun hq => by have := HBV.out b hq; omega), (hc.alloc _).transT c2 (by intro q hq; have := HBV.out q hq; have := HB.out; exact .inr (by omega))⟩
                  case measure => simp [intOf]; omega
                · obtain rfl : x = t := by omega
                  clear hlt hx
                  obtain ⟨L, hLL⟩ : ∃ L, (x : Int) :: (rng 1000 d ++ rng 0 x) = L := ⟨_, rfl⟩
                  rw [hLL] at hO hL
                  have hLn : L.length ≤ 300 := by rw [← hLL]; simp [rng_len]; omega
                  clear hLL
                  obtain ⟨n, hn⟩ : ∃ n, L.length = n := ⟨_, rfl⟩
                  obtain ⟨ga, gc, rfl, hnc, _, hrd⟩ := hO.form
                  rw [hn] at hLn hnc hO ⊢
                  have HN := Lib.hid hn
                  clear hn hnc
                  go_wp2_with fail
                  refine (ringAllL b L _ hL).mono ?_; rintro e w2 ⟨v2, rfl, o2, c2⟩
                  obtain ⟨xa, xc, rfl, _, _, r2⟩ := o2.form
                  have hI := ints_same xa ga L xc gc w2 r2 (hrd.keep c2 (by simp)) (by rw [HN.out]; unfold maxLen; omega)
                  rw [HN.out] at hI ⊢
                  clear r2 o2
                  go_wp2_with fail
                  refine hI.mono ?_; rintro e w3 ⟨rfl, nq, rfl⟩
                  clear hI
                  have hL3 : RingL (w2.drewN nq) b L := hL.keep (c2.drewN nq) (by simp)
                  have hlen := ringLenL b L _ hL3
                  rw [HN.out] at hlen
                  go_wp2_with fail
                  refine hlen.mono ?_; rintro e w4 ⟨rfl, c4⟩
                  clear hlen
                  have c24 : Ch [] wr w4 := (c2.drewN nq).trans c4
                  have hL4 : RingL w4 b (L.drop 0) := hL.keep c24 (by simp)
                  have hO4 := hO.keep c24 (by simp)
                  have hC4 := hc.trans c24
                  go_wp2_with fail
                  go_loopw [13] (fun s13 wr => ∃ z : Nat, s13 = .int .i64 z ∧ z ≤ n ∧ OwI wr (b + 1) (.slice ga n gc) L ∧ RingL wr b (L.drop z) ∧ Ch [] w wr) (fun s13 _ => n - (intOf s13).toNat)
                  case atStart => exact ⟨0, rfl, by omega, hO4, hL4, hC4⟩
                  case round =>
                    clear hO4 hL4 hC4 hL3 c2 c4 c24 hc hL hO hrd hbw e2 e3
                    obtain ⟨z, rfl, hz, hO, hL, hc⟩ := hrel
                    by_cases hlt : z < n
                    · obtain ⟨ga', gc', hge, _, _, hrd⟩ := hO.form
                      simp only [Value.slice.injEq] at hge
                      obtain ⟨rfl, hge, rfl⟩ := hge
                      have hzl : z < L.length := by rw [HN.out]; exact hlt
                      have hd : L.drop z = gI L z :: L.drop (z + 1) := by rw [gI_at L z hzl]; exact List.drop_eq_getElem_cons _
                      rw [hd] at hL
                      obtain ⟨u, hu⟩ : ∃ u, gI L z = u := ⟨_, rfl⟩
                      rw [hu] at hL
                      have HU := Lib.hid hu
                      clear hd hu hge
                      go_wp2_with fail
                      refine (ringGetL b u (L.drop (z + 1)) _ hL).mono ?_; rintro e w5 ⟨rfl, hL5, c5⟩
                      have hO5 := hO.keepLt c5 (by intro q hq; simp at hq; omega)
                      have hrd5 := hrd.keep c5 (by
                        intro q hq hqb
                        simp at hqb
                        have := hO.2 q.block (by rw [hq]; rfl)
                        omega)
                      obtain ⟨ba, oa, rfl, hcell⟩ := hrd5.at hzl
                      have d1 := hcell z hzl
                      rw [HU.out] at d1
                      have hc5 : Ch [] w w5 := hc.transT c5 (by intro q hq; simp at hq; subst hq; exact .inr (by have := HB.out; omega))
                      clear hcell hrd5 hrd hzl
                      go_wp2_with fail
                      go_roundw
                      case rel => exact ⟨z + 1, by go_num, by omega, hO5, hL5, hc5⟩
                      case measure => simp [intOf]; omega
                    · obtain rfl : z = n := by omega
                      clear hlt
                      rw [List.drop_eq_nil_of_le (by rw [HN.out]; omega)] at hL
                      go_wp2_with fail
                      refine (ringGetL0 b _ hL).mono ?_; rintro e w5 ⟨rfl, rfl⟩
                      go_wp2_with fail
                      refine (told10 _).mono ?_; rintro e w6 ⟨rfl, c6⟩
                      go_wp2
                      go_ret
                      exact ⟨rfl, (hc.trans c6).below (Nat.le_refl _) (by simp)⟩
end Go.Proofs.Yteghenfdncgpeaa
