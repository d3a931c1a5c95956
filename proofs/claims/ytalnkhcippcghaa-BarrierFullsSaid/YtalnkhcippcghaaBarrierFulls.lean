/-
  The walk of the statement BarrierFulls: the law returns true at every input. Conditions: none.
-/
import Derived.Test.YtalnkhcippcghaaBarrierTold
import Derived.Test.YtalnkhcippcghaaRng
namespace Go.Proofs.Ytalnkhcippcghaa
open Go.RowKit
theorem tell_rng (a : Int) (h : 1 ≤ a) (n : Nat) : (rng a n).foldl tell [] = rng a n := by
  induction n with
  | zero => rfl
  | succ n ih =>
    rw [rng_succ, List.foldl_append, ih]
    show tell (rng a n) (a + n) = _
    unfold tell
    rw [if_neg (by rw [mem_rng]; omega)]
/-- What was told behind c times of telling. -/
def gots (c : Nat) : List Int := (List.range (32 * c)).map fun (x : Nat) => ((34 * (x / 32) + x % 32 + 1 : Nat) : Int)
theorem gots_len (c : Nat) : (gots c).length = 32 * c := by simp [gots]
theorem gots_get (c i : Nat) (h : i < 32 * c) : gI (gots c) i = ((34 * (i / 32) + i % 32 + 1 : Nat) : Int) := by simp [gI, gots, List.getD_eq_getElem?_getD, h]
theorem gots_succ (c : Nat) : gots (c + 1) = gots c ++ rng (2 * ((17 * c : Nat) : Int) + 1) 32 := by
  apply List.ext_getElem
  · simp [gots_len, rng_len]; omega
  · intro i h1 h2
    rw [gots_len] at h1
    have e1 : (gots (c + 1))[i]'(by rw [gots_len]; exact h1) = ((34 * (i / 32) + i % 32 + 1 : Nat) : Int) := by simp [gots]
    rw [e1]
    by_cases hi : i < 32 * c
    · rw [List.getElem_append_left (by rw [gots_len]; exact hi)]
      simp [gots]
    · rw [List.getElem_append_right (by rw [gots_len]; omega)]
      simp [rng, gots_len]
      omega
set_option maxRecDepth 100000 in
set_option maxHeartbeats 2000000 in
theorem fulls_walk (a0 : Int) (w : World) :
    Calls Try.prog 8 #[.int .i64 a0] w fun e w' => e = .returned (.bool true) ∧ Below w.heap.size w w' := by
  obtain ⟨j, hj, hjl⟩ := umod a0 60 (by decide) (by decide)
  go_enter Try.func8, Try.ntmps8
  go_wp2_with fail
  refine (barNew _).mono ?_; rintro e w1 ⟨rfl, h1, c1⟩
  obtain ⟨b, hb⟩ : ∃ b, w.heap.size = b := ⟨_, rfl⟩
  rw [hb] at h1 ⊢
  have HB := Lib.hid hb
  clear hb
  go_wp2_with fail
  rw [hj]
  obtain ⟨k, hk⟩ : ∃ k : Nat, k = j + 1 := ⟨_, rfl⟩
  have e1 : IntKind.i64.wrap (1 + (j : Int)) = (k : Int) := by rw [IntWalk.i64_in _ (by omega)]; omega
  try rw [show (1 : Int) + (j : Int) = (k : Int) by omega]
  have hk1 : k ≤ 60 := by omega
  clear hk hj e1 hjl
  have h1' : BarAt w1 b (0 % 17) (rng (2 * ((17 * (0 / 17) : Nat) : Int) + 1) (2 * (0 % 17))) := h1
  have hbw1 : b + 1 ≤ w1.heap.size := h1.lt
  go_loopw [5, 6] (fun s5 s6 wr => ∃ i : Nat, s6 = .int .i64 i ∧ i ≤ k ∧ BarAt wr b (i % 17) (rng (2 * ((17 * (i / 17) : Nat) : Int) + 1) (2 * (i % 17))) ∧ OwI wr (b + 1) s5 (gots (i / 17)) ∧ Ch [] w wr) (fun _ s6 _ => k - (intOf s6).toNat)
  case atStart => exact ⟨0, rfl, by omega, h1', OwI.nil _ _, c1⟩
  case round =>
    clear h1 h1' c1 hbw1
    obtain ⟨i, rfl, hi, hR, hO, hc⟩ := hrel
    have hbw : b + 1 ≤ wr.heap.size := hR.lt
    by_cases hlt : i < k
    · obtain ⟨m, hm⟩ : ∃ m : Nat, i % 17 = m := ⟨_, rfl⟩
      obtain ⟨c, hcc⟩ : ∃ c : Nat, i / 17 = c := ⟨_, rfl⟩
      rw [hm, hcc] at hR
      rw [hcc] at hO
      have im : (i : Int) % 17 = (m : Int) := by omega
      have HM := Lib.hid hm
      have HC := Lib.hid hcc
      by_cases hf : m < 16
      · have f1 : ((m : Int) == 16) = false := by rw [beq_eq_false_iff_ne]; omega
        have im2 : ((i : Int) + 1) % 17 = (m : Int) + 1 := by omega
        have hP := barPut b m _ (2 * (i : Int) + 1) (2 * (i : Int) + 2) wr hR hf (by omega)
        have hl : rng (2 * ((17 * c : Nat) : Int) + 1) (2 * m) ++ [2 * (i : Int) + 1, 2 * (i : Int) + 2] = rng (2 * ((17 * ((i + 1) / 17) : Nat) : Int) + 1) (2 * ((i + 1) % 17)) := by
          rw [show (i + 1) / 17 = c by omega, show (i + 1) % 17 = m + 1 by omega, show 2 * (m + 1) = 2 * m + 1 + 1 by omega, rng_succ, rng_succ, List.append_assoc]
          congr 1
          simp only [List.singleton_append, List.cons.injEq, and_true]
          omega
        rw [hl] at hP
        have HL : (i + 1) % 17 = m + 1 := by omega
        have HL2 : (i + 1) / 17 = c := by omega
        have HLa := Lib.hid HL
        have HLb := Lib.hid HL2
        have HP := Lib.hid hP
        clear hl hm hcc HL HL2 hP
        go_wp2_with fail
        refine HP.out.mono ?_; rintro e w2 ⟨rfl, h2, c2⟩
        have hlen := barLen b (m + 1) _ w2 (by rw [← HLa.out]; rw [← HLa.out] at h2; exact h2)
        have HLen := Lib.hid hlen
        clear hlen HP
        go_wp2_with fail
        refine HLen.out.mono ?_; rintro e w3 ⟨rfl, rfl⟩
        go_wp2_with fail
        go_roundw
        case rel => exact ⟨i + 1, by go_num, by omega, by rw [← HLa.out] at h2; exact h2, by rw [HLb.out]; exact hO.keepLt c2 (by intro q hq; simp at hq; omega), hc.transT c2 (by intro q hq; simp at hq; subst hq; exact .inr (by have := HB.out; omega))⟩
        case measure => simp [intOf]; omega
      · obtain rfl : m = 16 := by omega
        have hP := barPutFull b _ (2 * (i : Int) + 1) (2 * (i : Int) + 2) wr hR
        have hF := barFlush b 16 _ wr hR
        rw [tell_rng _ (by omega)] at hF
        have hg := gots_succ c
        rw [show 2 * 16 = 32 from rfl] at hF
        have hl : (rng (2 * ((17 * c : Nat) : Int) + 1) 32).length = 32 := rng_len _ _
        have e17 : (i + 1) % 17 = 0 ∧ (i + 1) / 17 = c + 1 := by omega
        have hgl : (gots c).length ≤ 1000 := by rw [gots_len]; omega
        obtain ⟨F, hFF⟩ : ∃ F, rng (2 * ((17 * c : Nat) : Int) + 1) 32 = F := ⟨_, rfl⟩
        rw [hFF] at hF hg hl
        have HG := Lib.hid hg
        have HE := Lib.hid e17
        have HFl := Lib.hid hl
        have HGL := Lib.hid hgl
        have HF := Lib.hid hF
        clear hF hg hl e17 hm hcc hgl hFF hf
        go_wp2_with fail
        refine hP.mono ?_; rintro e w2 ⟨rfl, rfl⟩
        go_wp2_with fail
        refine HF.out.mono ?_; rintro e w3 ⟨v3, rfl, o3, h3, c3⟩
        obtain ⟨x3, y3, rfl, _, _, _⟩ := o3.form
        rw [HFl.out] at o3 ⊢
        have hlen := barLen b 0 _ w3 h3
        clear hP HF
        go_wp2_with fail
        refine hlen.mono ?_; rintro e w4 ⟨rfl, rfl⟩
        have hO4 := hO.keepLt c3 (by intro q hq; simp at hq; omega)
        have hs3 := c3.size
        have src3 := o3.src
        go_wp2_with (at_builtin; refine wpList_app rfl (.tmp 49) (.tmp 50) rfl (b + 1) u5 (gots c) rfl hO4 (by omega) (.slice x3 32 y3) F rfl src3 (by have := HFl.out; have := HGL.out; omega) ?_)
        intro v' w5 hv' c5 _
        have hbv : ∀ q ∈ u5.ownBlock.toList, b + 1 ≤ q := fun q hq => hO.2 q (by simpa using hq)
        have h5 : BarAt w5 b 0 [] := h3.keep c5 (fun hq => by have := hbv b hq; omega)
        have hlen := barLen b 0 _ w5 h5
        have HBV := Lib.hid hbv
        have im3 : ((i : Int) + 1) % 17 = 0 := by have := HE.out; omega
        rw [← HG.out] at hv'
        clear hbv
        go_wp2_with fail
        refine hlen.mono ?_; rintro e w6 ⟨rfl, rfl⟩
        go_wp2_with fail
        go_roundw
        case rel => exact ⟨i + 1, by go_num, by omega, by rw [HE.out.1, HE.out.2]; exact h5, by rw [HE.out.2]; exact hv', (hc.transT c3 (by intro q hq; simp at hq; subst hq; exact .inr (by have := HB.out; omega))).transT c5 (by intro q hq; have := HBV.out q hq; exact .inr (by have := HB.out; omega))⟩
        case measure => simp [intOf]; omega
    · obtain rfl : i = k := by omega
      clear hlt hi hR
      obtain ⟨c, hcc⟩ : ∃ c : Nat, i / 17 = c := ⟨_, rfl⟩
      rw [hcc] at hO
      have hc3 : c ≤ 3 := by omega
      clear hcc
      obtain ⟨ag, cg, rfl, _, _, hrd⟩ := hO.form
      obtain ⟨G, hG⟩ : ∃ G, gots c = G := ⟨_, rfl⟩
      have hGl : G.length = 32 * c := by rw [← hG]; exact gots_len c
      have hget : ∀ x, x < 32 * c → gI G x = ((34 * (x / 32) + x % 32 + 1 : Nat) : Int) := by rw [← hG]; exact gots_get c
      obtain ⟨n, hn⟩ : ∃ n, 32 * c = n := ⟨_, rfl⟩
      rw [hG] at hrd
      rw [hn] at hGl hget
      rw [gots_len, hn]
      have hn100 : n ≤ 96 := by omega
      have HGl := Lib.hid hGl
      have HGet := Lib.hid hget
      clear hG hGl hget hn hO
      go_wp2_with fail
      go_loopw [10] (fun s10 wx => ∃ z : Nat, s10 = .int .i64 z ∧ 1 ≤ z ∧ ∃ nq, wx = wr.drewN nq) (fun s10 _ => n - (intOf s10).toNat)
      case atStart => exact ⟨1, rfl, by omega, 0, rfl⟩
      case round =>
        obtain ⟨z, rfl, hz, nq, rfl⟩ := hrel
        by_cases hlt : z < n
        · obtain ⟨y, hy⟩ : ∃ y : Nat, z = y + 1 := ⟨z - 1, by omega⟩
          have e2 : (z : Int) - 1 = (y : Int) := by omega
          have e3 : IntKind.i64.wrap ((z : Int) - 1) = (y : Int) := by rw [IntWalk.i64_in _ (by omega)]; omega
          obtain ⟨ba, oa, rfl, hcell⟩ := hrd.at (i := z) (by rw [HGl.out]; exact hlt)
          have d1 := hcell z (by rw [HGl.out]; exact hlt)
          have d2 := hcell y (by rw [HGl.out]; omega)
          rw [HGet.out z hlt] at d1
          rw [HGet.out y (by omega)] at d2
          have hord : ¬ ((34 * (z / 32) + z % 32 + 1 : Nat) : Int) ≤ ((34 * (y / 32) + y % 32 + 1 : Nat) : Int) := by omega
          have i1 : (0 : Int) ≤ (y : Int) := by omega
          have i2 : (y : Int) < (n : Int) := by omega
          have i3 : (z : Int) < (n : Int) := by omega
          have i4 : (0 : Int) ≤ (z : Int) := by omega
          generalize ((34 * (z / 32) + z % 32 + 1 : Nat) : Int) = U at d1 hord
          generalize ((34 * (y / 32) + y % 32 + 1 : Nat) : Int) = V at d2 hord
          clear hcell hy
          go_wp2_with fail
          go_quiet (fail)
          go_wp2_with fail
          go_roundw
          case rel => exact ⟨z + 1, by go_num, by omega, _, rfl⟩
          case measure => simp [intOf]; omega
        · go_wp2_with fail
          refine (told19 _).mono ?_; rintro e w6 ⟨rfl, c6⟩
          go_wp2_with fail
          refine (barFlushNil _).mono ?_; rintro e w7 ⟨rfl, rfl⟩
          go_wp2_with fail
          refine (barLenNil _).mono ?_; rintro e w8 ⟨rfl, rfl⟩
          go_wp2_with fail
          refine (barFlushNil _).mono ?_; rintro e w9 ⟨rfl, rfl⟩
          go_wp2_with fail
          refine (ints_same none none [] 0 0 _ (.inl rfl) (.inl rfl) (by decide)).mono ?_; rintro e w10 ⟨rfl, nq2, rfl⟩
          go_wp2
          go_ret
          exact ⟨rfl, (((hc.drewN nq).trans c6).drewN nq2).below (Nat.le_refl _) (by simp)⟩
end Go.Proofs.Ytalnkhcippcghaa
