/-
  The walk of the statement RingDels: the law returns true at every input. Conditions: none.
-/
import Derived.Test.YteghenfdncgpeaaRingTold
import Derived.Test.YteghenfdncgpeaaRing3
import Derived.Deep.LoopGhost
namespace Go.Proofs.Yteghenfdncgpeaa
open Go.RowKit
theorem ringDelL (b : Nat) (L : List Int) (x : Int) (w : World) (h : RingL w b L) :
    Calls Try.prog 24 #[.pointer (some ⟨b, 0, none⟩), .int .i64 x] w fun e w' => e = .returned (.bool (L.contains x)) ∧ RingL w' b (L.erase x) ∧ Ch [b] w w' := by
  obtain ⟨nx, hs, xs, h1, rfl⟩ := h
  by_cases hn : hs = true ∧ nx = x
  · obtain ⟨rfl, rfl⟩ := hn
    refine (ringDelNext b nx xs w h1).mono ?_
    rintro e w' ⟨rfl, h2, h3⟩
    exact ⟨by simp [ringList], ⟨nx, false, xs, h2, by simp [ringList]⟩, h3⟩
  · have hne : hs = true → nx ≠ x := fun a e => hn ⟨a, e⟩
    have hcons : (ringList nx hs xs).contains x = xs.contains x := by
      cases hs with
      | false => rfl
      | true =>
        have : (x == nx) = false := by rw [beq_eq_false_iff_ne]; exact fun e => hne rfl e.symm
        simp only [ringList, if_true, List.contains_cons, this, Bool.false_or]
    have her : (ringList nx hs xs).erase x = ringList nx hs (xs.erase x) := by
      cases hs with
      | false => rfl
      | true =>
        have : (nx == x) = false := by rw [beq_eq_false_iff_ne]; exact hne rfl
        simp only [ringList, if_true, List.erase_cons, this, Bool.false_eq_true, if_false]
    rw [hcons, her]
    rcases split_first xs x with hx | ⟨p, q, rfl, hx⟩
    · refine (ringDelNone b nx hs xs x w h1 hne hx).mono ?_
      rintro e w' ⟨rfl, nq, rfl⟩
      exact ⟨by rw [show xs.contains x = false by simpa using hx], ⟨nx, hs, xs, h1.keep ((Ch.refl [] w).drewN nq) (by simp), by rw [List.erase_of_not_mem hx]⟩, (Ch.refl _ _).drewN nq⟩
    · refine (ringDelRow b nx hs p q x w h1 hne hx).mono ?_
      rintro e w' ⟨rfl, h2, h3⟩
      refine ⟨by rw [show (p ++ x :: q).contains x = true by simp], ⟨nx, hs, p ++ q, h2, ?_⟩, h3⟩
      rw [List.erase_append_right _ hx]
      simp
theorem mem_rng (c : Int) (n : Nat) (x : Int) : x ∈ rng c n ↔ c ≤ x ∧ x < c + n := by
  simp only [rng, List.mem_map, List.mem_range]
  constructor
  · rintro ⟨a, ha, rfl⟩; omega
  · intro h; exact ⟨(x - c).toNat, by omega, by omega⟩
theorem rng_split (c : Int) (n m : Nat) : rng c (n + m) = rng c n ++ rng (c + n) m := by
  induction m with
  | zero => simp [rng]
  | succ m ih => rw [← Nat.add_assoc, rng_succ, ih, rng_succ, List.append_assoc]; congr 3; omega
theorem rng_cons (c : Int) (n : Nat) : rng c (n + 1) = c :: rng (c + 1) n := by
  rw [Nat.add_comm, rng_split]
  simp [rng]
/-- One number of a run goes. -/
theorem rng_erase (x k : Nat) (h : x ≤ k) : (rng 0 (k + 1)).erase (x : Int) = rng 0 x ++ rng ((x : Int) + 1) (k - x) := by
  rw [show k + 1 = x + (k - x + 1) by omega, rng_split, rng_cons, List.erase_append_right _ (by rw [mem_rng]; omega)]
  simp
set_option maxRecDepth 100000 in
set_option maxHeartbeats 2000000 in
theorem rdels_walk (a0 a1 : Int) (w : World) :
    Calls Try.prog 6 #[.int .i64 a0, .int .i64 a1] w fun e w' => e = .returned (.bool true) ∧ Below w.heap.size w w' := by
  obtain ⟨j, hj, hjl⟩ := umod a0 200 (by decide) (by decide)
  go_enter Try.func6, Try.ntmps6
  go_wp2_with fail
  refine (ringNew _).mono ?_; rintro e w1 ⟨rfl, hr1, c1⟩
  obtain ⟨b, hb⟩ : ∃ b, w.heap.size = b := ⟨_, rfl⟩
  rw [hb] at hr1 ⊢
  have HB := Lib.hid hb
  clear hb
  go_wp2_with fail
  rw [hj]
  obtain ⟨k, hk⟩ : ∃ k : Nat, k = j + 1 := ⟨_, rfl⟩
  obtain ⟨x, hx, hxl⟩ := umod a1 ((k : Int) + 1) (by omega) (by omega)
  have e1 : IntKind.i64.wrap (1 + (j : Int)) = (k : Int) := by rw [IntWalk.i64_in _ (by omega)]; omega
  try rw [show (1 : Int) + (j : Int) = (k : Int) by omega]
  have hk1 : k ≤ 200 := by omega
  have hk2 : 1 ≤ k := by omega
  have HX := Lib.hid hx
  have HXL := Lib.hid hxl
  clear hk hj e1 hjl hx hxl
  go_loopw [7] (fun s7 wr => ∃ i : Nat, s7 = .int .i64 i ∧ 1 ≤ i ∧ i ≤ k + 1 ∧ RingAt wr b 0 false (rng 1 (i - 1)) ∧ Ch [] w wr) (fun s7 _ => k + 1 - (intOf s7).toNat)
  case atStart => exact ⟨1, rfl, by omega, by omega, hr1, c1⟩
  case round =>
    clear hr1 c1
    obtain ⟨i, rfl, hi1, hi, hR, hc⟩ := hrel
    by_cases hlt : i ≤ k
    · have hP := ringPutIn b 0 false (rng 1 (i - 1)) (i : Int) wr hR (by rw [rng_len]; omega)
      go_wp2_with fail
      refine hP.mono ?_; rintro e w2 ⟨v2, p2, rfl, h2, c2⟩
      go_wp2
      go_roundw
      case rel =>
        refine ⟨i + 1, by go_num, by omega, by omega, ?_, hc.transT c2 (by intro q hq; simp at hq; subst hq; exact .inr (by have := HB.out; omega))⟩
        have e := rng_succ 1 (i - 1)
        rw [show i - 1 + 1 = i by omega, show (1 : Int) + ((i - 1 : Nat) : Int) = (i : Int) by omega] at e
        rw [show i + 1 - 1 = i by omega, e]
        exact h2
      case measure => simp [intOf]; omega
    · obtain rfl : i = k + 1 := by omega
      rw [show k + 1 - 1 = k by omega] at hR
      clear hlt hi hi1
      go_wp2_with fail
      refine (ringPutNew b 0 _ 0 _ hR).mono ?_; rintro e w2 ⟨rfl, h2, c2⟩
      have hL : RingL w2 b (rng 0 (k + 1)) := ⟨0, true, _, h2, by rw [rng_cons]; rfl⟩
      have hcw : Ch [] w w2 := hc.transT c2 (by intro q hq; simp at hq; subst hq; exact .inr (by have := HB.out; omega))
      clear h2 c2 hc hR
      have e2 : IntKind.u64.wrap ((k : Int) + 1) = (k : Int) + 1 := by
        simp only [IntKind.wrap]
        rw [if_neg (by simp [IntKind.signed])]
        exact Int.emod_eq_of_lt (by omega) (by simp [IntKind.bits]; omega)
      have e3 : ¬ (k : Int) + 1 = 0 := by omega
      have hD := ringDelL b (rng 0 (k + 1)) (x : Int) w2 hL
      have hxk : x ≤ k := by have := HXL.out; omega
      rw [show (rng 0 (k + 1)).contains (x : Int) = true by simpa [mem_rng] using (by omega : (x : Int) < 0 + ((k + 1 : Nat) : Int)), rng_erase x k hxk] at hD
      obtain ⟨M, hM⟩ : ∃ M, rng 0 x ++ rng ((x : Int) + 1) (k - x) = M := ⟨_, rfl⟩
      rw [hM] at hD
      have hm1 : M.contains (x : Int) = false := by
        rw [← hM]
        simp only [List.contains_eq_mem, List.mem_append, mem_rng, decide_eq_false_iff_not]
        omega
      have hm2 : M.contains ((k : Int) + 5) = false := by
        rw [← hM]
        simp only [List.contains_eq_mem, List.mem_append, mem_rng, decide_eq_false_iff_not]
        omega
      have hml : M.length = k := by rw [← hM, List.length_append, rng_len, rng_len]; omega
      have HM := Lib.hid hM
      have HM1 := Lib.hid hm1
      have HM2 := Lib.hid hm2
      have HML := Lib.hid hml
      have HD := Lib.hid hD
      clear hM hm1 hm2 hml hD
      go_wp2_with fail
      rw [HX.out]
      clear e2 e3
      refine HD.out.mono ?_; rintro e w3 ⟨rfl, hL3, c3⟩
      have hD2 := ringDelL b M (x : Int) w3 hL3
      rw [HM1.out, List.erase_of_not_mem (by have := HM1.out; simpa using this)] at hD2
      go_wp2_with fail
      refine hD2.mono ?_; rintro e w4 ⟨rfl, hL4, c4⟩
      have hD3 := ringDelL b M ((k : Int) + 5) w4 hL4
      rw [HM2.out, List.erase_of_not_mem (by have := HM2.out; simpa using this)] at hD3
      clear hD2
      go_wp2_with fail
      refine hD3.mono ?_; rintro e w5 ⟨rfl, hL5, c5⟩
      have hlen := ringLenL b M w5 hL5
      rw [HML.out] at hlen
      clear hD3
      go_wp2_with fail
      refine hlen.mono ?_; rintro e w6 ⟨rfl, c6⟩
      have hL6 : RingL w6 b (M.drop 0) := hL5.keep c6 (by simp)
      have hc6 : Ch [] w w6 := by
        refine hcw.transT (((c3.trans c4).trans c5).trans (c6.mono (by simp))) ?_
        intro q hq
        simp at hq
        subst hq
        exact .inr (by have := HB.out; omega)
      clear hlen c3 c4 c5 c6 hL3 hL4 hL5 hL hcw HD
      go_wp2_with fail
      go_loopw [9] (fun s9 wr => ∃ i : Nat, s9 = .int .i64 i ∧ i ≤ k + 1 ∧ RingL wr b (M.drop (if i ≤ x then i else i - 1)) ∧ Ch [] w wr) (fun s9 _ => k + 1 - (intOf s9).toNat)
      case atStart => exact ⟨0, rfl, by omega, by simpa using hL6, hc6⟩
      case round =>
        clear hL6 hc6
        obtain ⟨i, rfl, hi, hL, hc⟩ := hrel
        by_cases hlt : i ≤ k
        · by_cases hix : i = x
          · subst hix
            rw [if_pos (Nat.le_refl _)] at hL
            have hL' : RingL wr b (M.drop (if i + 1 ≤ i then i + 1 else i + 1 - 1)) := by rw [if_neg (by omega)]; simpa using hL
            go_wp2
            go_roundw
            case rel => exact ⟨i + 1, by go_num, by omega, hL', hc⟩
            case measure => simp [intOf]; omega
          · have hix' : ((i : Int) == (x : Int)) = false := by rw [beq_eq_false_iff_ne]; omega
            obtain ⟨d, hd⟩ : ∃ d, (if i ≤ x then i else i - 1) = d := ⟨_, rfl⟩
            have hdk : d < k := by rw [← hd]; split <;> omega
            have hgd : gI M d = i := by
              have hdl : d < M.length := by rw [HML.out]; exact hdk
              rw [← HM.out]
              by_cases hlx : i ≤ x
              · rw [if_pos hlx] at hd
                subst hd
                have : i < x := by omega
                simp [gI, List.getD_eq_getElem?_getD, List.getElem?_append_left, rng_len, this, rng]
              · rw [if_neg hlx] at hd
                subst hd
                rw [gI, List.getD_eq_getElem?_getD, List.getElem?_append_right (by rw [rng_len]; omega), rng_len]
                simp [rng, show i - 1 - x < k - x by omega]
                omega
            rw [hd, show M.drop d = gI M d :: M.drop (d + 1) by rw [gI_at M d (by rw [HML.out]; exact hdk)]; exact List.drop_eq_getElem_cons _, hgd] at hL
            have hd1 : (if i + 1 ≤ x then i + 1 else i + 1 - 1) = d + 1 := by rw [← hd]; split <;> split <;> omega
            have HD1 := Lib.hid hd1
            clear hd hgd hd1
            go_wp2_with fail
            refine (ringGetL b (i : Int) (M.drop (d + 1)) _ hL).mono ?_; rintro e w7 ⟨rfl, hL7, c7⟩
            go_wp2
            go_roundw
            case rel => exact ⟨i + 1, by go_num, by omega, by rw [HD1.out]; exact hL7, hc.transT c7 (by intro q hq; simp at hq; subst hq; exact .inr (by have := HB.out; omega))⟩
            case measure => simp [intOf]; omega
        · obtain rfl : i = k + 1 := by omega
          rw [if_neg (by have := hxk; omega), List.drop_eq_nil_of_le (by rw [HML.out]; omega)] at hL
          clear hlt
          go_wp2_with fail
          refine (ringGetNil _).mono ?_; rintro e w7 ⟨rfl, rfl⟩
          go_wp2_with fail
          refine (told10 _).mono ?_; rintro e w8 ⟨rfl, c8⟩
          have hL8 := hL.keep c8 (by simp)
          go_wp2_with fail
          refine (ringLenL b [] _ hL8).mono ?_; rintro e w9 ⟨rfl, c9⟩
          go_wp2_with fail
          refine (ringLenNil _).mono ?_; rintro e w10 ⟨rfl, rfl⟩
          go_wp2_with fail
          refine (ringDelNil _ _).mono ?_; rintro e w11 ⟨rfl, rfl⟩
          go_wp2
          go_ret
          exact ⟨rfl, ((hc.trans c8).trans c9).below (Nat.le_refl _) (by simp)⟩
end Go.Proofs.Yteghenfdncgpeaa
