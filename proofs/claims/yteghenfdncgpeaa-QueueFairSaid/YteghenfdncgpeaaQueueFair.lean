/-
  The walk of the statement QueueFair: the law returns true at every input. Conditions: none.
-/
import Derived.Test.YteghenfdncgpeaaQueue
import Derived.Test.YteghenfdncgpeaaInts
import Derived.Deep.LoopGhost
namespace Go.Proofs.Yteghenfdncgpeaa
open Go.RowKit
theorem qAll (b : Nat) (v : Value) (xs : List Int) (w : World) (h : QAt w b v xs) (hl : xs.length ≤ 100000) : Calls Try.prog 38 #[.pointer (some ⟨b, 0, none⟩)] w fun e w' =>
    ∃ v', e = .returned v' ∧ Own w' 3 1 v' xs.length (xs.map (Value.int .i64)) ∧ Ch [] w w' := by
  obtain ⟨a, cap, rfl, e1, e2, e3, hrd⟩ := h.2.rd
  clear e1
  have c := h.1.cell 0
  go_enter Try.func38, Try.ntmps38
  go_wp2_with fail
  refine (cloneInts _ xs _ _ hrd (by omega)).mono ?_; rintro e w2 ⟨v', rfl, h5, h6, h7⟩
  go_wp2
  go_ret
  exact ⟨v', rfl, h5, h7⟩
theorem rd_lit (w : World) (xs : List Int) : Rd (w.alloc (.cells (xs.map (Value.int .i64)).toArray 3)) (some ⟨w.heap.size, 0, none⟩) xs := .inr ⟨_, _, rfl, fun i hi => by
  rw [Nat.zero_add, (Blk.new w _ _).cell, gI_at xs i hi]
  simp [hi]⟩
theorem told11 (w : World) : Calls Try.prog 34 #[] w fun e w' => e = .returned (.bool true) ∧ Ch [] w w' := by
  go_enter Try.func34, Try.ntmps34
  go_wp2_with fail
  refine (qNew _).mono ?_; rintro e w1 ⟨rfl, h1, c1⟩
  obtain ⟨b, hb⟩ : ∃ b, w.heap.size = b := ⟨_, rfl⟩
  rw [hb] at h1 ⊢
  have HB := Lib.hid hb
  clear hb
  go_wp2_with fail
  refine (qPut b _ [] _ [1, 2, 3] _ (h1.keep ((Ch.refl [] w1).alloc _) (by simp) (by simp)) (by simp [Value.ownBlock]) (Src_lit Try.underlying25 w1 [_, _, _] 1 3 rfl _ (q_ints [1, 2, 3])) (by decide)).mono ?_
  rintro e w2 ⟨rfl, v2, h2, c2, f2⟩
  have hv2 : ∀ k, v2.ownBlock = some k → b < k := by
    intro k hk
    rcases f2 with f | f
    · rw [f] at hk
      simp [Value.ownBlock] at hk
    · have := f k hk
      have := h1.1.lt
      simp at *
      omega
  go_wp2_with fail
  refine (qGet b v2 _ 2 9 2 _ h2 hv2 (by decide) (by decide) (by decide) (by decide) (by decide) (by decide)).mono ?_
  rintro e w3 ⟨v3, v4, rfl, o3, h3, f3, c3⟩
  obtain ⟨a3, cap3, rfl, e1, e2, e3, r3⟩ := o3.rd
  clear e1
  go_wp2_with fail
  refine (ints_same _ _ [1, 2] _ _ _ (r3.below (((Ch.refl [] w3).alloc _).below (Nat.le_refl _) (by simp))) (rd_lit w3 [1, 2]) (by decide)).mono ?_; rintro e w4 ⟨rfl, nq, rfl⟩
  have h4 : QAt ((w3.alloc (.cells #[.int .i64 1, .int .i64 2] 3)).drewN nq) b v4 [3] := QAt.keep h3 (((Ch.refl [] w3).alloc _).drewN nq) (by simp) (by simp)
  go_wp2_with fail
  refine (qLen b v4 [3] _ h4).mono ?_; rintro e w5 ⟨rfl, rfl⟩
  rw [show (([3] : List Int).length : Int) = 1 from rfl]
  go_wp2_with fail
  refine (qAll b v4 [3] _ h4 (by decide)).mono ?_; rintro e w6 ⟨v6, rfl, o6, c6⟩
  obtain ⟨a6, cap6, rfl, e1, e2, e3, r6⟩ := o6.rd
  go_wp2_with fail
  refine (ints_same _ _ [3] _ _ _ (r6.below (((Ch.refl [] w6).alloc _).below (Nat.le_refl _) (by simp))) (rd_lit w6 [3]) (by decide)).mono ?_; rintro e w7 ⟨rfl, nq7, rfl⟩
  go_wp2
  go_ret
  have hC : Ch [b] w w3 := (c1.mono (by simp)).transT ((((Ch.refl [b] w1).alloc _).transT c2 (by intro q hq; simp [Value.ownBlock] at hq; subst hq; exact .inl (by simp))).trans c3) (by simp)
  exact ⟨rfl, (((((hC.mono (T := []) (by intro q hq; simp at hq; subst hq; exact .inr (by have := HB.out; omega))).alloc _).drewN nq).trans c6).alloc _).drewN nq7⟩
set_option maxRecDepth 100000 in
set_option maxHeartbeats 2000000 in
theorem fair_walk (a0 a1 a2 : Int) (w : World) :
    Calls Try.prog 8 #[.int .i64 a0, .int .i64 a1, .int .i64 a2] w fun e w' => e = .returned (.bool true) ∧ Below w.heap.size w w' := by
  obtain ⟨k, hk, hkl⟩ := umod a0 501 (by decide) (by decide)
  obtain ⟨x, hx, hxl⟩ := umod a1 64 (by decide) (by decide)
  obtain ⟨y, hy, hyl⟩ := umod a2 200 (by decide) (by decide)
  obtain ⟨p, hp⟩ : ∃ p : Nat, (1 : Int) + (x : Int) = p := ⟨1 + x, by omega⟩
  obtain ⟨m, hm⟩ : ∃ m : Nat, (1 : Int) + (y : Int) = m := ⟨1 + y, by omega⟩
  have p1 : (1 : Int) ≤ p := by omega
  have p2 : (p : Int) ≤ 64 := by omega
  have m1 : (1 : Int) ≤ m := by omega
  have m2 : (m : Int) ≤ 200 := by omega
  go_enter Try.func8, Try.ntmps8
  go_wp2_with fail
  refine (qNew _).mono ?_; rintro e w1 ⟨rfl, h1, c1⟩
  obtain ⟨b, hb⟩ : ∃ b, w.heap.size = b := ⟨_, rfl⟩
  rw [hb] at h1 ⊢
  have HB := Lib.hid hb
  clear hb
  go_wp2_with fail
  simp only [hk, hx, hy, hp, hm]
  clear hk hx hy hp hm hxl hyl
  go_loopw [11] (fun s11 wr => ∃ (i : Nat) (v : Value), s11 = .int .i64 i ∧ i ≤ k ∧ QAt wr b v (upto i) ∧ (∀ q, v.ownBlock = some q → b < q) ∧ Ch [] w wr) (fun s11 _ => k - (intOf s11).toNat)
  case atStart => exact ⟨0, _, rfl, by omega, h1, by simp [Value.ownBlock], c1⟩
  case round =>
    clear h1 c1
    obtain ⟨i, v, rfl, hi, hQ, hv, hc⟩ := hrel
    by_cases hlt : i < k
    · have hbl : b < wr.heap.size := hQ.1.lt
      have hQa := hQ.keep ((Ch.refl [] wr).alloc (.cells #[.int .i64 (i : Int)] 3)) (by simp) (by simp)
      have hP := qPut b v (upto i) (.slice (some ⟨wr.heap.size, 0, none⟩) 1 1) [(i : Int)] _ hQa hv (Src_lit Try.underlying25 wr [_] 1 1 rfl _ (q_ints [(i : Int)])) (by rw [upto_len]; simp; omega)
      go_wp2_with fail
      refine hP.mono ?_; rintro e w2 ⟨rfl, v2, h2, c2, f2⟩
      have hcw : Ch [] w w2 := (hc.alloc _).transT c2 (by
        intro q hq
        simp only [List.mem_cons, Option.mem_toList] at hq
        rcases hq with rfl | hq
        · exact .inr (by have := HB.out; omega)
        · exact .inr (by have := hv q hq; have := HB.out; omega))
      have hv2 : ∀ q, v2.ownBlock = some q → b < q := by
        intro q hq
        rcases f2 with f | f
        · exact hv q (by rw [← f]; exact hq)
        · have := f q hq
          simp at this
          omega
      clear hP f2 c2
      go_wp2
      go_roundw
      case rel => exact ⟨i + 1, v2, by go_num, by omega, by rw [upto_succ]; exact h2, hv2, hcw⟩
      case measure => simp [intOf]; omega
    · obtain rfl : i = k := by omega
      clear hlt
      go_wp2_with fail
      go_loopg [12] i (fun r s12 wx => ∃ (d : Nat) (v : Value), d + r = i ∧ s12 = .int .i64 d ∧ QAt wx b v ((upto i).drop d) ∧ (∀ q, v.ownBlock = some q → b < q) ∧ Ch [] w wx)
      case atStart => exact ⟨0, v, by omega, rfl, hQ, hv, hc⟩
      case round =>
        clear hQ hv hc
        obtain ⟨d, v, hd, rfl, hQ, hv, hc⟩ := hrel
        obtain ⟨L, hL⟩ : ∃ L, (upto i).drop d = L := ⟨_, rfl⟩
        have hLl : L.length = gk := by rw [← hL, List.length_drop, upto_len]; omega
        rw [hL] at hQ
        have hLen := qLen b v L _ hQ
        rw [hLl] at hLen
        have HL := Lib.hid hL
        have HLL := Lib.hid hLl
        clear hL hLl
        obtain ⟨D, hD⟩ : ∃ D : Nat, (gk : Int) / (p : Int) = D := ⟨gk / p, by simp⟩
        obtain ⟨n, hn⟩ : ∃ n : Nat, (n : Int) = min (min ((gk : Int) / (p : Int) + 1) m) (min 128 (gk : Int)) := ⟨min (min (D + 1) m) (min 128 gk), by rw [hD]; omega⟩
        have hG := qGet b v L p m n _ hQ hv (by rw [HLL.out]; omega) p1 (by omega) (by omega) (by omega) (by rw [HLL.out]; exact hn)
        rw [hD] at hn
        by_cases hlt : 0 < gk
        · have n1 : (1 : Int) ≤ n := by omega
          have n2 : (n : Int) ≤ m := by omega
          have n3 : (n : Int) ≤ (D : Int) + 1 := by omega
          have n4 : (n : Int) ≤ 128 := by omega
          have n5 : n ≤ gk := by omega
          have hDg : D ≤ gk := by have := Int.ediv_le_self (a := (gk : Int)) (p : Int) (by omega); omega
          clear hn
          go_wp2_with fail
          refine hLen.mono ?_; rintro e w3 ⟨rfl, rfl⟩
          go_wp2_with fail
          refine hLen.mono ?_; rintro e w4 ⟨rfl, rfl⟩
          go_wp2_with fail
          refine hG.mono ?_; rintro e w5 ⟨v1, v2, rfl, o5, h5, f5, c5⟩
          clear hG hLen
          obtain ⟨a5, cap5, rfl, e1, e2, e3, r5⟩ := o5.rd
          rw [← e1] at e2 ⊢
          have E1 := Lib.hid e1
          clear e1 o5
          go_wp2_with fail
          go_loopw [12, 15] (fun s12 s15 wx => ∃ j : Nat, s15 = .int .i64 j ∧ s12 = .int .i64 ((d : Int) + (j : Int)) ∧ j ≤ n ∧ wx = w5) (fun _ s15 _ => n - (intOf s15).toNat)
          case atStart => exact ⟨0, rfl, congrArg (Value.int .i64) (by omega), by omega, rfl⟩
          case round =>
            obtain ⟨j, rfl, rfl, hj, hww⟩ := hrel
            subst hww
            by_cases hjn : j < n
            · have hjl : j < (L.take n).length := by rw [← E1.out]; exact hjn
              obtain ⟨ba, oa, rfl, hcell⟩ := r5.at hjl
              have d1 := hcell j hjl
              have hgi : gI (L.take n) j = (d : Int) + (j : Int) := by
                rw [← HL.out]
                have hdj : d + j < i := by omega
                simp [gI, upto, List.getD_eq_getElem?_getD, List.getElem?_take, hjn, hdj]
              rw [hgi] at d1
              clear hcell hgi hjl
              go_wp2_with fail
              go_roundw
              case rel => exact ⟨j + 1, by go_num, congrArg (Value.int .i64) (by omega), by omega, by first | rfl | trivial⟩
              case measure => simp [intOf]; omega
            · obtain rfl : j = n := by omega
              clear hjn
              go_wp2_with fail
              go_roundg (gk - j)
              case measure => omega
              case rel =>
                refine ⟨d + j, v2, by omega, congrArg (Value.int .i64) (by omega), ?_, ?_, hc.transT c5 (by intro q hq; simp at hq; subst hq; exact .inr (by have := HB.out; omega))⟩
                · rw [← HL.out, List.drop_drop] at h5
                  exact h5
                · intro q hq
                  have := f5 q hq
                  have := hQ.1.lt
                  omega
        · obtain rfl : gk = 0 := by omega
          obtain rfl : d = i := by omega
          clear hG hn
          go_wp2_with fail
          refine hLen.mono ?_; rintro e w3 ⟨rfl, rfl⟩
          go_wp2_with fail
          refine (told11 _).mono ?_; rintro e w4 ⟨rfl, c4⟩
          have hQ4 := hQ.keep c4 (by simp) (by simp)
          have hG := qGet b v L p m 0 _ hQ4 hv (by rw [HLL.out]; omega) p1 (by omega) (by omega) (by omega) (by
            rw [HLL.out]
            have : ((0 : Nat) : Int) / (p : Int) = 0 := by simp
            rw [this]
            omega)
          go_wp2_with fail
          refine hG.mono ?_; rintro e w5 ⟨v1, v2, rfl, o5, h5, f5, c5⟩
          obtain ⟨a5, cap5, rfl, e1, _⟩ := o5.form
          clear hG hLen
          go_wp2
          go_ret
          exact ⟨rfl, ((hc.trans c4).transT c5 (by intro q hq; simp at hq; subst hq; exact .inr (by have := HB.out; omega))).below (Nat.le_refl _) (by simp)⟩
end Go.Proofs.Yteghenfdncgpeaa
