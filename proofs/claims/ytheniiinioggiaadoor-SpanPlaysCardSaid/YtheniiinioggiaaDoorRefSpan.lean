/-
  Contracts of the document's answer for layer 6 (a span). Conditions: none beyond what each theorem names.
-/
import Derived.Test.YtheniiinioggiaaDoorSpanCycM
namespace Go.Proofs.YtheniiinioggiaaDoor
open Go.RowKit
def bools (U : Nat → Bool) (n : Nat) : Array Value := ((List.range n).map fun i => Value.bool (U i)).toArray
theorem bools_at {U : Nat → Bool} {n i : Nat} (h : i < n) : (bools U n)[i]? = some (.bool (U i)) := by
  unfold bools
  simp [h]
theorem bools_set (U : Nat → Bool) (n i : Nat) (v : Bool) : (bools U n).setIfInBounds i (.bool v) = bools (upd U i v) n := by
  unfold bools
  apply Array.ext'
  apply List.ext_getElem
  · simp
  · intro m h1 h2
    simp only [List.setIfInBounds_toArray, List.getElem_set, List.getElem_map, List.getElem_range]
    unfold upd
    by_cases h : i = m
    · rw [if_pos h, if_pos h.symm]
    · rw [if_neg h, if_neg (fun e => h e.symm)]
theorem bools_congr {U V : Nat → Bool} {n : Nat} (h : ∀ j, j < n → U j = V j) : bools U n = bools V n := by
  unfold bools
  congr 1
  apply List.map_congr_left
  intro j hj
  rw [List.mem_range] at hj
  rw [h j hj]
/-- The document's span lies in x, its used places in pu, its marks in pm. -/
structure RS (w : World) (x : Nat) (f k : Int) (n pu pm : Nat) (U M : Nat → Bool) (fr : Nat) : Prop where
  top : Blk w x #[.int .i64 f, .int .i64 k, .slice (some ⟨pu, 0, none⟩) n n, .slice (some ⟨pm, 0, none⟩) n n, .int .i64 fr] 60
  us : Blk w pu (bools U n) 4
  ms : Blk w pm (bools M n) 4
  ne : pu ≠ pm
section
variable {w w2 w0 : World} {x n pu pm fr fr2 : Nat} {f k : Int} {U M U2 M2 : Nat → Bool} {S : List Nat}
theorem RS.keep (h : RS w x f k n pu pm U M fr) (hc : Ch S w w2) (h1 : x ∉ S) (h2 : pu ∉ S) (h3 : pm ∉ S) : RS w2 x f k n pu pm U M fr := ⟨h.top.keep hc h1, h.us.keep hc h2, h.ms.keep hc h3, h.ne⟩
theorem RS.still (h : RS w x f k n pu pm U M fr) (hc : Ch [] w w2) : RS w2 x f k n pu pm U M fr := h.keep hc (by simp) (by simp) (by simp)
theorem RS.congr (h : RS w x f k n pu pm U M fr) (hU : ∀ j, j < n → U j = U2 j) (hM : ∀ j, j < n → M j = M2 j) : RS w x f k n pu pm U2 M2 fr := ⟨h.top, by rw [← bools_congr hU]; exact h.us, by rw [← bools_congr hM]; exact h.ms, h.ne⟩
theorem RS.xu (h : RS w x f k n pu pm U M fr) : x ≠ pu ∧ x ≠ pm := ⟨h.top.ne h.us (by decide), h.top.ne h.ms (by decide)⟩
theorem RS.setU (h : RS w x f k n pu pm U M fr) (i : Nat) (v : Bool) : RS (w.setCell ⟨pu, i, none⟩ (.bool v)) x f k n pu pm (upd U i v) M fr ∧ Ch [pu] w (w.setCell ⟨pu, i, none⟩ (.bool v)) := by
  have cs : Ch [pu] w (w.setCell ⟨pu, i, none⟩ (.bool v)) := (Ch.refl [pu] w).setCell (.inl (by simp)) _
  refine ⟨⟨h.top.keep cs (by simp; exact h.xu.1), ?_, h.ms.keep cs (by simp; exact h.ne.symm), h.ne⟩, cs⟩
  rw [← bools_set]
  exact h.us.set i _
theorem RS.setM (h : RS w x f k n pu pm U M fr) (i : Nat) (v : Bool) : RS (w.setCell ⟨pm, i, none⟩ (.bool v)) x f k n pu pm U (upd M i v) fr ∧ Ch [pm] w (w.setCell ⟨pm, i, none⟩ (.bool v)) := by
  have cs : Ch [pm] w (w.setCell ⟨pm, i, none⟩ (.bool v)) := (Ch.refl [pm] w).setCell (.inl (by simp)) _
  refine ⟨⟨h.top.keep cs (by simp; exact h.xu.2), h.us.keep cs (by simp; exact h.ne), ?_, h.ne⟩, cs⟩
  rw [← bools_set]
  exact h.ms.set i _
theorem RS.setFr (h : RS w x f k n pu pm U M fr) (g : Nat) : RS (w.setCell ⟨x, 4, none⟩ (.int .i64 g)) x f k n pu pm U M g ∧ Ch [x] w (w.setCell ⟨x, 4, none⟩ (.int .i64 g)) := by
  have cs : Ch [x] w (w.setCell ⟨x, 4, none⟩ (.int .i64 g)) := (Ch.refl [x] w).setCell (.inl (by simp)) _
  exact ⟨⟨h.top.set 4 _, h.us.keep cs (by simp; exact h.xu.1.symm), h.ms.keep cs (by simp; exact h.xu.2.symm), h.ne⟩, cs⟩
theorem refSpLive (h : RS w x f k n pu pm U M fr) (hn : n ≤ 1000) : Calls Tryd.prog 48 #[.pointer (some ⟨x, 0, none⟩)] w fun e w' => e = .returned (.int .i64 (cnt U n : Nat)) ∧ w' = w := by
  have c2 := h.top.cell 2
  go_enter Tryd.func48, Tryd.ntmps48
  go_wp2_with fail
  go_loop [3, 4] (fun s3 s4 => ∃ j : Nat, s4 = .int .i64 j ∧ j ≤ n ∧ s3 = .int .i64 (cnt U j : Nat)) (fun _ s4 => n - (intOf s4).toNat)
  case atStart => exact ⟨0, rfl, by omega, rfl⟩
  case round =>
    obtain ⟨j, rfl, hj, rfl⟩ := hrel
    have hcl := cnt_le U j
    obtain ⟨c, hc⟩ : ∃ c, cnt U j = c := ⟨_, rfl⟩
    rw [hc] at hcl ⊢
    by_cases hlt : j < n
    · have t1 : decide ((j : Int) < n) = true := decide_eq_true (by omega)
      have d1 := h.us.cell j
      rw [bools_at hlt] at d1
      have hs := cnt_succ U j
      rw [hc] at hs
      cases hU : U j with
      | true =>
        rw [hU] at d1 hs
        have HS := Lib.hid hs
        clear hs hc hU
        go_wp2_with fail
        go_round
        case rel => exact ⟨j + 1, by go_num, by omega, by rw [HS.out]; simp⟩
        case measure => simp [intOf]; omega
      | false =>
        rw [hU] at d1 hs
        have HS := Lib.hid hs
        clear hs hc hU
        go_wp2_with fail
        go_round
        case rel => exact ⟨j + 1, by go_num, by omega, by rw [HS.out]; simp⟩
        case measure => simp [intOf]; omega
    · obtain rfl : n = j := by omega
      have t1 : decide ((n : Int) < n) = false := decide_eq_false (by omega)
      have HC := Lib.hid hc
      clear hc
      go_wp2_with fail
      go_ret
      exact ⟨by rw [HC.out]; rfl, rfl⟩
theorem refSpFull (h : RS w x f k n pu pm U M fr) (hn : n ≤ 1000) (hfr : fr ≤ n) : Calls Tryd.prog 49 #[.pointer (some ⟨x, 0, none⟩)] w fun e w' => e = .returned (.bool (full U n fr)) ∧ w' = w := by
  have c2 := h.top.cell 2
  have c4 := h.top.cell 4
  go_enter Tryd.func49, Tryd.ntmps49
  go_wp2_with fail
  go_loop [3] (fun s3 => ∃ j : Nat, s3 = .int .i64 j ∧ fr ≤ j ∧ j ≤ n ∧ Hid (∀ t, fr ≤ t → t < j → U t = true)) (fun s3 => n - (intOf s3).toNat)
  case atStart => exact ⟨fr, rfl, by omega, by omega, Lib.hid (fun t h1 h2 => by omega)⟩
  case round =>
    obtain ⟨j, rfl, hfj, hj, HJ⟩ := hrel
    by_cases hlt : j < n
    · have t1 : decide ((j : Int) < n) = true := decide_eq_true (by omega)
      have d1 := h.us.cell j
      rw [bools_at hlt] at d1
      cases hU : U j with
      | true =>
        rw [hU] at d1
        have HU := Lib.hid hU
        clear hU
        go_wp2_with fail
        go_round
        case rel => exact ⟨j + 1, by go_num, by omega, by omega, Lib.hid (fun t h1 h2 => by
          by_cases htj : t = j
          · rw [htj]; exact HU.out
          · exact HJ.out t h1 (by omega))⟩
        case measure => simp [intOf]; omega
      | false =>
        rw [hU] at d1
        have HF := Lib.hid (show full U n fr = false by
          unfold full
          rw [nxt_at hlt hfj hU (fun t h1 h2 => by rw [HJ.out t h1 h2]; simp)]
          exact decide_eq_false (by omega))
        clear hU
        go_wp2_with fail
        go_ret
        exact ⟨by rw [HF.out]; rfl, rfl⟩
    · obtain rfl : n = j := by omega
      have t1 : decide ((n : Int) < n) = false := decide_eq_false (by omega)
      have HF := Lib.hid (show full U n fr = true by
        unfold full
        rw [nxt_none (fun t h1 h2 => by rw [HJ.out t h1 h2]; simp)]
        rfl)
      go_wp2_with fail
      go_ret
      exact ⟨by rw [HF.out]; rfl, rfl⟩
theorem refSpSet (i : Int) (h : RS w x f k n pu pm U M fr) (hn : n ≤ 1000) : Calls Tryd.prog 46 #[.pointer (some ⟨x, 0, none⟩), .int .i64 i] w fun e w' => e = .returned (.bool (markB U M n i)) ∧ RS w' x f k n pu pm U (markM U M n i) fr ∧ Ch [pm] w w' := by
  have c2 := h.top.cell 2
  have c3 := h.top.cell 3
  by_cases hi : 0 ≤ i ∧ i < (n : Int)
  · obtain ⟨j, rfl⟩ : ∃ j : Nat, i = j := ⟨i.toNat, by omega⟩
    have hj : j < n := by omega
    have t1 : decide ((j : Int) < 0) = false := decide_eq_false (by omega)
    have t2 : decide ((j : Int) ≥ n) = false := decide_eq_false (by omega)
    have d1 := h.us.cell j
    have d2 := h.ms.cell j
    have f2 := h.ms.frozen j
    rw [bools_at hj] at d1 d2
    cases hU : U j with
    | false =>
      have e : hasI U n (j : Int) = false := by rw [hasI_in hj]; exact hU
      rw [show markB U M n (j : Int) = false by unfold markB; rw [e]; rfl, show markM U M n (j : Int) = M by unfold markM; rw [e]; rfl]
      rw [hU] at d1
      clear e hU hi f2
      go_enter Tryd.func46, Tryd.ntmps46
      go_wp2_with fail
      go_ret
      exact ⟨rfl, h, Ch.refl _ _⟩
    | true =>
      rw [(mark_in' hj hU).1, (mark_in' hj hU).2, putS_nat' _ _ _ _ hj]
      rw [hU] at d1
      cases hM : M j with
      | true =>
        rw [upd_self hM]
        rw [hM] at d2
        clear hU hM hi f2
        go_enter Tryd.func46, Tryd.ntmps46
        go_wp2_with fail
        go_ret
        exact ⟨rfl, h, Ch.refl _ _⟩
      | false =>
        rw [hM] at d2
        obtain ⟨R1, R2⟩ := h.setM j true
        clear hU hM hi
        go_enter Tryd.func46, Tryd.ntmps46
        go_wp2_with fail
        go_ret
        exact ⟨rfl, R1, R2⟩
  · have e : hasI U n i = false := hasI_out (by omega)
    rw [show markB U M n i = false by unfold markB; rw [e]; rfl, show markM U M n i = M by unfold markM; rw [e]; rfl]
    by_cases h0 : i < 0
    · have t1 : decide (i < 0) = true := decide_eq_true h0
      clear hi e
      go_enter Tryd.func46, Tryd.ntmps46
      go_wp2_with fail
      go_ret
      exact ⟨rfl, h, Ch.refl _ _⟩
    · have t1 : decide (i < 0) = false := decide_eq_false h0
      have t2 : decide (i ≥ n) = true := decide_eq_true (by omega)
      clear hi e
      go_enter Tryd.func46, Tryd.ntmps46
      go_wp2_with fail
      go_ret
      exact ⟨rfl, h, Ch.refl _ _⟩
theorem refSpAllocNo (b : Bool) (h : RS w x f k n pu pm U M fr) (hn : n ≤ 1000) (hfr : fr ≤ n) (hU : ∀ t, fr ≤ t → t < n → U t = true) :
    Calls Tryd.prog 45 #[.pointer (some ⟨x, 0, none⟩), .bool b] w fun e w' => e = .returned (.tuple #[.int .i64 0, .bool false]) ∧ RS w' x f k n pu pm U M n ∧ Ch [x] w w' := by
  have c2 := h.top.cell 2
  have c4 := h.top.cell 4
  have f4 := h.top.frozen 4
  have HU := Lib.hid hU
  clear hU
  go_enter Tryd.func45, Tryd.ntmps45
  go_wp2_with fail
  go_loop [6] (fun s6 => ∃ j : Nat, s6 = .int .i64 j ∧ fr ≤ j ∧ j ≤ n) (fun s6 => n - (intOf s6).toNat)
  case atStart => exact ⟨fr, rfl, by omega, by omega⟩
  case round =>
    obtain ⟨j, rfl, hfj, hj⟩ := hrel
    by_cases hlt : j < n
    · have t1 : decide ((j : Int) < n) = true := decide_eq_true (by omega)
      have d1 := h.us.cell j
      rw [bools_at hlt, HU.out j hfj hlt] at d1
      go_wp2_with fail
      go_round
      case rel => exact ⟨j + 1, by go_num, by omega, by omega⟩
      case measure => simp [intOf]; omega
    · obtain rfl : n = j := by omega
      have t1 : decide ((n : Int) < n) = false := decide_eq_false (by omega)
      obtain ⟨R1, R2⟩ := h.setFr n
      go_wp2_with fail
      go_ret2
      exact ⟨rfl, R1, R2⟩
theorem refSpAllocYes (b : Bool) (q : Nat) (h : RS w x f k n pu pm U M fr) (hn : n ≤ 1000) (hfq : fr ≤ q) (hq : q < n) (hUq : U q = false) (hU : ∀ t, fr ≤ t → t < q → U t = true) :
    Calls Tryd.prog 45 #[.pointer (some ⟨x, 0, none⟩), .bool b] w fun e w' => e = .returned (.tuple #[.int .i64 q, .bool true]) ∧ RS w' x f k n pu pm (upd U q true) (upd M q b) q ∧ Ch [x, pu, pm] w w' := by
  have c2 := h.top.cell 2
  have c4 := h.top.cell 4
  have HU := Lib.hid hU
  have HUQ := Lib.hid hUq
  clear hU hUq
  go_enter Tryd.func45, Tryd.ntmps45
  go_wp2_with fail
  go_loop [6] (fun s6 => ∃ j : Nat, s6 = .int .i64 j ∧ fr ≤ j ∧ j ≤ q) (fun s6 => n - (intOf s6).toNat)
  case atStart => exact ⟨fr, rfl, by omega, by omega⟩
  case round =>
    obtain ⟨j, rfl, hfj, hj⟩ := hrel
    have hjn : j < n := by omega
    have t1 : decide ((j : Int) < n) = true := decide_eq_true (by omega)
    have d1 := h.us.cell j
    rw [bools_at hjn] at d1
    by_cases hlt : j < q
    · rw [HU.out j hfj hlt] at d1
      go_wp2_with fail
      go_round
      case rel => exact ⟨j + 1, by go_num, by omega, by omega⟩
      case measure => simp [intOf]; omega
    · obtain rfl : q = j := by omega
      rw [HUQ.out] at d1
      have f1 := h.us.frozen q
      obtain ⟨R1, c1⟩ := h.setU q true
      go_upto_region 6 with fail
      obtain ⟨W1, hW1⟩ : ∃ W, w.setCell ⟨pu, q, none⟩ (.bool true) = W := ⟨_, rfl⟩
      rw [hW1] at R1 c1 ⊢
      clear hW1 d1 f1 c2 c4
      have m3 := R1.top.cell 3
      have d2 := R1.ms.cell q
      have f2 := R1.ms.frozen q
      rw [bools_at hjn] at d2
      obtain ⟨R2, c2⟩ := R1.setM q b
      go_upto_region 7 with fail
      obtain ⟨W2, hW2⟩ : ∃ W, W1.setCell ⟨pm, q, none⟩ (.bool b) = W := ⟨_, rfl⟩
      rw [hW2] at R2 c2 ⊢
      clear hW2 m3 d2 f2
      have m4 := R2.top.cell 4
      have f4 := R2.top.frozen 4
      obtain ⟨R3, c3⟩ := R2.setFr q
      have cc : Ch [x, pu, pm] w (W2.setCell ⟨x, 4, none⟩ (.int .i64 q)) := ((c1.mono (by simp)).trans (c2.mono (by simp))).trans (c3.mono (by simp))
      go_wp2_with fail
      go_ret2
      exact ⟨rfl, R3, cc⟩
end
end Go.Proofs.YtheniiinioggiaaDoor
