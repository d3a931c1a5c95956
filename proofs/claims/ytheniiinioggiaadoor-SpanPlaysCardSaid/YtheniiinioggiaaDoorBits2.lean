/-
  Contracts of package bits, whatever the case: New, Set, Clear, Next, All; what the law's own check comes to. Conditions: none beyond what each theorem names.
-/
import Derived.Test.YtheniiinioggiaaDoorBits
import Derived.Test.YtheniiinioggiaaDoorInfo
namespace Go.Proofs.YtheniiinioggiaaDoor
open Go.RowKit
theorem Tryd.infoU64 : (Tryd.prog.info? 68).map (fun i => (i.zero, i.size, i.bytes)) = some (some (.int .u64 0), 1, 8) := by kernel_rfl
theorem run_makeWords (w : World) (k : Nat) (h : k ≤ 1000000) : (Instr.makeSlice 64 (.int .i64 (k : Int)) (.int .i64 (k : Int))).run Tryd.prog w =
    .ok (.slice (some ⟨w.heap.size, 0, none⟩) k k) (w.alloc (.cells (Array.replicate k (W64 0)) 68)) := by
  obtain ⟨i0, hi0, hz0, hz1, hz2⟩ := info_parts Tryd.infoU64
  have hr := run_makeSlice (P := Tryd.prog) w 64 68 i0 (.int .u64 0) Tryd.underlying64 hi0 hz0 .i64 .i64 (k : Int) (k : Int) (by omega) (Int.le_refl _) (by rw [hz1]; omega) (by rw [hz2]; omega) (by omega)
  rw [hr, hz1]
  congr 1
  have : madeCells (Value.int IntKind.u64 0).cells (((k : Int).toNat) * 1) = Array.replicate k (W64 0) := by
    apply Array.ext'
    apply List.ext_getElem
    · simp [madeCells]
    · intro n h1 h2
      simp [madeCells, Value.cells, Nat.mod_one, W64]
  rw [this]
theorem SetAt.fresh (w : World) (n k : Nat) (hk : k = (n + 63) / 64) (hn : n ≤ 16777216) :
    ∃ G, SetAt ((w.alloc (.cells (Array.replicate k (W64 0)) 68)).alloc (.cells #[.int .i64 n, .slice (some ⟨w.heap.size, 0, none⟩) k k, .int .i64 0] 66)) (w.heap.size + 1) n (fun _ => false) G ∧ ∀ j ∈ G, w.heap.size ≤ j := by
  refine ⟨[w.heap.size], ⟨some ⟨w.heap.size, 0, none⟩, k, List.replicate k 0, ?_, by simpa using hk, by simp, by unfold maxLen; omega, hn, ?_, ?_, .inr ⟨w.heap.size, 0, Array.replicate k (W64 0), rfl, rfl, (Blk.new _ _ _).alloc _, ?_⟩⟩, by simp⟩
  · have e : cnt (fun _ => false) n = 0 := by
      unfold cnt mem
      simp
    rw [e, List.length_replicate]
    exact Blk.new' (by simp) _ _
  · intro j x hx
    rw [List.getElem?_replicate] at hx
    split at hx
    · cases hx; omega
    · cases hx
  · intro i x _ hx
    rw [List.getElem?_replicate] at hx
    split at hx
    · cases hx; simp
    · cases hx
  · intro j x hx
    rw [List.getElem?_replicate] at hx
    split at hx
    · rename_i hj
      cases hx
      simp [hj]
    · cases hx
/-- A new set below n, of nobody. -/
def NewSet (w : World) (n : Nat) (e : Ending) (w' : World) : Prop := ∃ b G, e = .returned (.pointer (some ⟨b, 0, none⟩)) ∧ SetAt w' b n (fun _ => false) G ∧ w.heap.size ≤ b ∧ (∀ k ∈ G, w.heap.size ≤ k) ∧ Ch [] w w'
theorem bitsNew (n : Nat) (w : World) (hn : n ≤ 16777216) :
    Calls Tryd.prog 13 #[.int .i64 n] w (NewSet w n) := by
  obtain ⟨k, hk⟩ : ∃ k, k = (n + 63) / 64 := ⟨_, rfl⟩
  obtain ⟨G, hG1, hG2⟩ := SetAt.fresh w n k hk hn
  have hmk := fun w => run_makeWords w k (by omega)
  have e1 : ((n : Int) + 63) / 64 = (k : Int) := by omega
  have u1 : ¬ (n : Int) < 0 := by omega
  have u2 : ¬ (16777216 : Int) < n := by omega
  have u3 : (0 : Int) ≤ n := by omega
  have HG1 := Lib.hid hG1
  have HG2 := Lib.hid hG2
  have HK := Lib.hid hk
  clear hk hG1 hG2
  go_enter Tryd.func13, Tryd.ntmps13
  go_wp2_with fail
  go_ret
  refine ⟨_, G, rfl, HG1.out, by omega, HG2.out, ((Ch.refl [] w).alloc _).alloc _⟩
theorem bitsNewNeg (x : Int) (w : World) (hx : x < 0) :
    Calls Tryd.prog 13 #[.int .i64 x] w (NewSet w 0) := by
  obtain ⟨G, hG1, hG2⟩ := SetAt.fresh w 0 0 rfl (by omega)
  have hmk : ∀ w : World, (Instr.makeSlice 64 (.int .i64 0) (.int .i64 0)).run Tryd.prog w = .ok (.slice (some ⟨w.heap.size, 0, none⟩) 0 0) (w.alloc (.cells (Array.replicate 0 (W64 0)) 68)) := fun w => run_makeWords w 0 (by omega)
  have HG1 := Lib.hid hG1
  have HG2 := Lib.hid hG2
  clear hG1 hG2
  go_enter Tryd.func13, Tryd.ntmps13
  go_wp2_with fail
  go_ret
  refine ⟨_, G, rfl, HG1.out, by omega, HG2.out, ((Ch.refl [] w).alloc _).alloc _⟩
/-- What Set comes to. -/
def setB (S : Nat → Bool) (n : Nat) (i : Int) : Bool := decide (0 ≤ i) && (decide (i < n) && !S i.toNat)
def putS (S : Nat → Bool) (n : Nat) (i : Int) (v : Bool) : Nat → Bool := if 0 ≤ i ∧ i < n then upd S i.toNat v else S
theorem upd_self {S : Nat → Bool} {i : Nat} {v : Bool} (h : S i = v) : upd S i v = S := by
  funext k
  unfold upd
  split
  · rename_i hk; rw [hk, h]
  · rfl
theorem bitsSet (b n : Nat) (S : Nat → Bool) (G : List Nat) (i : Int) (w : World) (h : SetAt w b n S G) :
    Calls Tryd.prog 15 #[.pointer (some ⟨b, 0, none⟩), .int .i64 i] w fun e w' => e = .returned (.bool (setB S n i)) ∧ SetAt w' b n (putS S n i true) G ∧ Ch (b :: G) w w' := by
  by_cases hi : 0 ≤ i ∧ i < (n : Int)
  · obtain ⟨k, rfl⟩ : ∃ k : Nat, i = k := ⟨i.toNat, by omega⟩
    have hk : k < n := by omega
    have e : setB S n k = !S k := by
      simp only [setB, decide_eq_true hi.1, decide_eq_true hi.2, Bool.true_and, Int.toNat_natCast]
    have e2 : putS S n k true = upd S k true := by
      simp only [putS, if_pos hi, Int.toNat_natCast]
    rw [e, e2]
    cases hS : S k with
    | false => exact bitsSetNew b n S G k w h hk hS
    | true =>
      refine (bitsSetNo b n S G k w h (.inr (.inr (by rw [hasI_in hk, hS])))).mono ?_
      rintro e w' ⟨rfl, rfl⟩
      rw [upd_self hS]
      exact ⟨rfl, h, Ch.refl _ _⟩
  · have e : setB S n i = false := by
      unfold setB
      by_cases h0 : 0 ≤ i
      · rw [decide_eq_false (show ¬ i < (n : Int) from fun h1 => hi ⟨h0, h1⟩)]; simp
      · rw [decide_eq_false h0]; rfl
    have e2 : putS S n i true = S := by simp only [putS, if_neg hi]
    rw [e, e2]
    refine (bitsSetNo b n S G i w h (by
      by_cases h0 : 0 ≤ i
      · exact .inr (.inl (by have := fun h1 => hi ⟨h0, h1⟩; omega))
      · exact .inl (by omega))).mono ?_
    rintro e w' ⟨rfl, rfl⟩
    exact ⟨rfl, h, Ch.refl _ _⟩
theorem bitsClear (b n : Nat) (S : Nat → Bool) (G : List Nat) (i : Int) (w : World) (h : SetAt w b n S G) :
    Calls Tryd.prog 20 #[.pointer (some ⟨b, 0, none⟩), .int .i64 i] w fun e w' => e = .returned (.bool (hasI S n i)) ∧ SetAt w' b n (putS S n i false) G ∧ Ch (b :: G) w w' := by
  by_cases hi : 0 ≤ i ∧ i < (n : Int)
  · obtain ⟨k, rfl⟩ : ∃ k : Nat, i = k := ⟨i.toNat, by omega⟩
    have hk : k < n := by omega
    have e2 : putS S n k false = upd S k false := by
      simp only [putS, if_pos hi, Int.toNat_natCast]
    rw [hasI_in hk, e2]
    cases hS : S k with
    | true => exact bitsClearYes b n S G k w h hk hS
    | false =>
      refine (bitsClearNo b n S G k w h (by rw [hasI_in hk, hS])).mono ?_
      rintro e w' ⟨rfl, rfl⟩
      rw [upd_self hS]
      exact ⟨rfl, h, Ch.refl _ _⟩
  · have e2 : putS S n i false = S := by simp only [putS, if_neg hi]
    have e : hasI S n i = false := hasI_out (by
      by_cases h0 : 0 ≤ i
      · exact .inr (by have := fun h1 => hi ⟨h0, h1⟩; omega)
      · exact .inl (by omega))
    rw [e2]
    have hc := bitsClearNo b n S G i w h e
    rw [e]
    refine hc.mono ?_
    rintro e w' ⟨rfl, rfl⟩
    exact ⟨rfl, h, Ch.refl _ _⟩
theorem bitsNext (b n : Nat) (S : Nat → Bool) (G : List Nat) (v : Bool) (i : Int) (w : World) (h : SetAt w b n S G) (hT : TabW w) :
    Calls Tryd.prog 16 #[.pointer (some ⟨b, 0, none⟩), .int .i64 i, .bool v] w fun e w' => e = .returned (.int .i64 (nxt S n i.toNat v)) ∧ w' = w := by
  by_cases hi : (n : Int) ≤ i
  · rw [nxt_none (fun j h1 h2 => by omega)]
    exact bitsNextPast b n S G i v w h hi
  · exact bitsNextIn b n S G i.toNat v i w h (by omega) rfl hT
/-- All of a set, as numbers. -/
def els (S : Nat → Bool) (n : Nat) : List Int := (mem S n).map fun (x : Nat) => (x : Int)
theorem els_len (S : Nat → Bool) (n : Nat) : (els S n).length = cnt S n := by simp [els, cnt]
theorem bitsAllNil (w : World) : Calls Tryd.prog 19 #[.pointer none] w fun e w' => e = .returned (.slice none 0 0) ∧ w' = w := by
  have hC := bitsCountNil w
  go_enter Tryd.func19, Tryd.ntmps19
  go_wp2_with fail
  refine hC.mono ?_; rintro e w' ⟨rfl, rfl⟩
  go_wp2_with fail
  go_loop [3, 4, 7] (fun s3 s4 s7 => s3 = .slice none 0 0 ∧ s7 = .int .i64 0) (fun _ _ _ => 0)
  case atStart => exact ⟨rfl, rfl⟩
  case round =>
    obtain ⟨rfl, rfl⟩ := hrel
    go_wp2
    go_ret
    exact ⟨rfl, rfl⟩
theorem bitsAll (b n : Nat) (S : Nat → Bool) (G : List Nat) (w : World) (h : SetAt w b n S G) (hT : TabW w) (hn : n ≤ 100000) :
    Calls Tryd.prog 19 #[.pointer (some ⟨b, 0, none⟩)] w fun e w' => ∃ v, e = .returned v ∧ OwI w' w.heap.size v (els S n) ∧ Ch [] w w' := by
  have hC := bitsCount b n S G w h
  have hle := cnt_le S n
  obtain ⟨c, hc⟩ : ∃ c, cnt S n = c := ⟨_, rfl⟩
  rw [hc] at hC hle
  obtain ⟨B, hB⟩ : ∃ B, w.heap.size = B := ⟨_, rfl⟩
  rw [hB]
  have HB := Lib.hid hB
  have HC := Lib.hid hc
  clear hc hB
  go_enter Tryd.func19, Tryd.ntmps19
  go_wp2_with fail
  refine hC.mono ?_; rintro e w' ⟨rfl, rfl⟩
  clear hC
  go_wp2_with fail
  go_loopw [3, 4, 7] (fun s3 s4 s7 wr => ∃ j : Nat, s7 = .int .i64 j ∧ j ≤ c ∧ OwI wr B s3 ((els S n).take j) ∧ Ch [] w' wr) (fun _ _ s7 _ => c - (intOf s7).toNat)
  case atStart => exact ⟨0, rfl, by omega, OwI.nil _ _, Ch.refl _ _⟩
  case round =>
    obtain ⟨j, rfl, hj, hO, hch⟩ := hrel
    have hsz := hch.size
    by_cases hlt : j < c
    · obtain ⟨k, k1, k2, k3, k4, k5⟩ := mem_take S n j (by rw [HC.out]; exact hlt)
      have t1 : decide ((j : Int) < c) = true := decide_eq_true (by omega)
      have hS : SetAt wr b n S G := h.keep hch (by simp) (by simp)
      have hTr : TabW wr := hT.keep hch (by simp)
      have hgk : (els S n)[j]? = some (k : Int) := by simp [els, k1]
      have hnext : (els S n).take (j + 1) = (els S n).take j ++ [(k : Int)] := by
        have hjl : j < (els S n).length := by rw [els_len, HC.out]; exact hlt
        rw [List.take_succ_eq_append_getElem hjl]
        rw [List.getElem?_eq_getElem hjl] at hgk
        simp only [Option.some.injEq] at hgk
        rw [hgk]
      obtain ⟨a3, c3, rfl, z1, z2, rd⟩ := hO.form
      have hlen : ((els S n).take j).length = j := by rw [List.length_take, els_len, HC.out]; omega
      rw [hlen] at z1
      have HN := Lib.hid hnext
      have HL := Lib.hid hlen
      have HBB := HB.out
      have hBs : B ≤ wr.heap.size := by omega
      rcases Nat.eq_zero_or_pos j with hj0 | hj0
      · have hnx := bitsNext b n S G true 0 wr hS hTr
        rw [show (0 : Int).toNat = 0 from rfl, nxt_mem k2 k3 k4 (by rw [cnt_zero, hj0]) (Nat.zero_le _)] at hnx
        have g0 : decide ((0 : Int) < j) = false := decide_eq_false (by omega)
        have g00 : decide (0 < j) = false := decide_eq_false (by omega)
        clear hj0
        have hO1 := hO.alloc (.cells #[.int .i64 (k : Int)] 3)
        rw [HL.out] at hO1
        rw [HL.out]
        have HO := Lib.hid hO
        clear hgk hnext hlen rd hO HBB k1 k5 k4 k3
        go_wp2_with fail
        refine hnx.mono ?_; rintro e w2 ⟨rfl, rfl⟩
        clear hnx
        go_wp2_with (at_builtin; refine wpList_app rfl (.tmp 19) (.tmp 23) rfl B _ ((els S n).take j) rfl hO1 (by simp; omega) _ [(k : Int)] rfl (srcOne _ (k : Int)) (by rw [HL.out]; simp; omega) ?_)
        intro v' w3 hv' c3' _
        have hchF := (hch.alloc (.cells #[.int .i64 (k : Int)] 3)).transT c3' (by intro q hq; have := hO1.2 q (by simpa using hq); have := HB.out; exact .inr (by omega))
        clear hO1 hch hS hTr
        go_wp2
        go_roundw
        case rel => exact ⟨j + 1, by go_num, by omega, by rw [HN.out]; exact hv', hchF⟩
        case measure => simp [intOf]; omega
      · obtain ⟨j', hj'⟩ : ∃ j', j = j' + 1 := ⟨j - 1, by omega⟩
        obtain ⟨p, p1, p2, p3, p4, p5⟩ := mem_take S n j' (by rw [HC.out]; omega)
        have hcp : cnt S (p + 1) = j := by rw [cnt_succ, p3, p4]; simp; omega
        have hpk : p + 1 ≤ k := by
          by_cases h1 : p + 1 ≤ k
          · exact h1
          · have h2 := cnt_mono S k p (by omega)
            omega
        have hnx := bitsNext b n S G true ((p : Int) + 1) wr hS hTr
        rw [show ((p : Int) + 1).toNat = p + 1 by omega, nxt_mem k2 k3 k4 hcp hpk] at hnx
        have g0 : decide ((0 : Int) < j) = true := decide_eq_true (by omega)
        have g00 : decide (0 < j) = true := decide_eq_true (by omega)
        have hj'l : j' < ((els S n).take j).length := by rw [HL.out]; omega
        obtain ⟨ba, oa, rfl, hcell⟩ := rd.at hj'l
        have d1 := hcell j' hj'l
        have hg : gI ((els S n).take j) j' = (p : Int) := by
          rw [gI_at _ _ hj'l]
          simp only [List.getElem_take]
          have : (els S n)[j']? = some (p : Int) := by simp [els, p1]
          obtain ⟨h1, h2⟩ := List.getElem?_eq_some_iff.1 this
          exact h2
        rw [hg] at d1
        have e1 : (j : Int) - 1 = (j' : Int) := by omega
        have e2 : (j' : Int) < j := by omega
        have e3 : (0 : Int) ≤ j' := by omega
        have HP := Lib.hid p1
        clear hcell hg hcp hpk p1 p5 p4 p3 hj' hj'l hj0
        have hO1 := hO.alloc (.cells #[.int .i64 (k : Int)] 3)
        rw [HL.out] at hO1
        rw [HL.out]
        have HO := Lib.hid hO
        clear hgk hnext hlen rd hO HBB k1 k5 k4 k3
        go_wp2_with fail
        refine hnx.mono ?_; rintro e w2 ⟨rfl, rfl⟩
        clear hnx
        go_wp2_with (at_builtin; refine wpList_app rfl (.tmp 19) (.tmp 23) rfl B _ ((els S n).take j) rfl hO1 (by simp; omega) _ [(k : Int)] rfl (srcOne _ (k : Int)) (by rw [HL.out]; simp; omega) ?_)
        intro v' w3 hv' c3' _
        have hchF := (hch.alloc (.cells #[.int .i64 (k : Int)] 3)).transT c3' (by intro q hq; have := hO1.2 q (by simpa using hq); have := HB.out; exact .inr (by omega))
        clear hO1 hch hS hTr
        go_wp2
        go_roundw
        case rel => exact ⟨j + 1, by go_num, by omega, by rw [HN.out]; exact hv', hchF⟩
        case measure => simp [intOf]; omega
    · obtain rfl : j = c := by omega
      have t1 : decide ((j : Int) < j) = false := decide_eq_false (by omega)
      go_wp2
      go_ret
      rw [List.take_of_length_le (by rw [els_len, HC.out]; omega)] at hO
      exact ⟨_, rfl, hO, hch⟩
end Go.Proofs.YtheniiinioggiaaDoor
