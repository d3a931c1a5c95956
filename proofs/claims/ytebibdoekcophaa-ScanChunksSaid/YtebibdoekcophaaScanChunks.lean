/-
  The walk of the statement ScanChunks: the law returns true at every input. Conditions: none.
-/
import Derived.Test.YtebibdoekcophaaScanTold
import Derived.Test.YtebibdoekcophaaInts
namespace Go.Proofs.Ytebibdoekcophaa
open Go.RowKit
/-- What the closure 'load' of ScanChunks finds: B: the block of 'addr'; 'slots' B+1; 'next' nx; 'ok' okb. -/
def ChunkMem (B : Nat) (ad : Int) (sl : Value) (nx okb : Nat) (w0 : World) (k : Nat) (w : World) : Prop :=
  Blk w B #[.int .i64 ad] 3 ∧ Blk w (B + 1) #[sl] 22 ∧ Blk w nx #[.int .i64 k] 3 ∧ Blk w okb #[.bool true] 4 ∧ ∀ q, q < w0.heap.size → w.heap[q]? = w0.heap[q]?
theorem Rd.same {w w' : World} {a : Option Addr} {xs : List Int} (h : Rd w a xs) (hb : ∀ q, q < w.heap.size → w'.heap[q]? = w.heap[q]?) : Rd w' a xs := by
  rcases h with h | ⟨b, o, rfl, hc⟩
  · exact .inl h
  · refine .inr ⟨b, o, rfl, fun i hi => ?_⟩
    have h1 := hc i hi
    rw [World.cell?_of_block (w := w) (hb b (World.block_lt_of_cell? w ⟨b, o + i, none⟩ h1))]
    exact h1
theorem chunkLoad (B nx okb : Nat) (ad : Int) (a : Option Addr) (xs : List Int) (c : Nat) (w0 w : World) (k : Nat) (hk : k < xs.length) (hl : xs.length ≤ 300) (hr : Rd w0 a xs)
    (hne : nx ≠ okb) (hnB : nx ≠ B + 1) (hoB : okb ≠ B + 1) (hnB' : nx ≠ B) (hoB' : okb ≠ B) (hnw : w0.heap.size ≤ nx) (how : w0.heap.size ≤ okb)
    (h : ChunkMem B ad (.slice a xs.length c) nx okb w0 k w) :
    Calls Try.prog 14 #[.int .i64 ad, .int .i64 k, .pointer (some ⟨okb, 0, none⟩), .pointer (some ⟨B, 0, none⟩), .pointer (some ⟨nx, 0, none⟩), .pointer (some ⟨B + 1, 0, none⟩)] w fun e w' =>
      e = .returned (.int .i64 (gI xs k)) ∧ ChunkMem B ad (.slice a xs.length c) nx okb w0 (k + 1) w' ∧ Ch [nx, okb] w w' := by
  obtain ⟨h1, h2, h3, h4, h5⟩ := h
  obtain ⟨b, o, rfl, hc⟩ := Rd.at (hr.same h5) hk
  have hc0 := hc k hk
  have hblk : b < w0.heap.size := by
    obtain ⟨b', o', he, hc'⟩ := hr.at hk
    simp only [Option.some.injEq, Addr.mk.injEq, and_true] at he
    obtain ⟨rfl, rfl⟩ := he
    exact World.block_lt_of_cell? w0 ⟨b, o + k, none⟩ (hc' k hk)
  clear hc
  have c1 := h1.cell 0
  have c2 := h2.cell 0
  have c3 := h3.cell 0
  have c4 := h4.cell 0
  have f3 := h3.frozen 0
  have f4 := h4.frozen 0
  have n1 : okb ≠ nx := fun e => hne e.symm
  have n2 : b ≠ nx := by omega
  have n3 : b ≠ okb := by omega
  go_enter Try.func14, Try.ntmps14
  go_wp2
  go_ret
  refine ⟨by simp, ⟨(h1.setOther (Ne.symm hoB') _).setOther (Ne.symm hnB') _, (h2.setOther (Ne.symm hoB) _).setOther (Ne.symm hnB) _,
    by simpa using (h3.setOther (p := ⟨okb, 0, none⟩) hne (.bool true)).set 0 (.int .i64 (k + 1)), by simpa using (h4.set 0 (.bool true)).setOther (p := ⟨nx, 0, none⟩) n1 (.int .i64 (k + 1)), fun q hq => ?_⟩,
    ((Ch.refl [nx, okb] w).setCell (.inl (by simp)) _).setCell (.inl (by simp)) _⟩
  rw [Below.heap_setCell _ _ _ _ (by simp; omega), Below.heap_setCell _ _ _ _ (by simp; omega)]
  exact h5 q hq
/-- The closure that 'whole' is read by. -/
theorem wholeLoad (B : Nat) (a : Option Addr) (xs : List Int) (c : Nat) (w : World) (k : Nat) (hk : k < xs.length) (hl : xs.length ≤ 300) (hr : Rd w a xs) (h : Blk w B #[.slice a xs.length c] 22) :
    Calls Try.prog 19 #[.int .i64 k, .pointer (some ⟨B, 0, none⟩)] w fun e w' => e = .returned (.int .i64 (gI xs k)) ∧ w' = w := by
  obtain ⟨b, o, rfl, hc⟩ := hr.at hk
  have hc0 := hc k hk
  have c1 := h.cell 0
  clear hc
  go_enter Try.func19, Try.ntmps19
  go_wp2
  go_ret
  exact ⟨by simp, rfl⟩
theorem nz_prefix (v : Nat → Int) (n j : Nat) (hj : j < n) (hz : ¬ v j = 0) : (nz v n)[(nz v j).length]? = some (v j) := by
  obtain ⟨d, rfl⟩ : ∃ d, n = j + 1 + d := ⟨n - (j + 1), by omega⟩
  induction d with
  | zero => rw [Nat.add_zero, nz_one v j hz]; simp
  | succ d ih =>
    have ih := ih (by omega)
    rw [show j + 1 + (d + 1) = (j + 1 + d) + 1 by omega]
    by_cases h : v (j + 1 + d) = 0
    · rw [nz_zero _ _ h]; exact ih
    · rw [nz_one _ _ h, List.getElem?_append_left (List.getElem?_eq_some_iff.1 ih).1]; exact ih
theorem nz_lt (v : Nat → Int) (n j : Nat) (hj : j < n) (hz : ¬ v j = 0) : (nz v j).length < (nz v n).length := (List.getElem?_eq_some_iff.1 (nz_prefix v n j hj hz)).1
theorem nz_add (v : Nat → Int) (i n : Nat) : nz v (i + n) = nz v i ++ nz (fun j => v (i + j)) n := by
  induction n with
  | zero => simp [nz]
  | succ n ih =>
    rw [← Nat.add_assoc]
    by_cases h : v (i + n) = 0
    · rw [nz_zero _ _ h, nz_zero (fun j => v (i + j)) n h, ih]
    · rw [nz_one _ _ h, nz_one (fun j => v (i + j)) n h, ih, List.append_assoc]
/-- Where the scan stands after so many steps. -/
def stepPos (n s : Nat) : Nat := min (16 * s) n
theorem stepPos_succ (n s : Nat) : chunkEnd n (stepPos n s) = stepPos n (s + 1) := by unfold chunkEnd stepPos; split <;> omega
/-- The relation at the head of the law's loop. -/
def ChunkRel (a : Option Addr) (xs : List Int) (c : Nat) (ad : Int) (w0 : World) (all : Value) (steps : Nat) (w : World) : Prop :=
  steps ≤ 19 ∧ ChunkMem w0.heap.size ad (.slice a xs.length c) (w0.heap.size + 1 + 1 + 1) (w0.heap.size + 1 + 1 + 1 + 1) w0 (stepPos xs.length steps) w ∧ ScanAt w (w0.heap.size + 1 + 1) ad xs.length (stepPos xs.length steps) ∧
  Own w 3 1 all (nz (fun j => gI xs j) (stepPos xs.length steps)).length ((nz (fun j => gI xs j) (stepPos xs.length steps)).map (Value.int .i64)) ∧
  (∀ k, all.ownBlock = some k → w0.heap.size + 5 ≤ k) ∧ w0.heap.size + 5 ≤ w.heap.size ∧ Below w0.heap.size w0 w
theorem chunkStep (w0 : World) (ad : Int) (a : Option Addr) (xs : List Int) (c : Nat) (hl : xs.length ≤ 300) (hr : Rd w0 a xs) (i : Nat) (hi : i ≤ xs.length) (w : World)
    (hmem : ChunkMem w0.heap.size ad (.slice a xs.length c) (w0.heap.size + 1 + 1 + 1) (w0.heap.size + 1 + 1 + 1 + 1) w0 i w) (hsc : ScanAt w (w0.heap.size + 1 + 1) ad xs.length i) :
    Calls Try.prog 16 #[.pointer (some ⟨w0.heap.size + 1 + 1, 0, none⟩), .func (.func 14) #[] #[.pointer (some ⟨w0.heap.size + 1 + 1 + 1 + 1, 0, none⟩), .pointer (some ⟨w0.heap.size, 0, none⟩), .pointer (some ⟨w0.heap.size + 1 + 1 + 1, 0, none⟩), .pointer (some ⟨w0.heap.size + 1, 0, none⟩)]] w fun e w' =>
      ∃ v', e = .returned v' ∧ Own w' 3 1 v' (nz (fun j => gI xs (i + j)) (chunkEnd xs.length i - i)).length ((nz (fun j => gI xs (i + j)) (chunkEnd xs.length i - i)).map (Value.int .i64)) ∧
        ScanAt w' (w0.heap.size + 1 + 1) ad xs.length (chunkEnd xs.length i) ∧
        ChunkMem w0.heap.size ad (.slice a xs.length c) (w0.heap.size + 1 + 1 + 1) (w0.heap.size + 1 + 1 + 1 + 1) w0 (chunkEnd xs.length i) w' ∧
        Ch [w0.heap.size + 1 + 1, w0.heap.size + 1 + 1 + 1, w0.heap.size + 1 + 1 + 1 + 1] w w' := by
  have hmem' := hmem
  obtain ⟨h1, h2, h3, h4, h5⟩ := hmem'
  have l4 := h4.lt
  refine scanStep 14 [.pointer (some ⟨w0.heap.size + 1 + 1 + 1 + 1, 0, none⟩), .pointer (some ⟨w0.heap.size, 0, none⟩), .pointer (some ⟨w0.heap.size + 1 + 1 + 1, 0, none⟩), .pointer (some ⟨w0.heap.size + 1, 0, none⟩)]
    (w0.heap.size + 1 + 1) ad xs.length i (fun k => gI xs k) (ChunkMem w0.heap.size ad (.slice a xs.length c) (w0.heap.size + 1 + 1 + 1) (w0.heap.size + 1 + 1 + 1 + 1) w0) [w0.heap.size + 1 + 1 + 1, w0.heap.size + 1 + 1 + 1 + 1] w
    (fun _ _ => by kernel_rfl) hsc hi hl (by simp; omega) (by simp) hmem ?_ ?_
  · rintro k w1 w2 ⟨g1, g2, g3, g4, g5⟩ hq
    exact ⟨(hq _ (by omega) (by omega)).trans g1, (hq _ (by omega) (by omega)).trans g2, (hq _ (by omega) (by omega)).trans g3, (hq _ (by omega) (by omega)).trans g4, fun q hq' => (hq _ (by omega) (by omega)).trans (g5 q hq')⟩
  · intro k w1 hk hk' hm
    have := (chunkEnd_le xs.length i hi).2
    exact chunkLoad w0.heap.size _ _ ad a xs c w0 w1 k (by omega) hl hr (by omega) (by omega) (by omega) (by omega) (by omega) (by omega) (by omega) hm
set_option maxRecDepth 100000 in
set_option maxHeartbeats 1000000 in
theorem chunks_short (ad : Int) (a : Option Addr) (xs : List Int) (c : Nat) (w : World) (hl : xs.length ≤ 300) (hr : Rd w a xs) :
    Calls Try.prog 3 #[.int .i64 ad, .slice a xs.length c] w fun e w' => e = .returned (.bool true) ∧ Below w.heap.size w w' := by
  obtain ⟨i0, hi0, hz0, hz1, hz2⟩ := info_parts Try.infoInt
  go_enter Try.func3, Try.ntmps3
  go_wp2_with fail
  refine (scanNew _ _ _).mono ?_; rintro e w1 ⟨rfl, hw1⟩
  rw [Int.max_eq_left (by omega)] at hw1
  subst hw1
  go_wp2
  refine wp_named fun W hW => ?_
  have h1 : Blk W w.heap.size #[.int .i64 ad] 3 := by rw [hW]; repeat (first | exact Blk.new' (by simp) _ _ | refine Blk.alloc ?_ _)
  have h2 : Blk W (w.heap.size + 1) #[.slice a xs.length c] 22 := by rw [hW]; repeat (first | exact Blk.new' (by simp) _ _ | refine Blk.alloc ?_ _)
  have h3 : Blk W (w.heap.size + 1 + 1 + 1) #[.int .i64 0] 3 := by rw [hW]; repeat (first | exact Blk.new' (by simp) _ _ | refine Blk.alloc ?_ _)
  have h4 : Blk W (w.heap.size + 1 + 1 + 1 + 1) #[.bool true] 4 := by rw [hW]; repeat (first | exact Blk.new' (by simp) _ _ | refine Blk.alloc ?_ _)
  have hs : ScanAt W (w.heap.size + 1 + 1) ad xs.length 0 := by rw [hW]; unfold ScanAt; repeat (first | exact Blk.new' (by simp) _ _ | refine Blk.alloc ?_ _)
  have hc : Ch [] w W := by rw [hW]; repeat (first | exact Ch.refl _ _ | refine Ch.alloc ?_ _)
  clear hW
  go_loopw [9, 10] (fun all st wr => ∃ s : Nat, st = .int .i64 s ∧ ChunkRel a xs c ad w all s wr) (fun _ st _ => 20 - (intOf st).toNat)
  case atStart => exact ⟨0, rfl, by omega, ⟨h1, h2, by simpa [stepPos] using h3, h4, fun q hq => hc.block q hq (by simp)⟩, by simpa [stepPos] using hs, by simpa [stepPos, nz] using Own.nil _ _ _, by simp [Value.ownBlock], by have := h4.lt; omega, hc.below (Nat.le_refl _) (by simp)⟩
  case round =>
    obtain ⟨st, rfl, hst, hmem, hsc, hown, hob, hsz, hbel⟩ := hrel
    clear h1 h2 h3 h4 hs hc
    obtain ⟨i, hi⟩ : ∃ i, stepPos xs.length st = i := ⟨_, rfl⟩
    have hsucc := stepPos_succ xs.length st
    rw [hi] at hmem hsc hown hsucc
    have hile : i ≤ xs.length := by rw [← hi]; unfold stepPos; omega
    have HI := Lib.hid hi
    have HS := Lib.hid hsucc
    clear hi hsucc
    by_cases hlt : i < xs.length
    · have hd : ((xs.length : Int) - (i : Int) == 0) = false := by rw [beq_eq_false_iff_ne]; omega
      have hst' : st ≤ 18 := by have := HI.out; unfold stepPos at this; omega
      go_wp2_with fail
      refine (scanDone _ _ _ _ _ hsc (by omega) (by omega) (by omega)).mono ?_; rintro e w3 ⟨rfl, nq3, rfl⟩
      have cn := hmem.2.2.1.cell 0
      go_wp2_with fail
      refine (chunkStep w ad a xs c hl hr i hile (wr.drewN nq3) hmem hsc).mono ?_
      rintro e w4 ⟨l, rfl, ol, s4, m4, ch4⟩
      clear cn
      obtain ⟨m, hm⟩ : ∃ m, chunkEnd xs.length i = m := ⟨_, rfl⟩
      obtain ⟨m1, m2⟩ := chunkEnd_le xs.length i hile
      have hmi : (if (xs.length : Int) < (i : Int) + 16 then (xs.length : Int) else (i : Int) + 16) = (m : Int) := by
        rw [← hm]; unfold chunkEnd; split <;> split <;> omega
      have hmi' : (if xs.length < i + 16 then (xs.length : Int) else (i : Int) + 16) = (m : Int) := by
        rw [← hm]; unfold chunkEnd; split <;> omega
      have hm3 : i < m := by rw [← hm]; unfold chunkEnd; split <;> omega
      rw [hm] at ol s4 m4 m1 m2
      have hsm := HS.out
      rw [hm] at hsm
      have HSM := Lib.hid hsm
      have HMI := Lib.hid hmi
      have HMI' := Lib.hid hmi'
      clear hmi hmi' hm hsm HS
      obtain ⟨L, hL⟩ : ∃ L, nz (fun j => gI xs (i + j)) (m - i) = L := ⟨_, rfl⟩
      rw [hL] at ol
      have HL := Lib.hid hL
      clear hL
      obtain ⟨la, lc, rfl, _, _, hlm, hlr⟩ := ol.rd
      have hLl : L.length ≤ 300 := by rw [← HL.out]; have := nz_le (fun j => gI xs (i + j)) (m - i); omega
      have OL := Lib.hid ol
      clear ol
      have k1 := m4.2.1.cell 0
      have k2 := m4.2.2.1.cell 0
      have k3 := m4.2.2.2.1.cell 0
      go_upto_region 14 with fail
      have q1 : IntKind.i64.wrap ((i : Int) + 16) = (i : Int) + 16 := IntWalk.i64_in _ (by omega)
      have q2 : IntKind.i64.wrap ((xs.length : Int) - (m : Int)) = (xs.length : Int) - (m : Int) := IntWalk.i64_in _ (by omega)
      have q3 := HMI.out
      have q4 := HMI'.out
      have d3 : decide ((20 : Int) < (st : Int)) = false := decide_eq_false (by omega)
      refine wp_region_quiet_lit (by kernel_rfl) (by kernel_rfl) ?_
      repeat (go_big_quiet_step ((go_at_call 17; exact Calls.quiet_of (scanLeft _ _ _ _ _ (Blk.drewN s4 _) (by omega) (by omega) (by omega)))))
      refine wpQuiet_nil ?_
      intro _ hw'
      obtain ⟨nq, hw''⟩ := hw'
      subst hw''
      clear q1 q2 q3 q4 d3
      go_wp2
      go_loopw [13, 14] (fun s13 s14 wy => ∃ j : Nat, i ≤ j ∧ j ≤ m ∧ s14 = .int .i64 j ∧ s13 = .int .i64 (nz (fun t => gI xs (i + t)) (j - i)).length ∧ ∃ nq, wy = w4.drewN nq) (fun _ s14 _ => m - (intOf s14).toNat)
      case atStart => exact ⟨i, by omega, by omega, rfl, by simp [nz], _, rfl⟩
      case round =>
        obtain ⟨j, hij, hjm, rfl, rfl, nq5, rfl⟩ := hrel
        obtain ⟨k, hk⟩ : ∃ k, (nz (fun t => gI xs (i + t)) (j - i)).length = k := ⟨_, rfl⟩
        have hkj : k ≤ j - i := by rw [← hk]; exact nz_le _ _
        rw [hk]
        have HK := Lib.hid hk
        clear hk
        by_cases hjlt : j < m
        · have hja : j < xs.length := by omega
          obtain ⟨ab, ao, rfl, hca⟩ := (hr.same m4.2.2.2.2).at hja
          have ca := hca j hja
          clear hca
          by_cases hz : gI xs j = 0
          · have hz0 := nz_zero (fun t => gI xs (i + t)) (j - i) (by simpa [show i + (j - i) = j by omega] using hz)
            have HZ0 := Lib.hid hz0
            have hzb : (gI xs j == 0) = true := by simpa using hz
            clear hz hz0
            go_wp2
            go_roundw
            case rel => exact ⟨j + 1, by omega, by omega, by go_num, by rw [show j + 1 - i = j - i + 1 by omega, HZ0.out, HK.out], _, rfl⟩
            case measure => simp [intOf]; omega
          · have hz1 := nz_one (fun t => gI xs (i + t)) (j - i) (by simpa [show i + (j - i) = j by omega] using hz)
            have hpre := nz_prefix (fun t => gI xs (i + t)) (m - i) (j - i) (by omega) (by simpa [show i + (j - i) = j by omega] using hz)
            rw [HL.out, HK.out, show i + (j - i) = j by omega] at hpre
            have hkl : k < L.length := (List.getElem?_eq_some_iff.1 hpre).1
            have hgk : gI L k = gI xs j := by simp [gI, List.getD_eq_getElem?_getD, hpre]
            obtain ⟨lb, lo, rfl, hcl⟩ := hlr.at hkl
            have cl := hcl k hkl
            rw [hgk] at cl
            have HZ1 := Lib.hid hz1
            have hzb : (gI xs j == 0) = false := by simpa using hz
            clear hz hz1 hpre hgk hcl
            have d1 : decide (L.length ≤ k) = false := decide_eq_false (by omega)
            go_wp2
            go_quiet (fail)
            go_wp2
            go_roundw
            case rel => exact ⟨j + 1, by omega, by omega, by go_num, by rw [show j + 1 - i = j - i + 1 by omega, HZ1.out, List.length_append, HK.out]; simp, _, rfl⟩
            case measure => simp [intOf]; omega
        · obtain rfl : j = m := by omega
          have hkL : k = L.length := by rw [← HK.out, HL.out]
          subst hkL
          have hne : ∀ q ∈ [w.heap.size + 1 + 1, w.heap.size + 1 + 1 + 1, w.heap.size + 1 + 1 + 1 + 1], u9.ownBlock ≠ some q := by
            intro q hq e
            have := hob q e
            simp at hq
            omega
          have hown4 := (hown.keep (((Ch.refl _ wr).drewN nq3).trans ch4) hne)
          have hlen := nz_le (fun j => gI xs j) i
          have hszw : w.heap.size + 5 ≤ w4.heap.size := Nat.le_trans hsz ch4.size
          go_wp2_with (at_builtin; refine wpList_append_Own rfl _ _ 22 22 rfl 3 i0 (.int .i64 0) 1 8 Try.underlying22 hi0 hz0 hz1 hz2 rfl _ _ _ rfl (Own.drewN hown4 _) _ L.length _ rfl (Own.src Try.underlying22 (Own.drewN OL.out _) (by intro u hu; obtain ⟨q, _, rfl⟩ := List.mem_map.1 hu; rfl)) ?c1 ?c2 ?_)
          case c1 => unfold maxLen; omega
          case c2 => omega
          intro o' w5 hown5 hch5 hob5
          have hch5' : Ch [] w4 w5 ∨ True := .inr trivial
          go_wp2
          go_roundw
          case rel =>
            have hkeep : ∀ q, q < w.heap.size + 5 → w5.heap[q]? = w4.heap[q]? := fun q hq => hch5.block q (by simp; omega) (fun e => by have := hob q (by simpa using e); omega)
            obtain ⟨g1, g2, g3, g4, g5⟩ := m4
            refine ⟨st + 1, by go_num, by omega, ?_, ?_, ?_, ?_, ?_, ?_⟩
            · rw [← HSM.out]
              exact ⟨(hkeep _ (by omega)).trans g1, (hkeep _ (by omega)).trans g2, (hkeep _ (by omega)).trans g3, (hkeep _ (by omega)).trans g4, fun q hq => (hkeep q (by omega)).trans (g5 q hq)⟩
            · rw [← HSM.out]; exact (hkeep _ (by omega)).trans s4
            · rw [← HSM.out]
              have hadd := nz_add (fun j => gI xs j) i (j - i)
              rw [show i + (j - i) = j by omega, HL.out] at hadd
              rw [hadd]
              simpa using hown5
            · intro q hq
              rcases hob5 with h | h
              · exact hob q (by rw [← h]; exact hq)
              · have := h q hq; have hz : (w4.drewN nq5).heap.size = w4.heap.size := rfl; omega
            · exact Nat.le_trans hszw hch5.size
            · exact hbel.trans (((Ch.refl _ wr).drewN nq3).trans ch4 |>.below (by have := hbel.size; omega) (by simp; omega) |>.trans (((Ch.refl _ w4).drewN nq5).trans hch5 |>.below (by omega) (fun q hq => by have := hob q (by simpa using hq); omega)))
          case measure => simp [intOf]; omega
    · obtain rfl : i = xs.length := by omega
      have hd : ((xs.length : Int) - (xs.length : Int) == 0) = true := by simp
      go_wp2_with fail
      refine (scanDone _ _ _ _ _ hsc (by omega) (by omega) (by omega)).mono ?_; rintro e w3 ⟨rfl, nq3, rfl⟩
      obtain ⟨g1, g2, g3, g4, g5⟩ := hmem
      have k1 := g2.cell 0
      have k2 := g3.cell 0
      go_wp2_with fail
      refine (scanAll 19 [.pointer (some ⟨w.heap.size + 1, 0, none⟩)] xs.length (by omega) (fun j => gI xs j)
        (fun _ w1 => Blk w1 (w.heap.size + 1) #[.slice a xs.length c] 22 ∧ ∀ q, q < w.heap.size → w1.heap[q]? = w.heap[q]?) [] (wr.drewN nq3) (by simp) (fun _ _ => by kernel_rfl) ⟨g2, g5⟩ ?_ ?_).mono ?_
      · rintro q w1 w2 ⟨e1, e2⟩ hb
        exact ⟨Blk.below e1 hb (by simp; omega), fun p hp => (hb.block p (by simp; omega)).trans (e2 p hp)⟩
      · rintro q w1 hq ⟨e1, e2⟩
        refine (wholeLoad (w.heap.size + 1) a xs c w1 q hq hl (hr.same e2) e1).mono ?_
        rintro e w2 ⟨he, rfl⟩
        exact ⟨he, ⟨e1, e2⟩, Ch.refl _ _⟩
      rintro e w5 ⟨whole, rfl, ow, ⟨_, e2⟩, ch5⟩
      have k1' : w5.cell? ⟨w.heap.size + 1, 0, none⟩ = some (.slice a xs.length c) := (Blk.keep (Blk.drewN g2 nq3) ch5 (by simp)).cell 0
      have k2' : w5.cell? ⟨w.heap.size + 1 + 1 + 1, 0, none⟩ = some (.int .i64 xs.length) := (Blk.keep (Blk.drewN g3 nq3) ch5 (by simp)).cell 0
      have hown5 := (Own.drewN hown nq3).keep ch5 (by simp)
      obtain ⟨aa, ac, rfl, _, _, hm1, ra⟩ := hown5.rd
      obtain ⟨ba, bc, rfl, _, _, hm2, rb⟩ := ow.rd
      have hnl := nz_le (fun j => gI xs j) xs.length
      clear k1 k2
      go_wp2_with fail
      refine (told20 _).mono ?_; rintro e w6 ⟨rfl, hc6⟩
      have k1'' : w6.cell? ⟨w.heap.size + 1, 0, none⟩ = some (.slice a xs.length c) := (Blk.keep (Blk.keep (Blk.drewN g2 nq3) ch5 (by simp)) hc6 (by simp)).cell 0
      have k2'' : w6.cell? ⟨w.heap.size + 1 + 1 + 1, 0, none⟩ = some (.int .i64 xs.length) := (Blk.keep (Blk.keep (Blk.drewN g3 nq3) ch5 (by simp)) hc6 (by simp)).cell 0
      clear k1' k2'
      go_wp2_with fail
      refine (ints_same _ _ _ _ _ _ (ra.same fun q hq => hc6.block q hq (by simp)) (rb.same fun q hq => hc6.block q hq (by simp)) (by unfold maxLen; omega)).mono ?_
      rintro e w7 ⟨rfl, nq7, rfl⟩
      go_wp2
      go_ret
      exact ⟨rfl, hbel.trans ((((Ch.refl [] wr).drewN nq3).trans ch5).trans (hc6.trans ((Ch.refl [] w6).drewN nq7)) |>.below (by omega) (by simp))⟩
theorem chunks_long (ad : Int) (a : Option Addr) (len c : Nat) (w : World) (hl : 300 < len) (hl2 : len ≤ maxLen) :
    Calls Try.prog 3 #[.int .i64 ad, .slice a len c] w fun e w' => e = .returned (.bool true) ∧ Below w.heap.size w w' := by
  unfold maxLen at hl2
  go_enter Try.func3, Try.ntmps3
  go_wp2_with fail
  refine (told20 _).mono ?_; rintro e w6 ⟨rfl, hc6⟩
  go_wp2
  go_ret
  exact ⟨rfl, ((((Ch.refl [] w).alloc _).alloc _).trans hc6).below (Nat.le_refl _) (by simp)⟩
end Go.Proofs.Ytebibdoekcophaa
