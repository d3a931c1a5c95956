/-
  Contracts of package scan.
-/
import Derived.Test.YtebibdoekcophaaChecked
import Derived.Test.YtebibdoekcophaaMem
import Derived.Test.YtebibdoekcophaaInfo
import Derived.ProofKit
import Derived.OpenShut
import Derived.Deep.QuietTactic
import Derived.BigQuiet
import Derived.StillTailTactics
import Derived.Deep.DeepCutAuto
namespace Go.Proofs.Ytebibdoekcophaa
open Go.RowKit

def ScanAt (w : World) (b : Nat) (a n i : Int) : Prop := Blk w b #[.int .i64 a, .int .i64 n, .int .i64 i] 53

theorem scanNew (a n : Int) (w : World) : Calls Try.prog 13 #[.int .i64 a, .int .i64 n] w fun e w' =>
    e = .returned (.pointer (some ⟨w.heap.size, 0, none⟩)) ∧ w' = w.alloc (.cells #[.int .i64 a, .int .i64 (max n 0), .int .i64 0] 53) := by
  go_enter Try.func13, Try.ntmps13
  go_wp2
  all_goals (go_ret; exact ⟨rfl, by first | rw [Int.max_eq_right (by omega)] | rw [Int.max_eq_left (by omega)]⟩)
theorem scanLeftNil (w : World) : Calls Try.prog 17 #[.pointer none] w fun e w' => e = .returned (.int .i64 0) ∧ w' = w := by
  go_enter Try.func17, Try.ntmps17
  go_wp2
  go_ret
  exact ⟨rfl, rfl⟩
theorem scanLeft (b : Nat) (a n i : Int) (w : World) (h : ScanAt w b a n i) (h0 : 0 ≤ i) (h1 : i ≤ n) (h2 : n ≤ 9223372036854775807) :
    Calls Try.prog 17 #[.pointer (some ⟨b, 0, none⟩)] w fun e w' => e = .returned (.int .i64 (n - i)) ∧ ∃ nq, w' = w.drewN nq := by
  have c1 := Blk.cell h 1
  have c2 := Blk.cell h 2
  go_enter Try.func17, Try.ntmps17
  go_wp2
  go_quiet (fail)
  go_wp2
  go_ret
  exact ⟨rfl, _, rfl⟩
/-- What the first n numbers that are not 0 are. -/
def nz (v : Nat → Int) (n : Nat) : List Int := ((List.range n).map v).filter (fun x => x != 0)
theorem nz_zero (v : Nat → Int) (k : Nat) (h : v k = 0) : nz v (k + 1) = nz v k := by
  simp [nz, List.range_succ, h]
theorem nz_one (v : Nat → Int) (k : Nat) (h : ¬ v k = 0) : nz v (k + 1) = nz v k ++ [v k] := by
  simp [nz, List.range_succ, h]
theorem nz_le (v : Nat → Int) (k : Nat) : (nz v k).length ≤ k := by
  unfold nz
  exact Nat.le_trans (List.length_filter_le _ _) (by simp)
theorem scanAll (F : Nat) (caps : List Value) (n : Nat) (hn : n ≤ 1000) (v : Nat → Int) (I : Nat → World → Prop) (S : List Nat) (w : World) (hS : ∀ s ∈ S, s < w.heap.size)
    (hF : ∀ args w', (callFunc F args).run Try.prog w' = .ok (.enter F args) w')
    (hI0 : I 0 w) (hIs : ∀ i w1 w2, I i w1 → Below w.heap.size w1 w2 → I i w2)
    (hI : ∀ (i : Nat) w1, i < n → I i w1 → Calls Try.prog F (Value.int .i64 i :: caps).toArray w1 fun e w2 => e = .returned (.int .i64 (v i)) ∧ I (i + 1) w2 ∧ Ch S w1 w2) :
    Calls Try.prog 18 #[.int .i64 n, .func (.func F) #[] caps.toArray] w fun e w' =>
      ∃ v', e = .returned v' ∧ Own w' 3 1 v' (nz v n).length ((nz v n).map (Value.int .i64)) ∧ I n w' ∧ Ch S w w' := by
  have HI := Lib.hid hI
  have HIs := Lib.hid hIs
  obtain ⟨i0, hi, hz0, hz1, hz2⟩ := info_parts Try.infoInt
  clear hI hIs
  go_enter Try.func18, Try.ntmps18
  go_wp2
  go_loopw [5, 10] (fun o i wr => ∃ k : Nat, k ≤ n ∧ i = .int .i64 k ∧ I k wr ∧ Own wr 3 1 o (nz v k).length ((nz v k).map (Value.int .i64)) ∧ (∀ b, o.ownBlock = some b → w.heap.size ≤ b) ∧ Ch S w wr) (fun _ i _ => n - (intOf i).toNat)
  case atStart => exact ⟨0, by omega, rfl, hI0, Own.nil _ _ _, by simp [Value.ownBlock], Ch.refl _ _⟩
  case round =>
    obtain ⟨k, hk, rfl, hIk, hown, hob, hch⟩ := hrel
    by_cases hlt : k < n
    · by_cases hz : v k = 0
      · go_wp2_with fail
        refine (HI.out k _ hlt hIk).mono ?_; rintro e w1 ⟨rfl, hI1, hc1⟩
        have hn := nz_zero v k hz
        go_wp2_with fail
        go_roundw
        case rel => exact ⟨k + 1, by omega, by go_num, hI1, by rw [hn]; exact hown.keep hc1 (fun s hs e => by have := hob s e; have := hS s hs; omega), hob, hch.trans hc1⟩
        case measure => simp [intOf]; omega
      · go_wp2_with fail
        refine (HI.out k _ hlt hIk).mono ?_; rintro e w1 ⟨rfl, hI1, hc1⟩
        have hnz := Lib.hid (nz_one v k hz)
        have hz' : (!(v k == 0)) = true := by simpa using hz
        have hown1 := hown.keep hc1 (fun s hs e => by have := hob s e; have := hS s hs; omega)
        have hle := nz_le v k
        go_wp2_with (at_builtin; refine wpList_append_Own rfl _ _ 22 22 rfl 3 i0 (.int .i64 0) 1 8 Try.underlying22 hi hz0 hz1 hz2 rfl _ _ _ rfl (hown1.alloc _) _ 1 [.int .i64 (v k)] rfl (Src_lit Try.underlying22 _ [_] 1 1 rfl _ (mem_one rfl)) ?c1 ?c2 ?_)
        case c1 => unfold maxLen; omega
        case c2 => omega
        intro o' w2 hown2 hch2 hob2
        have hbel : Below w.heap.size w1 w2 := ((((Ch.refl u5.ownBlock.toList w1).alloc (.cells #[.int .i64 (v k)] 3)).trans hch2).below (Nat.le_trans hch.size hc1.size) (fun b hb => hob b (by simpa using hb)))
        have hch3 := ((hch.trans hc1).alloc (.cells #[.int .i64 (v k)] 3)).transT hch2 (fun b hb => .inr (hob b (by simpa using hb)))
        go_wp2
        go_roundw
        case rel =>
          refine ⟨k + 1, by omega, by go_num, HIs.out _ _ _ hI1 hbel, ?_, ?_, ?_⟩
          · rw [hnz.out]; simpa using hown2
          · intro b hb
            rcases hob2 with h | h
            · exact hob b (by rw [← h]; exact hb)
            · have := h b hb; have := hch.size; have := hc1.size; simp at *; omega
          · exact hch3
        case measure => simp [intOf]; omega
    · go_wp2
      go_ret
      obtain rfl : k = n := by omega
      exact ⟨_, rfl, hown, hIk, hch⟩

/-- The closure in Step: load(s.addr, from+i). bl, bs, bf: the boxes of load, s, from; b: the scan. -/
theorem scanStepF (F : Nat) (caps : List Value) (bl bs bf b : Nat) (a n at' fr i v : Int) (w : World) (I' : World → Prop) (S : List Nat)
    (hF : ∀ args w', (callFunc F args).run Try.prog w' = .ok (.enter F args) w')
    (h1 : Blk w bl #[.func (.func F) #[] caps.toArray] 26) (h2 : Blk w bs #[.pointer (some ⟨b, 0, none⟩)] 24) (h3 : Blk w bf #[.int .i64 fr] 3)
    (h4 : ScanAt w b a n at') (hi0 : 0 ≤ fr) (hi1 : 0 ≤ i) (hi2 : fr + i ≤ 1000)
    (hload : ∀ w1, (∃ n, w1 = w.drewN n) → Calls Try.prog F (Value.int .i64 a :: Value.int .i64 (fr + i) :: caps).toArray w1 fun e w2 => e = .returned (.int .i64 v) ∧ I' w2 ∧ Ch S w w2) :
    Calls Try.prog 42 #[.int .i64 i, .pointer (some ⟨bl, 0, none⟩), .pointer (some ⟨bs, 0, none⟩), .pointer (some ⟨bf, 0, none⟩)] w fun e w' =>
      e = .returned (.int .i64 v) ∧ I' w' ∧ Ch S w w' := by
  have c1 := h1.cell 0
  have c2 := h2.cell 0
  have c3 := h3.cell 0
  have c4 := Blk.cell h4 0
  have HL := Lib.hid hload
  clear hload
  go_enter Try.func42, Try.ntmps42
  go_wp2
  have q1 : IntKind.i64.wrap (fr + i) = fr + i := IntWalk.i64_in _ (by omega)
  refine wp_region_tail 8 (by kernel_rfl) (by kernel_rfl) ?_
  simp only [List.take_succ_cons, List.take_zero, List.drop_succ_cons, List.drop_zero]
  repeat still_step
  refine wpStill_nil ?_
  clear q1
  go_wp2_with fail
  refine (HL.out _ ⟨1, rfl⟩).mono ?_; rintro e w2 ⟨rfl, hI, hc⟩
  go_wp2
  go_ret
  exact ⟨rfl, hI, hc⟩

theorem scanStepNil (w : World) (F : Nat) (caps : List Value) : Calls Try.prog 16 #[.pointer none, .func (.func F) #[] caps.toArray] w fun e w' => e = .returned (.slice none 0 0) ∧ Ch [] w w' := by
  go_enter Try.func16, Try.ntmps16
  go_wp2
  go_ret
  exact ⟨rfl, ((Ch.refl [] w).alloc _).alloc _⟩
/-- Where a chunk from i on ends. -/
def chunkEnd (n i : Nat) : Nat := if n < i + 16 then n else i + 16
theorem chunkEnd_le (n i : Nat) (h : i ≤ n) : i ≤ chunkEnd n i ∧ chunkEnd n i ≤ n := by unfold chunkEnd; split <;> omega
theorem scanStep (F : Nat) (caps : List Value) (b : Nat) (a : Int) (n i : Nat) (v : Nat → Int) (I : Nat → World → Prop) (S : List Nat) (w : World)
    (hF : ∀ args w', (callFunc F args).run Try.prog w' = .ok (.enter F args) w') (h : ScanAt w b a n i) (h1 : i ≤ n) (h2 : n ≤ 300)
    (hS : ∀ s ∈ S, s < w.heap.size) (hSb : b ∉ S) (hI0 : I i w)
    (hIs : ∀ k w1 w2, I k w1 → (∀ q, q < w.heap.size → q ≠ b → w2.heap[q]? = w1.heap[q]?) → I k w2)
    (hI : ∀ (k : Nat) w1, i ≤ k → k < chunkEnd n i → I k w1 → Calls Try.prog F (Value.int .i64 a :: Value.int .i64 k :: caps).toArray w1 fun e w2 => e = .returned (.int .i64 (v k)) ∧ I (k + 1) w2 ∧ Ch S w1 w2) :
    Calls Try.prog 16 #[.pointer (some ⟨b, 0, none⟩), .func (.func F) #[] caps.toArray] w fun e w' =>
      ∃ v', e = .returned v' ∧ Own w' 3 1 v' (nz (fun j => v (i + j)) (chunkEnd n i - i)).length ((nz (fun j => v (i + j)) (chunkEnd n i - i)).map (Value.int .i64)) ∧
        ScanAt w' b a n (chunkEnd n i) ∧ I (chunkEnd n i) w' ∧ Ch (b :: S) w w' := by
  have c1 := Blk.cell h 1
  have c2 := Blk.cell h 2
  have f2 := Blk.frozen h 2
  have hlt := Blk.lt h
  have q1 : IntKind.i64.wrap ((i : Int) + 16) = (i : Int) + 16 := IntWalk.i64_in _ (by omega)
  obtain ⟨m, hm⟩ : ∃ m, chunkEnd n i = m := ⟨_, rfl⟩
  have hmi : (if (n : Int) < (i : Int) + 16 then (n : Int) else (i : Int) + 16) = (m : Int) := by
    rw [← hm]; unfold chunkEnd; split <;> split <;> omega
  obtain ⟨m1, m2⟩ := chunkEnd_le n i h1
  rw [hm] at hI m1 m2 ⊢
  have HI := Lib.hid hI
  have HIs := Lib.hid hIs
  have HM := Lib.hid hmi
  clear hI hIs hm hmi
  go_enter Try.func16, Try.ntmps16
  go_wp2
  refine wp_named fun W hW => ?_
  have e1 : Blk W w.heap.size #[.pointer (some ⟨b, 0, none⟩)] 24 := by rw [hW]; exact ((Blk.new' rfl _ _).alloc _).alloc _
  have e2 : Blk W (w.heap.size + 1) #[.func (.func F) #[] caps.toArray] 26 := by rw [hW]; exact (Blk.new' (by simp) _ _).alloc _
  have e3 : Blk W (w.heap.size + 1 + 1) #[.int .i64 i] 3 := by rw [hW]; exact Blk.new' (by simp) _ _
  have e4 : ScanAt W b a n i := by rw [hW]; exact ((Blk.alloc h _).alloc _).alloc _
  have hc : Ch [] w W := by rw [hW]; exact (((Ch.refl _ _).alloc _).alloc _).alloc _
  clear hW
  have k1 := e1.cell 0
  have k2 := Blk.cell e4 1
  have k3 := Blk.cell e4 2
  have k4 := Blk.frozen e4 2
  clear c1 c2 f2
  refine wp_region_tail 13 (by kernel_rfl) (by kernel_rfl) ?_
  simp only [List.take_succ_cons, List.take_zero, List.drop_succ_cons, List.drop_zero]
  have hmi := HM.out
  repeat still_step
  refine wpStill_nil ?_
  clear hmi q1
  go_wp2
  clear k1 k2 k3 k4
  refine wp_named fun X hX => ?_
  have e5 : ScanAt X b a n m := by rw [hX]; exact Blk.set (Blk.drewN e4 1) 2 _
  have e6 : Blk X w.heap.size #[.pointer (some ⟨b, 0, none⟩)] 24 := by rw [hX]; exact (e1.drewN 1).setOther (by simp; omega) _
  have e7 : Blk X (w.heap.size + 1) #[.func (.func F) #[] caps.toArray] 26 := by rw [hX]; exact (e2.drewN 1).setOther (by simp; omega) _
  have e8 : Blk X (w.heap.size + 1 + 1) #[.int .i64 i] 3 := by rw [hX]; exact (e3.drewN 1).setOther (by simp; omega) _
  have hc2 : Ch [b] w X := by rw [hX]; exact ((hc.mono (by simp)).drewN 1).setCell (.inl (by simp)) _
  clear hX e1 e2 e3 e4 hc
  have k1 := e6.cell 0
  have k2 := Blk.cell e5 2
  have k3 := e8.cell 0
  have q1 : IntKind.i64.wrap ((m : Int) - (i : Int)) = ((m - i : Nat) : Int) := by rw [IntWalk.i64_in _ (by omega)]; omega
  refine wp_region_tail 7 (by kernel_rfl) (by kernel_rfl) ?_
  simp only [List.take_succ_cons, List.take_zero, List.drop_succ_cons, List.drop_zero]
  repeat still_step
  refine wpStill_nil ?_
  clear q1 k1 k2 k3
  have hs7 := e7.lt; have hs6 := e6.lt; have hs8 := e8.lt
  go_wp2_with fail
  refine (scanAll 42 [.pointer (some ⟨w.heap.size + 1, 0, none⟩), .pointer (some ⟨w.heap.size, 0, none⟩), .pointer (some ⟨w.heap.size + 1 + 1, 0, none⟩)] (m - i) (by omega) (fun j => v (i + j))
    (fun k w1 => I (i + k) w1 ∧ ScanAt w1 b a n m ∧ Blk w1 w.heap.size #[.pointer (some ⟨b, 0, none⟩)] 24 ∧ Blk w1 (w.heap.size + 1) #[.func (.func F) #[] caps.toArray] 26 ∧ Blk w1 (w.heap.size + 1 + 1) #[.int .i64 i] 3) S (X.drewN 1)
    (fun s hs => Nat.lt_of_lt_of_le (hS s hs) hc2.size) (fun _ _ => by kernel_rfl)
    ⟨HIs.out _ _ _ hI0 (fun q hq hqb => hc2.block q hq (by simpa using hqb)), e5, e6, e7, e8⟩ ?_ ?_).mono ?_
  · rintro k w1 w2 ⟨g1, g2, g3, g4, g5⟩ hb
    exact ⟨HIs.out _ _ _ g1 (fun q hq _ => hb.block q (Nat.lt_of_lt_of_le hq hc2.size)), Blk.below g2 hb (Nat.lt_of_lt_of_le hlt hc2.size), Blk.below g3 hb hs6, Blk.below g4 hb hs7, Blk.below g5 hb hs8⟩
  · rintro k w1 hk ⟨g1, g2, g3, g4, g5⟩
    refine (scanStepF F caps (w.heap.size + 1) w.heap.size (w.heap.size + 1 + 1) b a n m i k (v (i + k)) w1 (I (i + k + 1)) S hF g4 g3 g5 g2 (by omega) (by omega) (by omega) ?_).mono ?_
    · rintro w2 ⟨nq, rfl⟩
      have := HI.out (i + k) (w1.drewN nq) (by omega) (by omega) (HIs.out _ _ _ g1 (fun _ _ _ => rfl))
      rw [show ((i : Int) + (k : Int)) = ((i + k : Nat) : Int) by omega]
      exact this.mono fun e w3 ⟨he, h3, h4⟩ => ⟨he, h3, ((Ch.refl S w1).drewN nq).trans h4⟩
    · rintro e w2 ⟨he, h3, h4⟩
      exact ⟨he, ⟨h3, Blk.keep g2 h4 hSb, g3.keep h4 (fun hx => by have := hS _ hx; omega), g4.keep h4 (fun hx => by have := hS _ hx; omega), g5.keep h4 (fun hx => by have := hS _ hx; omega)⟩, h4⟩
  · rintro e w3 ⟨v', rfl, hown, ⟨hI3, hsc, _⟩, hc3⟩
    rw [show i + (m - i) = m by omega] at hI3
    go_wp2
    go_ret
    exact ⟨v', rfl, hown, hsc, hI3, hc2.mono (by simp) |>.trans (((Ch.refl _ X).drewN 1).trans (hc3.mono (fun k hk => .inl (List.mem_cons_of_mem _ hk))))⟩
end Go.Proofs.Ytebibdoekcophaa
