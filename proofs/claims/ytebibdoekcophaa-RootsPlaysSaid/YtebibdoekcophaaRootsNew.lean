/-
  Contract of roots.New: the jobs of the globals, eight at a time, then the goroutines' stacks. Conditions: at most 1000 globals and 1000 goroutines.
-/
import Derived.Test.YtebibdoekcophaaRootsAdd
namespace Go.Proofs.Ytebibdoekcophaa
open Go.RowKit
/-- The k-th job of so many globals. -/
def gJob (gl : Int) (k : Nat) : Job := (-1, 8 * (k : Int), if gl < 8 * (k : Int) + 8 then gl else 8 * (k : Int) + 8)
def gJobs (gl : Int) (k : Nat) : List Job := (List.range k).map (gJob gl)
def sJobs (gs : List Int) : List Job := gs.map fun g => (g, 0, 16)
/-- How many jobs the globals come to. -/
def gCount (gl : Int) : Nat := (gl.toNat + 7) / 8
theorem gJobs_len (gl : Int) (k : Nat) : (gJobs gl k).length = k := by simp [gJobs]
theorem gJobs_succ (gl : Int) (k : Nat) : gJobs gl (k + 1) = gJobs gl k ++ [gJob gl k] := by simp [gJobs, List.range_succ]
theorem sJobs_len (gs : List Int) : (sJobs gs).length = gs.length := by simp [sJobs]
theorem sJobs_take (gs : List Int) (k : Nat) (h : k < gs.length) : sJobs (gs.take (k + 1)) = sJobs (gs.take k) ++ [(gI gs k, 0, 16)] := by
  rw [List.take_succ_eq_append_getElem h, gI_at gs k h]; simp only [sJobs, List.map_append, List.map_cons, List.map_nil]
set_option maxHeartbeats 1000000 in
theorem rootsNew (gl : Int) (a : Option Addr) (gs : List Int) (c : Nat) (w : World) (hg : gl ≤ 1000) (hl : gs.length ≤ 1000) (hr : Rd w a gs) (hwf : -9223372036854775808 ≤ gl) :
    Calls Try.prog 25 #[.int .i64 gl, .slice a gs.length c] w fun e w' =>
      e = .returned (.pointer (some ⟨w.heap.size, 0, none⟩)) ∧ ∃ v, RootsAt w' w.heap.size v (gJobs gl (gCount gl) ++ sJobs gs) ∧ (∀ k, v.ownBlock = some k → w.heap.size < k) ∧ Ch [] w w' := by
  obtain ⟨i0, hi0, hz0, hz1, hz2⟩ := info_parts Try.infoJob
  go_enter Try.func25, Try.ntmps25
  go_wp2_with fail
  refine wp_named fun W hW => ?_
  have hb0 : RootsAt W w.heap.size (.slice none 0 0) [] := by rw [hW]; exact ⟨Blk.new _ _ _, Own.nil _ _ _⟩
  have hc0 : Ch [] w W := by rw [hW]; exact (Ch.refl _ _).alloc _
  clear hW
  have hz := hb0.1.lt
  have hgc : 8 * gCount gl < gl.toNat + 8 ∧ gl.toNat ≤ 8 * gCount gl := by unfold gCount; omega
  go_loopw [6] (fun s6 wr => ∃ (k : Nat) (v : Value), s6 = .int .i64 (8 * (k : Int)) ∧ k ≤ gCount gl ∧ RootsAt wr w.heap.size v (gJobs gl k) ∧ (∀ q, v.ownBlock = some q → w.heap.size < q) ∧ Ch [] w wr) (fun s6 _ => (gl - intOf s6).toNat)
  case atStart => exact ⟨0, _, rfl, by omega, hb0, by simp [Value.ownBlock], hc0⟩
  case round =>
    obtain ⟨k, v, rfl, hk, hR, hv, hc⟩ := hrel
    clear hb0 hc0
    obtain ⟨hB, hO⟩ := hR
    rw [gJobs_len] at hO
    obtain ⟨va, vc, rfl, _⟩ := hO.form
    have cb := hB.cell 0
    have hkk : k ≤ 126 := by omega
    by_cases hlt : 8 * (k : Int) < gl
    · have hj := Lib.hid (gJobs_succ gl k)
      have hbig : k + 1 ≤ gCount gl := by omega
      obtain ⟨m, hm⟩ : ∃ m, (if gl < 8 * (k : Int) + 8 then gl else 8 * (k : Int) + 8) = m := ⟨_, rfl⟩
      have hmm : gJob gl k = (-1, 8 * (k : Int), m) := by rw [← hm]; rfl
      have HMM := Lib.hid hmm
      clear hmm
      have hown1 := hO.alloc (.cells #[.int .i64 (-1), .int .i64 (8 * (k : Int)), .int .i64 m] 41)
      have hb1 : Blk (wr.alloc (.cells #[.int .i64 (-1), .int .i64 (8 * (k : Int)), .int .i64 m] 41)) w.heap.size #[.slice va k vc] 55 := hB.alloc _
      have hne : w.heap.size ∉ (Value.slice va k vc).ownBlock.toList := fun h => by have := hv _ (by simpa using h); omega
      go_wp2_with (at_builtin; refine wpList_append_Own rfl _ _ 46 46 rfl 41 i0 (.agg #[.int .i64 0, .int .i64 0, .int .i64 0]) 3 24 Try.underlying46 hi0 hz0 hz1 hz2 rfl (.slice va k vc) _ (flat (gJobs gl k)) rfl hown1 _ 1 _ rfl (Src_lit Try.underlying46 _ (flat [(-1, 8 * (k : Int), m)]) 3 1 rfl _ (flat_one _)) (by unfold maxLen; omega) (by omega) ?_)
      intro v' w2 hown2 hc2 hf2
      have hb2 := hb1.keep hc2 hne
      have cb2 := hb2.cell 0
      have fb2 := hb2.frozen 0
      obtain ⟨va2, vc2, rfl, _⟩ := hown2.form
      clear cb
      go_wp2
      go_roundw
      case rel =>
        refine ⟨k + 1, .slice va2 (k + 1) vc2, by congr 1, hbig, ⟨by simpa using hb2.set 0 (.slice va2 (k + 1) vc2), ?_⟩, ?_, ?_⟩
        · rw [hj.out, flat_append, HMM.out, List.length_append, gJobs_len, List.length_singleton]
          exact hown2.keep ((Ch.refl [w.heap.size] w2).setCell (.inl (by simp)) _) (fun q hq e => by
            simp only [List.mem_singleton] at hq
            subst hq
            exact hown2.neBlk hb2 (by decide) e)
        · intro q hq
          rcases hf2 with h | h
          · exact hv q (by rw [← h]; exact hq)
          · have := h q hq; have := hc.size; simp at *; omega
        · exact ((hc.alloc (.cells #[.int .i64 (-1), .int .i64 (8 * (k : Int)), .int .i64 m] 41)).transT hc2 (fun q hq => .inr (by have := hv q (by simpa using hq); omega))).setCell (.inr (Nat.le_refl _)) _
      case measure => simp [intOf]; omega
    · obtain rfl : k = gCount gl := by omega
      clear cb
      go_wp2
      have hJ : (gJobs gl (gCount gl)).length = gCount gl := gJobs_len _ _
      go_loopw [32] (fun s32 wq => ∃ (q : Nat) (v : Value), s32 = .int .i64 q ∧ q ≤ gs.length ∧ Blk wq w.heap.size #[v] 55 ∧ Own wq 41 3 v (gCount gl + q) (flat (gJobs gl (gCount gl) ++ sJobs (gs.take q))) ∧ (∀ x, v.ownBlock = some x → w.heap.size < x) ∧ Ch [] w wq) (fun s32 _ => gs.length - (intOf s32).toNat)
      case atStart => exact ⟨0, _, rfl, by omega, hB, by simpa [sJobs] using hO, hv, hc⟩
      case round =>
        clear hB hO hv hc
        obtain ⟨q, v, rfl, hq, hB, hO, hv, hc⟩ := hrel
        obtain ⟨va, vc, rfl, _⟩ := hO.form
        have HJ := Lib.hid hJ
        clear hJ
        by_cases hql : q < gs.length
        · obtain ⟨ga, go, rfl, hgc'⟩ := hr.at hql
          have hgl : ga < w.heap.size := World.block_lt_of_cell? w ⟨ga, go + q, none⟩ (hgc' q hql)
          have hcell : ∀ X, Ch [] w X → X.cell? ⟨ga, go + q, none⟩ = some (.int .i64 (gI gs q)) := fun X hX => by
            rw [World.cell?_of_block (w := w) (hX.block ga hgl (by simp))]; exact hgc' q hql
          have HC := Lib.hid hcell
          clear hgc' hcell
          obtain ⟨S, hS⟩ : ∃ S : World → Prop, ∀ w', S w' ↔ (w'.cell? ⟨w.heap.size, 0, none⟩ = some (.slice va (gCount gl + q) vc) ∧ w'.cell? ⟨ga, go + q, none⟩ = some (.int .i64 (gI gs q))) := ⟨_, fun _ => Iff.rfl⟩
          have hS0 : S (wr.drewN 1) := (hS _).2 ⟨hB.cell 0, HC.out _ (hc.drewN 1)⟩
          have hS1 : ∀ x : { w' : World // S w' }, x.1.cell? ⟨w.heap.size, 0, none⟩ = some (.slice va (gCount gl + q) vc) := fun x => ((hS _).1 x.2).1
          have hS2 : ∀ x : { w' : World // S w' }, x.1.cell? ⟨ga, go + q, none⟩ = some (.int .i64 (gI gs q)) := fun x => ((hS _).1 x.2).2
          have hSA : Nonempty { w' : World // S w' } := ⟨⟨_, hS0⟩⟩
          have HS := Lib.hid hS
          clear hS
          go_upto_region 9 with fail
          refine wp_region_mix (Cls S) [0, 1, 2, 3, 4, 5, 6, 7, 8] [9, 10, 11] [12, 13, 14] (by kernel_rfl) (by kernel_rfl) (fun _ _ _ _ _ h => h) (Cls.mk hS0) ?_
          simp only [pickOps, List.map_cons, List.map_nil, List.getD_cons_zero, List.getD_cons_succ]
          repeat (refine wpYield_stepS (fun K hK => ?_); go_simp; refine hK _ ?_; clear hK K)
          refine wpYield_nil ?_
          clear hS1 hS2 hSA
          refine wpKeep_step rfl (fun K hK => ?_)
          go_simp
          refine (rootsStack _ _).mono ?_; rintro e w2 ⟨rfl, hc2⟩
          have hB2 : Blk w2 w.heap.size #[.slice va (gCount gl + q) vc] 55 := Blk.keep (hB.drewN 1) hc2 (by simp)
          have hO2 : Own w2 41 3 (.slice va (gCount gl + q) vc) (gCount gl + q) (flat (gJobs gl (gCount gl) ++ sJobs (gs.take q))) := Own.keep (hO.drewN 1) hc2 (by simp)
          have hcc2 : Ch [] w w2 := (hc.drewN 1).trans hc2
          refine hK _ _ ⟨Cls.mk ((HS.out _).2 ⟨hB2.cell 0, HC.out _ hcc2⟩), ?_⟩
          clear hK K
          refine wpKeep_step rfl (fun K hK => ?_)
          go_simp
          have hc3 : Ch [] w2 (w2.alloc (.cells #[.int .i64 (gI gs q), .int .i64 0, .int .i64 16] 41)) := (Ch.refl _ _).alloc _
          have hB3 := hB2.keep hc3 (by simp)
          have hO3 := hO2.keep hc3 (by simp)
          have hcc3 := hcc2.trans hc3
          refine hK _ _ ⟨Cls.mk ((HS.out _).2 ⟨hB3.cell 0, HC.out _ hcc3⟩), ?_⟩
          clear hK K
          refine wpKeep_step rfl (fun K hK => ?_)
          refine wp_append_Own _ _ 46 46 rfl 41 i0 (.agg #[.int .i64 0, .int .i64 0, .int .i64 0]) 3 24 Try.underlying46 hi0 hz0 hz1 hz2 rfl (.slice va (gCount gl + q) vc) (gCount gl + q) (flat (gJobs gl (gCount gl) ++ sJobs (gs.take q))) rfl hO3 _ 1 _ rfl (Src_lit Try.underlying46 _ (flat [(gI gs q, 0, 16)]) 3 1 rfl _ (flat_one _)) (by unfold maxLen; omega) (by omega) ?_
          intro v' w4 hown4 hc4 hf4
          have hbne : w.heap.size ∉ (Value.slice va (gCount gl + q) vc).ownBlock.toList := fun h => by have := hv _ (by simpa using h); omega
          have hB4 := hB3.keep hc4 hbne
          have hcc4 : Ch [] w w4 := hcc3.transT hc4 (fun x hx => .inr (by have := hv x (by simpa using hx); omega))
          refine hK _ _ ⟨Cls.mk ((HS.out _).2 ⟨hB4.cell 0, HC.out _ hcc4⟩), ?_⟩
          clear hK K
          refine wpKeep_nil ?_
          have f4 := hB4.frozen 0
          have k4 := hB4.cell 0
          obtain ⟨a4, cap4, rfl, _⟩ := hown4.form
          go_wp2
          go_roundw
          case rel =>
            refine ⟨q + 1, .slice a4 (gCount gl + q + 1) cap4, by go_num, by omega, by simpa using hB4.set 0 (.slice a4 (gCount gl + q + 1) cap4), ?_, ?_, ?_⟩
            · rw [sJobs_take gs q hql, ← List.append_assoc, flat_append _ [(gI gs q, 0, 16)], show gCount gl + (q + 1) = gCount gl + q + 1 by omega]
              exact hown4.keep ((Ch.refl [w.heap.size] w4).setCell (.inl (by simp)) _) (fun x hx e => by
                simp only [List.mem_singleton] at hx
                subst hx
                exact hown4.neBlk hB4 (by decide) e)
            · intro x hx
              rcases hf4 with h | h
              · exact hv x (by rw [← h]; exact hx)
              · exact Nat.lt_of_lt_of_le (Nat.lt_of_lt_of_le hB.lt (Nat.le_trans hc2.size hc3.size)) (h x hx)
            · exact hcc4.setCell (.inr (Nat.le_refl _)) _
          case measure => simp [intOf]; omega
        · obtain rfl : q = gs.length := by omega
          go_wp2
          go_ret
          refine ⟨rfl, _, ⟨hB, ?_⟩, hv, hc⟩
          rw [List.take_length] at hO
          rw [List.length_append, HJ.out, sJobs_len]
          exact hO
end Go.Proofs.Ytebibdoekcophaa
