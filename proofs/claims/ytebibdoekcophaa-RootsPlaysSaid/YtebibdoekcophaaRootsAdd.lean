/-
  Contracts of package roots: Add, New. Conditions: none beyond what each theorem names.
-/
import Derived.Test.YtebibdoekcophaaRoots
import Derived.Test.YtebibdoekcophaaMix
namespace Go.Proofs.Ytebibdoekcophaa
open Go.RowKit
theorem rootsAddNot (b : Nat) (v : Value) (js : List Job) (g : Int) (w : World) (h : RootsAt w b v js) (hl : js.length ≤ 100000) (hh : ¬ jobHas js g) :
    Calls Try.prog 40 #[.pointer (some ⟨b, 0, none⟩), .int .i64 g] w fun e w' => e = .returned (.tuple #[]) ∧
      ∃ v', RootsAt w' b v' (js ++ [(g, 0, 16)]) ∧ Ch (b :: v.ownBlock.toList) w w' ∧ (v'.ownBlock = v.ownBlock ∨ ∀ k, v'.ownBlock = some k → w.heap.size ≤ k) := by
  obtain ⟨i0, hi0, hz0, hz1, hz2⟩ := info_parts Try.infoJob
  obtain ⟨a, cap, rfl, _⟩ := h.2.form
  have cb := h.1.cell 0
  have hlt := h.1.lt
  go_enter Try.func40, Try.ntmps40
  go_wp2_with fail
  have h' : RootsAt (w.alloc (.cells #[.int .i64 g] 3)) b (.slice a js.length cap) js := h.keep ((Ch.refl [] w).alloc _) (by simp) (by simp)
  refine (rootsContains _ js w.heap.size g _ h'.2 (Blk.new _ _ _) hl).mono ?_; rintro e w1 ⟨r, rfl, hr, hc⟩
  obtain rfl : r = false := by cases r with | false => rfl | true => exact absurd (hr.1 rfl) hh
  go_upto_region 2 with fail
  have hc' := ((Ch.refl [] w).alloc (.cells #[.int .i64 g] 3)).trans hc
  have h1 := h.keep hc' (by simp) (by simp)
  have cg : w1.cell? ⟨w.heap.size, 0, none⟩ = some (.int .i64 g) := (Blk.keep (Blk.new _ _ _) hc (by simp)).cell 0
  have cb1 := h1.1.cell 0
  clear cb
  obtain ⟨S, hS⟩ : ∃ S : World → Prop, ∀ w', S w' ↔ (w'.cell? ⟨b, 0, none⟩ = some (.slice a js.length cap) ∧ w'.cell? ⟨w.heap.size, 0, none⟩ = some (.int .i64 g)) := ⟨_, fun _ => Iff.rfl⟩
  have hS0 : S (w1.drewN 1) := (hS _).2 ⟨cb1, cg⟩
  have hS1 : ∀ x : { w' : World // S w' }, x.1.cell? ⟨b, 0, none⟩ = some (.slice a js.length cap) := fun x => ((hS _).1 x.2).1
  have hS2 : ∀ x : { w' : World // S w' }, x.1.cell? ⟨w.heap.size, 0, none⟩ = some (.int .i64 g) := fun x => ((hS _).1 x.2).2
  have hSA : Nonempty { w' : World // S w' } := ⟨⟨_, hS0⟩⟩
  have HS := Lib.hid hS
  have gg : Blk w1 w.heap.size #[.int .i64 g] 3 := Blk.keep (Blk.new _ _ _) hc (by simp)
  clear cb1 cg hS
  refine wp_region_mix (Cls S) [0, 1, 2, 3, 4, 5] [6, 7, 8] [9, 10, 11] (by kernel_rfl) (by kernel_rfl) (fun _ _ _ _ _ h => h) (Cls.mk hS0) ?_
  simp only [pickOps, List.map_cons, List.map_nil, List.getD_cons_zero, List.getD_cons_succ]
  repeat (refine wpYield_stepS (fun K hK => ?_); go_simp; refine hK _ ?_; clear hK K)
  refine wpYield_nil ?_
  clear hS1 hS2 hSA
  refine wpKeep_step rfl (fun K hK => ?_)
  go_simp
  refine (rootsStack g _).mono ?_; rintro e w2 ⟨rfl, hc2⟩
  have h2 : RootsAt w2 b (.slice a js.length cap) js := RootsAt.keep (RootsAt.drewN h1 1) hc2 (by simp) (by simp)
  have g2 : Blk w2 w.heap.size #[.int .i64 g] 3 := Blk.keep (Blk.drewN gg 1) hc2 (by simp)
  refine hK _ _ ⟨Cls.mk ((HS.out _).2 ⟨h2.1.cell 0, g2.cell 0⟩), ?_⟩
  clear hK K
  refine wpKeep_step rfl (fun K hK => ?_)
  go_simp
  have hc3 : Ch [] w2 (w2.alloc (.cells #[.int .i64 g, .int .i64 0, .int .i64 16] 41)) := (Ch.refl _ _).alloc _
  have h3 := h2.keep hc3 (by simp) (by simp)
  refine hK _ _ ⟨Cls.mk ((HS.out _).2 ⟨h3.1.cell 0, (g2.keep hc3 (by simp)).cell 0⟩), ?_⟩
  clear hK K
  refine wpKeep_step rfl (fun K hK => ?_)
  refine wp_append_Own _ _ 46 46 rfl 41 i0 (.agg #[.int .i64 0, .int .i64 0, .int .i64 0]) 3 24 Try.underlying46 hi0 hz0 hz1 hz2 rfl (.slice a js.length cap) js.length (flat js) rfl h3.2 _ 1 _ rfl (Src_lit Try.underlying46 _ (flat [(g, 0, 16)]) 3 1 rfl _ (flat_one _)) (by unfold maxLen; omega) (by omega) ?_
  intro v' w4 hown4 hc4 hf4
  have hbne : b ∉ (Value.slice a js.length cap).ownBlock.toList := by
    intro hb
    exact h3.2.neBlk h3.1 (by decide) (by simpa using hb)
  have h4b : Blk w4 b #[.slice a js.length cap] 55 := h3.1.keep hc4 hbne
  refine hK _ _ ⟨Cls.mk ((HS.out _).2 ⟨h4b.cell 0, ((g2.keep hc3 (by simp)).keep hc4 (fun hq => by have := h.2.lt _ (by simpa using hq); omega)).cell 0⟩), ?_⟩
  clear hK K
  refine wpKeep_nil ?_
  have f4 := h4b.frozen 0
  have k4 := h4b.cell 0
  obtain ⟨a4, cap4, rfl, _⟩ := hown4.form
  go_wp2
  go_end0
  have hcs : Ch (b :: (Value.slice a js.length cap).ownBlock.toList) w w4 := (((hc'.mono (by simp)).drewN 1).trans (hc2.mono (by simp))).trans ((hc3.mono (by simp)).trans (hc4.mono (fun k hk => .inl (List.mem_cons_of_mem _ hk))))
  have hs4 := hc'.size
  have hs2 := hc2.size
  have hsz : w.heap.size ≤ (w2.alloc (.cells #[.int .i64 g, .int .i64 0, .int .i64 16] 41)).heap.size := Nat.le_trans (Nat.le_trans hc'.size (Nat.le_trans (show w1.heap.size ≤ (w1.drewN 1).heap.size from Nat.le_refl _) hc2.size)) hc3.size
  refine ⟨rfl, .slice a4 (js.length + 1) cap4, ⟨by simpa using h4b.set 0 (.slice a4 (js.length + 1) cap4), ?_⟩, hcs.setCell (.inl (by simp)) _, ?_⟩
  · rw [flat_append, List.length_append, List.length_singleton]
    exact hown4.keep ((Ch.refl [b] w4).setCell (.inl (by simp)) _) (fun k hk e => by
      simp only [List.mem_singleton] at hk
      subst hk
      exact hown4.neBlk h4b (by decide) e)
  · rcases hf4 with h5 | h5
    · exact .inl h5
    · exact .inr fun k hk => Nat.le_trans hsz (h5 k hk)
end Go.Proofs.Ytebibdoekcophaa
