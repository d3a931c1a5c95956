/-
  What the statements of layer 20 ask first: 'told' answers true. Conditions: none.
-/
import Derived.Test.YtebibdoekcophaaScan
namespace Go.Proofs.Ytebibdoekcophaa
open Go.RowKit
theorem scanDone (b : Nat) (a n i : Int) (w : World) (h : ScanAt w b a n i) (h0 : 0 ≤ i) (h1 : i ≤ n) (h2 : n ≤ 9223372036854775807) :
    Calls Try.prog 15 #[.pointer (some ⟨b, 0, none⟩)] w fun e w' => e = .returned (.bool (n - i == 0)) ∧ ∃ nq, w' = w.drewN nq := by
  go_enter Try.func15, Try.ntmps15
  go_wp2_with fail
  refine (scanLeft b a n i _ h h0 h1 h2).mono ?_; rintro e w1 ⟨rfl, nq, rfl⟩
  go_wp2
  go_ret
  exact ⟨rfl, _, rfl⟩
theorem scanDoneNil (w : World) : Calls Try.prog 15 #[.pointer none] w fun e w' => e = .returned (.bool true) ∧ w' = w := by
  go_enter Try.func15, Try.ntmps15
  go_wp2_with fail
  refine (scanLeftNil _).mono ?_; rintro e w1 ⟨rfl, rfl⟩
  go_wp2
  go_ret
  exact ⟨rfl, rfl⟩
theorem toldLoad (a i : Int) (w : World) (h : -1000000 ≤ a + i) (h' : a + i ≤ 1000000) : Calls Try.prog 41 #[.int .i64 a, .int .i64 i] w fun e w' => e = .returned (.int .i64 (a + i)) ∧ w' = w := by
  go_enter Try.func41, Try.ntmps41
  go_wp2
  go_ret
  exact ⟨rfl, rfl⟩
theorem toldStep (b : Nat) (i : Nat) (w : World) (h : ScanAt w b 64 20 i) (hi : i ≤ 20) :
    Calls Try.prog 16 #[.pointer (some ⟨b, 0, none⟩), .func (.func 41) #[] #[]] w fun e w' =>
      ∃ v', e = .returned v' ∧ Own w' 3 1 v' (nz (fun j => 64 + ((i + j : Nat) : Int)) (chunkEnd 20 i - i)).length ((nz (fun j => 64 + ((i + j : Nat) : Int)) (chunkEnd 20 i - i)).map (Value.int .i64)) ∧
        ScanAt w' b 64 20 (chunkEnd 20 i) ∧ Ch [b] w w' := by
  refine (scanStep 41 [] b 64 20 i (fun k => 64 + (k : Int)) (fun _ _ => True) [] w (fun _ _ => by kernel_rfl) h hi (by decide) (by simp) (by simp) trivial (fun _ _ _ _ _ => trivial) ?_).mono ?_
  · intro k w1 hk hk' _
    have := (chunkEnd_le 20 i hi).2
    exact (toldLoad 64 k w1 (by omega) (by omega)).mono fun e w2 ⟨he, hw⟩ => ⟨he, trivial, by subst hw; exact Ch.refl _ _⟩
  · rintro e w' ⟨v', he, h1, h2, _, h3⟩
    exact ⟨v', he, h1, h2, h3⟩
set_option maxRecDepth 100000 in
theorem told20 (w : World) : Calls Try.prog 12 #[] w fun e w' => e = .returned (.bool true) ∧ Ch [] w w' := by
  go_enter Try.func12, Try.ntmps12
  go_wp2_with fail
  refine (scanNew 64 20 _).mono ?_; rintro e w1 ⟨rfl, hw1⟩
  have s1 : ScanAt w1 w.heap.size 64 20 0 := by rw [hw1]; exact Blk.new _ _ _
  have hc1 : Ch [] w w1 := by rw [hw1]; exact (Ch.refl _ _).alloc _
  clear hw1
  go_wp2_with fail
  refine (toldStep _ 0 _ s1 (by decide)).mono ?_; rintro e w2 ⟨v2, rfl, o2, s2, hc2⟩
  rw [show chunkEnd 20 0 = 16 from rfl] at o2 s2
  obtain ⟨g2, off2, cap2, rfl, _, _, cell2, _⟩ := o2.cellsOf (by decide)
  rw [show (nz (fun j => 64 + ((0 + j : Nat) : Int)) (16 - 0)).length = 16 from rfl] at o2 ⊢
  have d1 := cell2 0 (.int .i64 64) rfl
  have o2b : g2 < w2.heap.size := o2.lt g2 rfl
  have hg2 : w1.heap.size ≤ g2 ∨ True := .inr trivial
  go_wp2_with fail
  refine (scanLeft _ _ _ _ _ s2 (by decide) (by decide) (by decide)).mono ?_; rintro e w3 ⟨rfl, nq, rfl⟩
  go_wp2_with fail
  refine (toldStep _ 16 _ (Blk.drewN s2 nq) (by decide)).mono ?_; rintro e w4 ⟨v4, rfl, o4, s4, hc4⟩
  rw [show chunkEnd 20 16 = 20 from rfl] at o4 s4
  obtain ⟨g4, off4, cap4, rfl, _, _, cell4, _⟩ := o4.cellsOf (by decide)
  rw [show (nz (fun j => 64 + ((16 + j : Nat) : Int)) (20 - 16)).length = 4 from rfl] at o4 ⊢
  have d4 := cell4 3 (.int .i64 83) rfl
  have hne : ∀ k ∈ [w.heap.size], (Value.slice (some ⟨g2, off2, none⟩) 16 cap2).ownBlock ≠ some k := by
    intro k hk; simp only [List.mem_singleton] at hk; subst hk; exact o2.neBlk s2 (by decide)
  have hch4 := ((Ch.refl [w.heap.size] w2).drewN nq).trans hc4
  have o2' := o2.keep hch4 hne
  obtain ⟨g2', off2', cap2', heq, _, _, cell2', _⟩ := o2'.cellsOf (by decide)
  simp only [Value.slice.injEq, Option.some.injEq, Addr.mk.injEq, and_true, true_and] at heq
  obtain ⟨⟨rfl, rfl⟩, rfl⟩ := heq
  have d1' : w4.cell? ⟨g2, off2, none⟩ = some (.int .i64 64) := cell2' 0 (.int .i64 64) rfl
  clear d1 cell2 cell2' cell4
  go_wp2_with fail
  refine (scanDone _ _ _ _ _ s4 (by decide) (by decide) (by decide)).mono ?_; rintro e w5 ⟨rfl, nq5, rfl⟩
  go_wp2_with fail
  refine (toldStep _ 20 _ (Blk.drewN s4 nq5) (by decide)).mono ?_; rintro e w6 ⟨v6, rfl, o6, s6, hc6⟩
  rw [show chunkEnd 20 20 = 20 from rfl] at o6 s6
  obtain ⟨a6, cap6, rfl, _, _⟩ := o6.form
  rw [show (nz (fun j => 64 + ((20 + j : Nat) : Int)) (20 - 20)).length = 0 from rfl] at o6 ⊢
  go_wp2
  go_ret
  have hfin := ((hc1.mono (T := [w.heap.size]) (by simp)).trans (hc2.trans (hch4.trans (((Ch.refl _ w4).drewN nq5).trans hc6))))
  exact ⟨rfl, hfin.mono (by simp)⟩
end Go.Proofs.Ytebibdoekcophaa
