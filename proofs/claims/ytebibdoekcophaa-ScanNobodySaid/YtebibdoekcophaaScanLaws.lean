/-
  The walks of the statements on scans. Conditions: none.
-/
import Derived.Test.YtebibdoekcophaaScanTold
namespace Go.Proofs.Ytebibdoekcophaa
open Go.RowKit
theorem umod (a m : Int) (h1 : 1 ≤ m) (h2 : m ≤ 4294967296) : ∃ r : Nat, wrap64 ((IntKind.u64.wrap a).tmod m) = r ∧ (r : Int) < m := by
  have h0 : 0 ≤ IntKind.u64.wrap a := by
    simp only [IntKind.wrap]
    rw [if_neg (by simp [IntKind.signed])]
    exact Int.emod_nonneg _ (by decide)
  rw [Int.tmod_eq_emod_of_nonneg h0]
  have h3 := Int.emod_nonneg (IntKind.u64.wrap a) (b := m) (by omega)
  have h4 := Int.emod_lt_of_pos (IntKind.u64.wrap a) (b := m) (by omega)
  refine ⟨(IntKind.u64.wrap a % m).toNat, ?_, ?_⟩
  · rw [IntWalk.wrap64_in]
    · omega
    · omega
  · omega
theorem nobodyStep (b : Nat) (a : Int) (w : World) (h : ScanAt w b a 0 0) :
    Calls Try.prog 16 #[.pointer (some ⟨b, 0, none⟩), .func (.func 21) #[] #[]] w fun e w' =>
      ∃ a' c', e = .returned (.slice a' 0 c') ∧ ScanAt w' b a 0 0 ∧ Ch [b] w w' := by
  refine (scanStep 21 [] b a 0 0 (fun k => 0) (fun _ _ => True) [] w (fun _ _ => by kernel_rfl) h (by decide) (by decide) (by simp) (by simp) trivial (fun _ _ _ _ _ => trivial) ?_).mono ?_
  · intro k w1 _ hk _
    exact absurd hk (by simp [chunkEnd])
  · rintro e w' ⟨v', he, h1, h2, _, h3⟩
    obtain ⟨a', c', rfl, _, _⟩ := h1.form
    exact ⟨a', c', he, h2, h3⟩
theorem nobodyAll (w : World) : Calls Try.prog 18 #[.int .i64 (-1), .func (.func 22) #[] #[]] w fun e w' => e = .returned (.slice none 0 0) ∧ Ch [] w w' := by
  go_enter Try.func18, Try.ntmps18
  go_wp2
  refine wp_loop_rounds 1 ?_
  rw [rounds_succ]
  go_wp2
  go_ret
  exact ⟨rfl, Ch.refl _ _⟩
set_option maxRecDepth 100000 in
theorem nobody_walk (a0 : Int) (a1 : Int) (w0 : (Lit.int .i64 a0).wf = true) (w1 : (Lit.int .i64 a1).wf = true) (w : World) :
    Calls Try.prog 4 #[.int .i64 a0, .int .i64 a1] w fun e w' => e = .returned (.bool true) ∧ Below w.heap.size w w' := by
  obtain ⟨x, hx, hxl⟩ := umod a1 100 (by decide) (by decide)
  go_enter Try.func4, Try.ntmps4
  go_wp2_with fail
  refine (scanNew a0 _ _).mono ?_; rintro e w1 ⟨rfl, hw1⟩
  rw [Int.max_eq_right (by omega)] at hw1
  have s1 : ScanAt w1 w.heap.size a0 0 0 := by rw [hw1]; exact Blk.new _ _ _
  have hc1 : Ch [] w w1 := by rw [hw1]; exact (Ch.refl _ _).alloc _
  clear hw1
  go_wp2_with fail
  refine (told20 _).mono ?_; rintro e w2 ⟨rfl, hc2⟩
  have s2 : ScanAt w2 w.heap.size a0 0 0 := Blk.keep s1 hc2 (by simp)
  go_wp2_with fail
  refine (scanDone _ _ _ _ _ s2 (by decide) (by decide) (by decide)).mono ?_; rintro e w3 ⟨rfl, nq3, rfl⟩
  go_wp2_with fail
  refine (scanLeft _ _ _ _ _ (Blk.drewN s2 _) (by decide) (by decide) (by decide)).mono ?_; rintro e w3 ⟨rfl, nq4, rfl⟩
  go_wp2_with fail
  refine (nobodyStep _ _ _ (Blk.drewN s2 _)).mono ?_; rintro e w4 ⟨a', c', rfl, s4, hc4⟩
  go_wp2_with fail
  refine (scanDoneNil _).mono ?_; rintro e w5 ⟨rfl, rfl⟩
  go_wp2_with fail
  refine (scanLeftNil _).mono ?_; rintro e w6 ⟨rfl, rfl⟩
  go_wp2_with fail
  refine (scanStepNil _ _ []).mono ?_; rintro e w7 ⟨rfl, hc7⟩
  go_wp2_with fail
  refine (nobodyAll _).mono ?_; rintro e w8 ⟨rfl, hc8⟩
  go_wp2
  go_ret
  have hfin := ((hc1.trans hc2).mono (T := [w.heap.size]) (by simp)).trans ((((Ch.refl [w.heap.size] w2).drewN _).trans hc4).trans ((hc7.trans hc8).mono (by simp)))
  exact ⟨rfl, hfin.below (Nat.le_refl _) (by simp)⟩
end Go.Proofs.Ytebibdoekcophaa
