/-
  Contracts of the document's answer for layer 6 (a span): NewSpan. Conditions: none beyond what each theorem names.
-/
import Derived.Test.YtheniiinioggiaaDoorRefSpan2
namespace Go.Proofs.YtheniiinioggiaaDoor
open Go.RowKit
theorem Tryd.infoBool : (Tryd.prog.info? 4).map (fun i => (i.zero, i.size, i.bytes)) = some (some (.bool false), 1, 1) := by kernel_rfl
theorem run_makeBools (w : World) (k : Nat) (h : k ≤ 1000000) : (Instr.makeSlice 58 (.int .i64 (k : Int)) (.int .i64 (k : Int))).run Tryd.prog w =
    .ok (.slice (some ⟨w.heap.size, 0, none⟩) k k) (w.alloc (.cells (bools none_ k) 4)) := by
  obtain ⟨i0, hi0, hz0, hz1, hz2⟩ := info_parts Tryd.infoBool
  have hr := run_makeSlice (P := Tryd.prog) w 58 4 i0 (.bool false) Tryd.underlying58 hi0 hz0 .i64 .i64 (k : Int) (k : Int) (by omega) (Int.le_refl _) (by rw [hz1]; omega) (by rw [hz2]; omega) (by omega)
  rw [hr, hz1]
  congr 1
  have : madeCells (Value.bool false).cells (((k : Int).toNat) * 1) = bools none_ k := by
    apply Array.ext'
    apply List.ext_getElem
    · simp [madeCells, bools]
    · intro n h1 h2
      simp [madeCells, Value.cells, Nat.mod_one, bools, none_]
  rw [this]
/-- What NewSpan gives. -/
def NewRS (w : World) (f k : Int) (n : Nat) (e : Ending) (w' : World) : Prop := ∃ x pu pm, e = .returned (.pointer (some ⟨x, 0, none⟩)) ∧ RS w' x f k n pu pm none_ none_ 0 ∧ w.heap.size ≤ x ∧ w.heap.size ≤ pu ∧ w.heap.size ≤ pm ∧ Ch [] w w'
theorem refSpNewNo (f k : Int) (w : World) (hno : sz k = 0 ∨ f < 1 ∨ 262144 < f) :
    Calls Tryd.prog 42 #[.int .i64 f, .int .i64 k] w fun e w' => e = .returned (.pointer none) ∧ Ch [] w w' := by
  have hs := rslots_any k w
  by_cases h0 : sz k = 0
  · rw [show sls k = 0 by unfold sls; rw [if_pos h0]] at hs
    clear hno h0
    go_enter Tryd.func42, Tryd.ntmps42
    go_wp2_with fail
    refine hs.mono ?_; rintro e w1 ⟨rfl, c1⟩
    clear hs
    go_wp2
    go_ret
    exact ⟨rfl, c1⟩
  · obtain ⟨hk, _⟩ := sz_range h0
    obtain ⟨n, hn, hn1, hn2⟩ := sls_in hk.1 hk.2
    rw [hn] at hs
    have z0 : ((n : Int) == 0) = false := by rw [beq_eq_false_iff_ne]; omega
    clear hn
    by_cases h1 : f < 1
    · have t1 : decide (f < 1) = true := decide_eq_true h1
      clear hno
      go_enter Tryd.func42, Tryd.ntmps42
      go_wp2_with fail
      refine hs.mono ?_; rintro e w1 ⟨rfl, c1⟩
      clear hs
      go_wp2
      go_ret
      exact ⟨rfl, c1⟩
    · have t1 : decide (f < 1) = false := decide_eq_false h1
      have t2 : decide (f > 262144) = true := decide_eq_true (by omega)
      clear hno
      go_enter Tryd.func42, Tryd.ntmps42
      go_wp2_with fail
      refine hs.mono ?_; rintro e w1 ⟨rfl, c1⟩
      clear hs
      go_wp2
      go_ret
      exact ⟨rfl, c1⟩
set_option maxHeartbeats 1000000 in
theorem refSpNew (f k : Int) (n : Nat) (w : World) (h0 : 0 < sz k) (hf : 1 ≤ f ∧ f ≤ 262144) (hn : sls k = (n : Int)) (hn2 : 1 ≤ n ∧ n ≤ 256) :
    Calls Tryd.prog 42 #[.int .i64 f, .int .i64 k] w (NewRS w f k n) := by
  have hs := rslots_any k w
  rw [hn] at hs
  have hmk := fun w => run_makeBools w n (by omega)
  have z0 : ((n : Int) == 0) = false := by rw [beq_eq_false_iff_ne]; omega
  have t1 : decide (f < 1) = false := decide_eq_false (by omega)
  have t2 : decide (f > 262144) = false := decide_eq_false (by omega)
  clear hn h0
  go_enter Tryd.func42, Tryd.ntmps42
  go_wp2_with fail
  refine hs.mono ?_; rintro e w1 ⟨rfl, c1⟩
  clear hs
  go_upto_region 4 with fail
  obtain ⟨L, hLL⟩ : ∃ L : World → Prop, ∀ w', L w' ↔ True := ⟨fun _ => True, fun _ => Iff.rfl⟩
  have hS0 : ∀ w', L w' := fun w' => (hLL _).2 trivial
  have hSA : Nonempty { w' : World // L w' } := ⟨⟨w, hS0 w⟩⟩
  clear hLL
  refine wp_region_plan (Cls L) (List.range 9) (.reads [0, 1, 2, 4] (.alt 3 (.only 5 (.reads [6] (.only 7 (.reads [8] .done)))) (.alt 5 (.only 3 (.reads [6] (.only 7 (.reads [8] .done)))) .done))) (by kernel_rfl) (by kernel_rfl) (fun _ _ _ _ _ h => h) ?_
  simp only [Plan.reads, Plan.only, List.foldr_cons, List.foldr_nil]
  obtain ⟨W0, hW0⟩ : ∃ W0, w1.drewN 1 = W0 := ⟨_, rfl⟩
  have cc : Ch [] w W0 := by rw [← hW0]; exact c1.drewN 1
  rw [hW0]
  clear hW0 c1
  iterate 4 (refine wpPlan_readS (hS0 W0) (fun K hK => ?_); simp only [List.getD_cons_zero, List.getD_cons_succ]; go_simp; refine hK _ ?_; clear hK K)
  refine wpPlan_altU rfl (fun K hK => ?_) ?_; simp only [List.getD_cons_zero, List.getD_cons_succ]
  · go_simp
    refine hK _ _ (fun _ => Cls.mk (hS0 _)) ?_
    clear hK K
    refine wpPlan_onlyU rfl (fun K hK => ?_); simp only [List.getD_cons_zero, List.getD_cons_succ]
    go_simp
    refine hK _ _ (fun _ => Cls.mk (hS0 _)) ?_
    clear hK K
    obtain ⟨W2, hW2⟩ : ∃ W, (W0.alloc (.cells (bools none_ n) 4)).alloc (.cells (bools none_ n) 4) = W := ⟨_, rfl⟩
    have b1 : Blk W2 W0.heap.size (bools none_ n) 4 := by rw [← hW2]; exact (Blk.new _ _ _).alloc _
    have b2 : Blk W2 (W0.heap.size + 1) (bools none_ n) 4 := by rw [← hW2]; exact Blk.new' (by simp) _ _
    have c2 : Ch [] w W2 := by rw [← hW2]; exact (cc.alloc _).alloc _
    have hs2 := cc.size
    rw [hW2]
    clear hW2
    refine wpPlan_readS (hS0 W2) (fun K hK => ?_); simp only [List.getD_cons_zero, List.getD_cons_succ]; go_simp; refine hK _ ?_; clear hK K
    refine wpPlan_only (fun K hK => ?_)
    simp only [List.getD_cons_zero, List.getD_cons_succ]
    go_simp
    refine hK _ _ (fun _ => Cls.mk (hS0 _)) ?_
    clear hK K
    refine wpPlan_readS (hS0 _) (fun K hK => ?_); simp only [List.getD_cons_zero, List.getD_cons_succ]; go_simp; refine hK _ ?_; clear hK K
    refine wpPlan_done ?_
    clear hS0 hSA
    have ca := (Ch.refl [] W2).alloc (.cells #[.int .i64 f, .int .i64 k, .slice (some ⟨W0.heap.size, 0, none⟩) n n, .slice (some ⟨(W0.heap.size + 1), 0, none⟩) n n, .int .i64 0] 60)
    have b3 := b1.keep ca (by simp)
    have b4 := b2.keep ca (by simp)
    have hc2 := c2.size
    go_wp2_with fail
    go_ret
    exact ⟨_, W0.heap.size, (W0.heap.size + 1), rfl, ⟨Blk.new _ _ _, by assumption, by assumption, by omega⟩, by omega, by omega, by omega, c2.trans ca⟩
  · refine wpPlan_altU rfl (fun K hK => ?_) (by simp [wpPlan]); simp only [List.getD_cons_zero, List.getD_cons_succ]
    go_simp
    refine hK _ _ (fun _ => Cls.mk (hS0 _)) ?_
    clear hK K
    refine wpPlan_onlyU rfl (fun K hK => ?_); simp only [List.getD_cons_zero, List.getD_cons_succ]
    go_simp
    refine hK _ _ (fun _ => Cls.mk (hS0 _)) ?_
    clear hK K
    obtain ⟨W2, hW2⟩ : ∃ W, (W0.alloc (.cells (bools none_ n) 4)).alloc (.cells (bools none_ n) 4) = W := ⟨_, rfl⟩
    have b1 : Blk W2 W0.heap.size (bools none_ n) 4 := by rw [← hW2]; exact (Blk.new _ _ _).alloc _
    have b2 : Blk W2 (W0.heap.size + 1) (bools none_ n) 4 := by rw [← hW2]; exact Blk.new' (by simp) _ _
    have c2 : Ch [] w W2 := by rw [← hW2]; exact (cc.alloc _).alloc _
    have hs2 := cc.size
    rw [hW2]
    clear hW2
    refine wpPlan_readS (hS0 W2) (fun K hK => ?_); simp only [List.getD_cons_zero, List.getD_cons_succ]; go_simp; refine hK _ ?_; clear hK K
    refine wpPlan_only (fun K hK => ?_)
    simp only [List.getD_cons_zero, List.getD_cons_succ]
    go_simp
    refine hK _ _ (fun _ => Cls.mk (hS0 _)) ?_
    clear hK K
    refine wpPlan_readS (hS0 _) (fun K hK => ?_); simp only [List.getD_cons_zero, List.getD_cons_succ]; go_simp; refine hK _ ?_; clear hK K
    refine wpPlan_done ?_
    clear hS0 hSA
    have ca := (Ch.refl [] W2).alloc (.cells #[.int .i64 f, .int .i64 k, .slice (some ⟨(W0.heap.size + 1), 0, none⟩) n n, .slice (some ⟨W0.heap.size, 0, none⟩) n n, .int .i64 0] 60)
    have b3 := b1.keep ca (by simp)
    have b4 := b2.keep ca (by simp)
    have hc2 := c2.size
    go_wp2_with fail
    go_ret
    exact ⟨_, (W0.heap.size + 1), W0.heap.size, rfl, ⟨Blk.new _ _ _, by assumption, by assumption, by omega⟩, by omega, by omega, by omega, c2.trans ca⟩
end Go.Proofs.YtheniiinioggiaaDoor
