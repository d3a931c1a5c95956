/-
  Contracts of the document's answer for layer 14 (who waits), and what Wait, Wake, Del come to on lists, whatever the case. Conditions: none beyond what each theorem names.
-/
import Derived.Test.YtaafdhohiekakaaWait2
import Derived.Test.YtaafdhohiekakaaRefRows
import Derived.Test.YtaafdhohiekakaaHas
import Derived.Test.YtaafdhohiekakaaOut
import Derived.Test.YtaafdhohiekakaaPlan
namespace Go.Proofs.Ytaafdhohiekakaa
open Go.RowKit
def hitW (Ls : List (List Int)) (g : Int) (k : Nat) : Bool := (gL Ls k).contains g
def RW (w : World) (r : Nat) (us : List Value) (Ls : List (List Int)) (S : List Nat) : Prop := RRows w r 41 us Ls S ∧ Ls.length = 32 ∧ r ∈ S
theorem refWaitNo (r : Nat) (a g : Int) (w : World) (ha : a < 0 ∨ 31 < a) : Calls Try.prog 19 #[.pointer (some ⟨r, 0, none⟩), .int .i64 a, .int .i64 g] w fun e w' => e = .returned (.int .i64 2) ∧ w' = w := by
  by_cases h : a < 0
  · clear ha
    go_enter Try.func19, Try.ntmps19
    go_wp2
    go_ret
    exact ⟨rfl, rfl⟩
  · have h1 : 31 < a := by omega
    clear ha
    go_enter Try.func19, Try.ntmps19
    go_wp2
    go_ret
    exact ⟨rfl, rfl⟩
theorem refWaitIn (r : Nat) (us : List Value) (Ls : List (List Int)) (S : List Nat) (g : Int) (i j : Nat) (w : World) (h : RW w r us Ls S) (hi : i < 32) (hj : j < 32) (hh : hitW Ls g j = true) (hn : ∀ k, k < j → hitW Ls g k = false) (hl : ∀ i, (gL Ls i).length ≤ 100000) :
    Calls Try.prog 19 #[.pointer (some ⟨r, 0, none⟩), .int .i64 i, .int .i64 g] w fun e w' => e = .returned (.int .i64 5) ∧ w' = w := by
  have i0 : ¬ (i : Int) < 0 := by omega
  have i1 : ¬ (31 : Int) < i := by omega
  have HH := Lib.hid hh
  have HN := Lib.hid hn
  have HL := Lib.hid hl
  clear hh hn hl
  go_enter Try.func19, Try.ntmps19
  go_wp2
  go_loop [7] (fun s7 => ∃ k : Nat, s7 = .int .i64 k ∧ k ≤ j) (fun s7 => 32 - (intOf s7).toNat)
  case atStart => exact ⟨0, rfl, by omega⟩
  case round =>
    obtain ⟨k, rfl, hk⟩ := hrel
    obtain ⟨a, c, _, hcell, hL⟩ := h.1.at (i := k) (by rw [h.2.1]; omega)
    have hcon := hasAny a (gL Ls k) g (gL Ls k).length c w hL.rd rfl (by have := HL.out k; omega)
    obtain ⟨n, hn⟩ : ∃ n, (gL Ls k).length = n := ⟨_, rfl⟩
    rw [hn] at hcon hcell
    have k0 : (0 : Int) ≤ k := by omega
    have k1 : (k : Int) < 32 := by omega
    clear hn hL
    by_cases hlt : k < j
    · rw [show (gL Ls k).contains g = false from HN.out k hlt] at hcon
      go_wp2_with fail
      refine hcon.mono ?_; rintro e w1 ⟨rfl, rfl⟩
      clear hcon
      go_wp2_with fail
      go_round
      case rel => exact ⟨k + 1, by go_num, by omega⟩
      case measure => simp [intOf]; omega
    · obtain rfl : k = j := by omega
      rw [show (gL Ls k).contains g = true from HH.out] at hcon
      go_wp2_with fail
      refine hcon.mono ?_; rintro e w1 ⟨rfl, rfl⟩
      clear hcon
      go_wp2
      go_ret
      exact ⟨rfl, rfl⟩
set_option maxHeartbeats 2000000 in
theorem refWait (r : Nat) (us : List Value) (Ls : List (List Int)) (S : List Nat) (g : Int) (i : Nat) (w : World) (h : RW w r us Ls S) (hS : ∀ k ∈ S, k < w.heap.size) (hi : i < 32) (hn : ∀ k, k < 32 → hitW Ls g k = false) (hl : ∀ i, (gL Ls i).length ≤ 100000) :
    Calls Try.prog 19 #[.pointer (some ⟨r, 0, none⟩), .int .i64 i, .int .i64 g] w fun e w' => e = .returned (.int .i64 0) ∧ ∃ us', RW w' r us' (Ls.set i (gL Ls i ++ [g])) S ∧ Ch [r] w w' := by
  have i0 : ¬ (i : Int) < 0 := by omega
  have i1 : ¬ (31 : Int) < i := by omega
  have i2 : (0 : Int) ≤ i := by omega
  have i3 : (i : Int) < 32 := by omega
  have HN := Lib.hid hn
  have HL := Lib.hid hl
  clear hn hl
  go_enter Try.func19, Try.ntmps19
  go_wp2
  go_loop [7] (fun s7 => ∃ k : Nat, s7 = .int .i64 k ∧ k ≤ 32) (fun s7 => 32 - (intOf s7).toNat)
  case atStart => exact ⟨0, rfl, by omega⟩
  case round =>
    obtain ⟨k, rfl, hk⟩ := hrel
    by_cases hlt : k < 32
    · obtain ⟨a, c, _, hcell, hL⟩ := h.1.at (i := k) (by rw [h.2.1]; omega)
      have hcon := hasAny a (gL Ls k) g (gL Ls k).length c w hL.rd rfl (by have := HL.out k; omega)
      obtain ⟨n, hn⟩ : ∃ n, (gL Ls k).length = n := ⟨_, rfl⟩
      rw [hn] at hcon hcell
      have k0 : (0 : Int) ≤ k := by omega
      have k1 : (k : Int) < 32 := by omega
      clear hn hL
      rw [show (gL Ls k).contains g = false from HN.out k hlt] at hcon
      go_wp2_with fail
      refine hcon.mono ?_; rintro e w1 ⟨rfl, rfl⟩
      clear hcon
      go_wp2_with fail
      go_round
      case rel => exact ⟨k + 1, by go_num, by omega⟩
      case measure => simp [intOf]; omega
    · obtain rfl : k = 32 := by omega
      obtain ⟨a, c, hus, hcell, hL⟩ := h.1.at (i := i) (by rw [h.2.1]; omega)
      obtain ⟨X, hX⟩ : ∃ X, gL Ls i = X := ⟨_, rfl⟩
      have hXl := HL.out i
      rw [hX] at hus hcell hL hXl
      obtain ⟨n, hn⟩ : ∃ n, X.length = n := ⟨_, rfl⟩
      rw [hn] at hus hcell hXl
      have HX := Lib.hid hn
      have HGX := Lib.hid hX
      clear hn hX hlt
      go_upto_region 8 with fail
      obtain ⟨L, hLL⟩ : ∃ L : World → Prop, ∀ w', L w' ↔ (w'.cell? ⟨r, i, none⟩ = some (.slice a n c)) := ⟨_, fun _ => Iff.rfl⟩
      have hS1 : ∀ x : { w' : World // L w' }, x.1.cell? ⟨r, i, none⟩ = some (.slice a n c) := fun x => (hLL _).1 x.2
      have hLk : ∀ w', Ch [] w w' → L w' := fun w' hc => (hLL _).2 (by rw [(h.1.still hc).2.1.cell]; rw [h.1.2.1.cell] at hcell; exact hcell)
      have hSA : Nonempty { w' : World // L w' } := ⟨⟨_, hLk w (Ch.refl _ _)⟩⟩
      have HLk := Lib.hid hLk
      clear hLL hLk
      refine wp_region_plan (Cls L) [1, 2, 3, 4, 5, 6, 7, 8, 9, 10, 11, 12, 15] (.pures [0, 13, 14] (.reads [1, 3, 4, 5, 6, 7, 8, 10] (.alt 2 (.alt 9 (.only 11 (.only 12 (.reads [15] (.only 16 .done)))) (.alt 11 (.only 9 (.only 12 (.reads [15] (.only 16 .done)))) .done)) (.alt 11 (.only 2 (.only 9 (.only 12 (.reads [15] (.only 16 .done))))) .done)))) (by kernel_rfl) (by kernel_rfl) (fun _ _ _ _ _ h => h) ?_
      simp only [Plan.pures, Plan.reads, Plan.only, List.foldr_cons, List.foldr_nil]
      obtain ⟨W0, hW0⟩ : ∃ W0, w.drewN 1 = W0 := ⟨_, rfl⟩
      have cc : Ch [] w W0 := by rw [← hW0]; exact (Ch.refl [] w).drewN 1
      rw [hW0]
      clear hW0 hcell
      have hl0 := HLk.out _ cc
      iterate 3 (refine wpPlan_pure (fun K hK => ?_); simp only [List.getD_cons_zero, List.getD_cons_succ]; go_simp; refine hK _ ?_; clear hK K)
      iterate 8 (refine wpPlan_readS hl0 (fun K hK => ?_); simp only [List.getD_cons_zero, List.getD_cons_succ]; go_simp; refine hK _ ?_; clear hK K)
      clear hl0
      refine wpPlan_altU rfl (fun K hK => ?_) ?_; simp only [List.getD_cons_zero, List.getD_cons_succ]
      · go_simp
        obtain ⟨k0, hk0⟩ : ∃ k, (W0).heap.size = k := ⟨_, rfl⟩
        have HK0 := Lib.hid hk0
        obtain ⟨W1, hWn⟩ : ∃ X, (W0).alloc (.cells #[] 3) = X := ⟨_, rfl⟩
        have HS0 := Lib.hid (show W1.heap.size = k0 + 1 by rw [← hWn, ← hk0]; simp)
        have cn : Ch [] w W1 := by rw [← hWn]; exact cc.alloc _
        have o0 : OwI W1 w.heap.size (.slice (some ⟨k0, 0, none⟩) 0 0) [] := by rw [← hWn, ← hk0]; exact OwI.empty _ cc.size
        first | rw [hWn] | (rw [show (W0).alloc _ = W1 from hWn])
        first | (rw [hk0]; clear hk0) | (rw [hk9]; clear hk9) | skip
        refine hK _ _ (fun _ => Cls.mk (HLk.out _ cn)) ?_
        clear hK K cc
        have hWn2 := Lib.hid hWn
        clear hWn
        have cc := cn
        clear cn
        refine wpPlan_altU rfl (fun K hK => ?_) ?_; simp only [List.getD_cons_zero, List.getD_cons_succ]
        · have hsrc2 := (hL.rd.keep cc (by simp)).src Try.underlying22 c
          rw [HX.out] at hsrc2
          refine wp_app (.tmp 28) (.tmp 34) rfl w.heap.size (.slice (some ⟨k0, 0, none⟩) 0 0) [] rfl o0 cc.size (.slice a n c) X rfl (by rw [HX.out]; exact hsrc2) (by have := HX.out; simp; omega) (fun v4 w4 o4 c4 n4 => ?_)
          have o4 : OwI w4 w.heap.size v4 X := by simpa using o4
          have cc4 : Ch [] w w4 := cc.transT c4 (fun k hk => .inr (o0.2 k (by simpa using hk)))
          refine hK _ _ (fun _ => Cls.mk (HLk.out _ cc4)) ?_
          clear hK K cc hsrc2
          have cc := cc4
          clear cc4
          refine wpPlan_onlyU rfl (fun K hK => ?_); simp only [List.getD_cons_zero, List.getD_cons_succ]
          go_simp
          obtain ⟨k9, hk9⟩ : ∃ k, (w4).heap.size = k := ⟨_, rfl⟩
          have HK9 := Lib.hid hk9
          obtain ⟨W2, hWn⟩ : ∃ X, (w4).alloc (.cells #[.int .i64 g] 3) = X := ⟨_, rfl⟩
          have HS9 := Lib.hid (show W2.heap.size = k9 + 1 by rw [← hWn, ← hk9]; simp)
          have cn : Ch [] w W2 := by rw [← hWn]; exact cc.alloc _
          have r9 : Rd W2 (some ⟨k9, 0, none⟩) [g] := by rw [← hWn, ← hk9]; exact rd_lit _ [g]
          first | rw [hWn] | (rw [show (w4).alloc _ = W2 from hWn])
          first | (rw [hk0]; clear hk0) | (rw [hk9]; clear hk9) | skip
          refine hK _ _ (fun _ => Cls.mk (HLk.out _ cn)) ?_
          clear hK K cc
          have hWn2 := Lib.hid hWn
          clear hWn
          have cc := cn
          clear cn
          have o4 : OwI W2 w.heap.size v4 X := by rw [← hWn2.out]; exact o4.alloc _
          refine wpPlan_onlyU rfl (fun K hK => ?_); simp only [List.getD_cons_zero, List.getD_cons_succ]
          refine wp_app (.tmp 35) (.tmp 37) rfl w.heap.size v4 X rfl o4 cc.size (.slice (some ⟨k9, 0, none⟩) 1 1) [g] rfl (Rd.src (P := Try.prog) Try.underlying22 1 r9) (by have := HX.out; simp; omega) (fun v10 w10 o10 c10 _ => ?_)
          have cc10 : Ch [] w w10 := cc.transT c10 (fun k hk => .inr (o4.2 k (by simpa using hk)))
          have hl10 := HLk.out _ cc10
          refine hK _ _ (fun _ => Cls.mk hl10) ?_
          clear hK K c10
          obtain ⟨a5, c5, e5, l5⟩ := o10.lsF (S := S) hS
          have hlen5 : (X ++ [g]).length = n + 1 := by simp [HX.out]
          rw [hlen5] at e5
          subst e5
          have HX5 := Lib.hid hlen5
          clear hlen5 o10 o4 cc
          refine wpPlan_readS hl10 (fun K hK => ?_); simp only [List.getD_cons_zero, List.getD_cons_succ]; go_simp; refine hK _ ?_; clear hK K
          have h10 := h.1.still cc10
          have f10 := h10.2.1.frozen i
          have p10 := h10.2.1.cell i
          rw [show us.toArray[i]? = some (Value.slice a n c) by simpa using hus] at p10
          clear hl10 hSA hS1
          refine wpPlan_only (fun K hK => ?_)
          simp only [List.getD_cons_zero, List.getD_cons_succ]
          go_simp
          refine hK _ _ (by simp) ?_
          clear hK K f10 p10
          refine wpPlan_done ?_
          obtain ⟨R1, R2⟩ := h10.set h.2.2 (i := i) (by rw [h.2.1]; exact hi) l5 HX5.out
          go_wp2
          go_ret
          refine ⟨rfl, ⟨us.set i (.slice a5 (n + 1) c5), ?_⟩, (cc10.mono (by simp)).trans R2⟩
          unfold RW
          exact ⟨by rw [HGX.out]; exact R1, by rw [List.length_set]; exact h.2.1, h.2.2⟩
        · refine wpPlan_altU rfl (fun K hK => ?_) (by simp [wpPlan]); simp only [List.getD_cons_zero, List.getD_cons_succ]
          go_simp
          obtain ⟨k9, hk9⟩ : ∃ k, (W1).heap.size = k := ⟨_, rfl⟩
          have HK9 := Lib.hid hk9
          obtain ⟨W2, hWn⟩ : ∃ X, (W1).alloc (.cells #[.int .i64 g] 3) = X := ⟨_, rfl⟩
          have HS9 := Lib.hid (show W2.heap.size = k9 + 1 by rw [← hWn, ← hk9]; simp)
          have cn : Ch [] w W2 := by rw [← hWn]; exact cc.alloc _
          have r9 : Rd W2 (some ⟨k9, 0, none⟩) [g] := by rw [← hWn, ← hk9]; exact rd_lit _ [g]
          first | rw [hWn] | (rw [show (W1).alloc _ = W2 from hWn])
          first | (rw [hk0]; clear hk0) | (rw [hk9]; clear hk9) | skip
          refine hK _ _ (fun _ => Cls.mk (HLk.out _ cn)) ?_
          clear hK K cc
          have hWn2 := Lib.hid hWn
          clear hWn
          have cc := cn
          clear cn
          have o0 : OwI W2 w.heap.size (.slice (some ⟨k0, 0, none⟩) 0 0) [] := by rw [← hWn2.out]; exact o0.alloc _
          refine wpPlan_onlyU rfl (fun K hK => ?_); simp only [List.getD_cons_zero, List.getD_cons_succ]
          have hsrc2 := (hL.rd.keep cc (by simp)).src Try.underlying22 c
          rw [HX.out] at hsrc2
          refine wp_app (.tmp 28) (.tmp 34) rfl w.heap.size (.slice (some ⟨k0, 0, none⟩) 0 0) [] rfl o0 cc.size (.slice a n c) X rfl (by rw [HX.out]; exact hsrc2) (by have := HX.out; simp; omega) (fun v4 w4 o4 c4 n4 => ?_)
          have o4 : OwI w4 w.heap.size v4 X := by simpa using o4
          have cc4 : Ch [] w w4 := cc.transT c4 (fun k hk => .inr (o0.2 k (by simpa using hk)))
          have r9 := r9.keep c4 (by have := HS0.out; have := HS9.out; have := HK0.out; have := HK9.out; simp [Value.ownBlock]; omega)
          refine hK _ _ (fun _ => Cls.mk (HLk.out _ cc4)) ?_
          clear hK K cc hsrc2
          have cc := cc4
          clear cc4
          refine wpPlan_onlyU rfl (fun K hK => ?_); simp only [List.getD_cons_zero, List.getD_cons_succ]
          refine wp_app (.tmp 35) (.tmp 37) rfl w.heap.size v4 X rfl o4 cc.size (.slice (some ⟨k9, 0, none⟩) 1 1) [g] rfl (Rd.src (P := Try.prog) Try.underlying22 1 r9) (by have := HX.out; simp; omega) (fun v10 w10 o10 c10 _ => ?_)
          have cc10 : Ch [] w w10 := cc.transT c10 (fun k hk => .inr (o4.2 k (by simpa using hk)))
          have hl10 := HLk.out _ cc10
          refine hK _ _ (fun _ => Cls.mk hl10) ?_
          clear hK K c10
          obtain ⟨a5, c5, e5, l5⟩ := o10.lsF (S := S) hS
          have hlen5 : (X ++ [g]).length = n + 1 := by simp [HX.out]
          rw [hlen5] at e5
          subst e5
          have HX5 := Lib.hid hlen5
          clear hlen5 o10 o4 cc
          refine wpPlan_readS hl10 (fun K hK => ?_); simp only [List.getD_cons_zero, List.getD_cons_succ]; go_simp; refine hK _ ?_; clear hK K
          have h10 := h.1.still cc10
          have f10 := h10.2.1.frozen i
          have p10 := h10.2.1.cell i
          rw [show us.toArray[i]? = some (Value.slice a n c) by simpa using hus] at p10
          clear hl10 hSA hS1
          refine wpPlan_only (fun K hK => ?_)
          simp only [List.getD_cons_zero, List.getD_cons_succ]
          go_simp
          refine hK _ _ (by simp) ?_
          clear hK K f10 p10
          refine wpPlan_done ?_
          obtain ⟨R1, R2⟩ := h10.set h.2.2 (i := i) (by rw [h.2.1]; exact hi) l5 HX5.out
          go_wp2
          go_ret
          refine ⟨rfl, ⟨us.set i (.slice a5 (n + 1) c5), ?_⟩, (cc10.mono (by simp)).trans R2⟩
          unfold RW
          exact ⟨by rw [HGX.out]; exact R1, by rw [List.length_set]; exact h.2.1, h.2.2⟩
      · refine wpPlan_altU rfl (fun K hK => ?_) (by simp [wpPlan]); simp only [List.getD_cons_zero, List.getD_cons_succ]
        go_simp
        obtain ⟨k9, hk9⟩ : ∃ k, (W0).heap.size = k := ⟨_, rfl⟩
        have HK9 := Lib.hid hk9
        obtain ⟨W1, hWn⟩ : ∃ X, (W0).alloc (.cells #[.int .i64 g] 3) = X := ⟨_, rfl⟩
        have HS9 := Lib.hid (show W1.heap.size = k9 + 1 by rw [← hWn, ← hk9]; simp)
        have cn : Ch [] w W1 := by rw [← hWn]; exact cc.alloc _
        have r9 : Rd W1 (some ⟨k9, 0, none⟩) [g] := by rw [← hWn, ← hk9]; exact rd_lit _ [g]
        first | rw [hWn] | (rw [show (W0).alloc _ = W1 from hWn])
        first | (rw [hk0]; clear hk0) | (rw [hk9]; clear hk9) | skip
        refine hK _ _ (fun _ => Cls.mk (HLk.out _ cn)) ?_
        clear hK K cc
        have hWn2 := Lib.hid hWn
        clear hWn
        have cc := cn
        clear cn
        refine wpPlan_onlyU rfl (fun K hK => ?_); simp only [List.getD_cons_zero, List.getD_cons_succ]
        go_simp
        obtain ⟨k0, hk0⟩ : ∃ k, (W1).heap.size = k := ⟨_, rfl⟩
        have HK0 := Lib.hid hk0
        obtain ⟨W2, hWn⟩ : ∃ X, (W1).alloc (.cells #[] 3) = X := ⟨_, rfl⟩
        have HS0 := Lib.hid (show W2.heap.size = k0 + 1 by rw [← hWn, ← hk0]; simp)
        have cn : Ch [] w W2 := by rw [← hWn]; exact cc.alloc _
        have o0 : OwI W2 w.heap.size (.slice (some ⟨k0, 0, none⟩) 0 0) [] := by rw [← hWn, ← hk0]; exact OwI.empty _ cc.size
        first | rw [hWn] | (rw [show (W1).alloc _ = W2 from hWn])
        first | (rw [hk0]; clear hk0) | (rw [hk9]; clear hk9) | skip
        refine hK _ _ (fun _ => Cls.mk (HLk.out _ cn)) ?_
        clear hK K cc
        have hWn2 := Lib.hid hWn
        clear hWn
        have cc := cn
        clear cn
        have r9 : Rd W2 (some ⟨k9, 0, none⟩) [g] := r9.keep (show Ch [] W1 W2 by rw [← hWn2.out]; exact (Ch.refl [] W1).alloc _) (by simp)
        refine wpPlan_onlyU rfl (fun K hK => ?_); simp only [List.getD_cons_zero, List.getD_cons_succ]
        have hsrc2 := (hL.rd.keep cc (by simp)).src Try.underlying22 c
        rw [HX.out] at hsrc2
        refine wp_app (.tmp 28) (.tmp 34) rfl w.heap.size (.slice (some ⟨k0, 0, none⟩) 0 0) [] rfl o0 cc.size (.slice a n c) X rfl (by rw [HX.out]; exact hsrc2) (by have := HX.out; simp; omega) (fun v4 w4 o4 c4 n4 => ?_)
        have o4 : OwI w4 w.heap.size v4 X := by simpa using o4
        have cc4 : Ch [] w w4 := cc.transT c4 (fun k hk => .inr (o0.2 k (by simpa using hk)))
        have r9 := r9.keep c4 (by have := HS0.out; have := HS9.out; have := HK0.out; have := HK9.out; simp [Value.ownBlock]; omega)
        refine hK _ _ (fun _ => Cls.mk (HLk.out _ cc4)) ?_
        clear hK K cc hsrc2
        have cc := cc4
        clear cc4
        refine wpPlan_onlyU rfl (fun K hK => ?_); simp only [List.getD_cons_zero, List.getD_cons_succ]
        refine wp_app (.tmp 35) (.tmp 37) rfl w.heap.size v4 X rfl o4 cc.size (.slice (some ⟨k9, 0, none⟩) 1 1) [g] rfl (Rd.src (P := Try.prog) Try.underlying22 1 r9) (by have := HX.out; simp; omega) (fun v10 w10 o10 c10 _ => ?_)
        have cc10 : Ch [] w w10 := cc.transT c10 (fun k hk => .inr (o4.2 k (by simpa using hk)))
        have hl10 := HLk.out _ cc10
        refine hK _ _ (fun _ => Cls.mk hl10) ?_
        clear hK K c10
        obtain ⟨a5, c5, e5, l5⟩ := o10.lsF (S := S) hS
        have hlen5 : (X ++ [g]).length = n + 1 := by simp [HX.out]
        rw [hlen5] at e5
        subst e5
        have HX5 := Lib.hid hlen5
        clear hlen5 o10 o4 cc
        refine wpPlan_readS hl10 (fun K hK => ?_); simp only [List.getD_cons_zero, List.getD_cons_succ]; go_simp; refine hK _ ?_; clear hK K
        have h10 := h.1.still cc10
        have f10 := h10.2.1.frozen i
        have p10 := h10.2.1.cell i
        rw [show us.toArray[i]? = some (Value.slice a n c) by simpa using hus] at p10
        clear hl10 hSA hS1
        refine wpPlan_only (fun K hK => ?_)
        simp only [List.getD_cons_zero, List.getD_cons_succ]
        go_simp
        refine hK _ _ (by simp) ?_
        clear hK K f10 p10
        refine wpPlan_done ?_
        obtain ⟨R1, R2⟩ := h10.set h.2.2 (i := i) (by rw [h.2.1]; exact hi) l5 HX5.out
        go_wp2
        go_ret
        refine ⟨rfl, ⟨us.set i (.slice a5 (n + 1) c5), ?_⟩, (cc10.mono (by simp)).trans R2⟩
        unfold RW
        exact ⟨by rw [HGX.out]; exact R1, by rw [List.length_set]; exact h.2.1, h.2.2⟩
theorem refWakeNo (r : Nat) (a : Int) (w : World) (ha : a < 0 ∨ 31 < a) : Calls Try.prog 20 #[.pointer (some ⟨r, 0, none⟩), .int .i64 a] w fun e w' => e = .returned (.tuple #[.int .i64 0, .bool false]) ∧ w' = w := by
  by_cases h : a < 0
  · clear ha
    go_enter Try.func20, Try.ntmps20
    go_wp2
    go_ret2
    exact ⟨rfl, rfl⟩
  · have h1 : 31 < a := by omega
    clear ha
    go_enter Try.func20, Try.ntmps20
    go_wp2
    go_ret2
    exact ⟨rfl, rfl⟩
theorem refWakeEmpty (r : Nat) (us : List Value) (Ls : List (List Int)) (S : List Nat) (i : Nat) (w : World) (h : RW w r us Ls S) (hi : i < 32) (he : gL Ls i = []) : Calls Try.prog 20 #[.pointer (some ⟨r, 0, none⟩), .int .i64 i] w fun e w' => e = .returned (.tuple #[.int .i64 0, .bool false]) ∧ w' = w := by
  have i0 : ¬ (i : Int) < 0 := by omega
  have i1 : ¬ (31 : Int) < i := by omega
  have i2 : (0 : Int) ≤ i := by omega
  have i3 : (i : Int) < 32 := by omega
  obtain ⟨a, c, _, hcell, hL⟩ := h.1.at (i := i) (by rw [h.2.1]; omega)
  rw [he] at hcell
  clear hL he h
  go_enter Try.func20, Try.ntmps20
  go_wp2
  go_ret2
  exact ⟨rfl, rfl⟩
set_option maxHeartbeats 1000000 in
theorem refWake (r : Nat) (us : List Value) (Ls : List (List Int)) (S : List Nat) (i : Nat) (x : Int) (t : List Int) (w : World) (h : RW w r us Ls S) (hi : i < 32) (he : gL Ls i = x :: t) (hl : t.length ≤ 100000) :
    Calls Try.prog 20 #[.pointer (some ⟨r, 0, none⟩), .int .i64 i] w fun e w' => e = .returned (.tuple #[.int .i64 x, .bool true]) ∧ ∃ us', RW w' r us' (Ls.set i t) S ∧ Ch [r] w w' := by
  have i0 : ¬ (i : Int) < 0 := by omega
  have i1 : ¬ (31 : Int) < i := by omega
  have i2 : (0 : Int) ≤ i := by omega
  have i3 : (i : Int) < 32 := by omega
  obtain ⟨a, c, hus, hcell, hL⟩ := h.1.at (i := i) (by rw [h.2.1]; omega)
  rw [he] at hus hcell hL
  obtain ⟨ba, oa, rfl, hc0⟩ := hL.at (i := 0) (by simp)
  have e0 := hc0 0 (by simp)
  have hx : gI (x :: t) 0 = x := rfl
  rw [hx, Nat.add_zero] at e0
  obtain ⟨n, hn⟩ : ∃ n, t.length = n := ⟨_, rfl⟩
  rw [List.length_cons, hn] at hcell hus
  have hnc : (n : Int) + 1 ≤ c := by have h9 := hL.2.1; simp at h9; omega
  have n1 : (1 : Int) ≤ (n : Int) + 1 := by omega
  have n2 : ((n : Int) + 1 == 0) = false := by rw [beq_eq_false_iff_ne]; omega
  have HN := Lib.hid hn
  have f0 := h.1.2.1.frozen i
  have ht := hL.tail
  obtain ⟨A2, hA2⟩ : ∃ A2 : Option Addr, (if c = 1 then some ⟨ba, oa, none⟩ else some ⟨ba, oa + 1, none⟩) = A2 := ⟨_, rfl⟩
  rw [hA2] at ht
  have HA2 := Lib.hid hA2
  clear hc0 hx hn hA2
  go_enter Try.func20, Try.ntmps20
  go_upto_region 4 with fail
  refine wp_region_tail 12 (by kernel_rfl) (by kernel_rfl) ?_
  simp only [List.take_succ_cons, List.take_zero, List.drop_succ_cons, List.drop_zero]
  repeat still_step
  refine wpStill_nil ?_
  rw [HA2.out]
  have h1 : RW (w.drewN 1) r us Ls S := ⟨h.1.still ((Ch.refl [] w).drewN 1), h.2⟩
  have f1 := h1.1.2.1.frozen i
  obtain ⟨R1, R2⟩ := h1.1.set h1.2.2 (i := i) (by rw [h.2.1]; exact hi) (ht.keep ((Ch.refl [] w).drewN 1) (by simp)) HN.out
  clear f0
  go_wp2
  go_ret2
  refine ⟨rfl, ⟨us.set i (.slice A2 n (c - 1)), ?_⟩, (((Ch.refl [] w).drewN 1).mono (by simp)).trans R2⟩
  unfold RW
  exact ⟨R1, by rw [List.length_set]; exact h.2.1, h.2.2⟩
theorem refDelNone (r : Nat) (us : List Value) (Ls : List (List Int)) (S : List Nat) (g : Int) (w : World) (h : RW w r us Ls S) (hn : ∀ k, k < 32 → hitW Ls g k = false) (hl : ∀ i, (gL Ls i).length ≤ 100000) :
    Calls Try.prog 21 #[.pointer (some ⟨r, 0, none⟩), .int .i64 g] w fun e w' => e = .returned (.bool false) ∧ w' = w := by
  have HN := Lib.hid hn
  have HL := Lib.hid hl
  clear hn hl
  go_enter Try.func21, Try.ntmps21
  go_wp2
  go_loop [5] (fun s5 => ∃ k : Nat, s5 = .int .i64 k ∧ k ≤ 32) (fun s5 => 32 - (intOf s5).toNat)
  case atStart => exact ⟨0, rfl, by omega⟩
  case round =>
    obtain ⟨k, rfl, hk⟩ := hrel
    by_cases hlt : k < 32
    · obtain ⟨a, c, _, hcell, hL⟩ := h.1.at (i := k) (by rw [h.2.1]; omega)
      have hno : g ∉ gL Ls k := by have := HN.out k hlt; unfold hitW at this; simpa using this
      have hcon := outNone a (gL Ls k) g (gL Ls k).length c w hL.rd hno rfl (by have := HL.out k; omega)
      obtain ⟨n, hn⟩ : ∃ n, (gL Ls k).length = n := ⟨_, rfl⟩
      rw [hn] at hcon hcell
      have k0 : (0 : Int) ≤ k := by omega
      have k1 : (k : Int) < 32 := by omega
      clear hn hL hno
      go_wp2_with fail
      refine hcon.mono ?_; rintro e w1 ⟨rfl, rfl⟩
      clear hcon
      go_wp2_with fail
      go_round
      case rel => exact ⟨k + 1, by go_num, by omega⟩
      case measure => simp [intOf]; omega
    · obtain rfl : k = 32 := by omega
      go_wp2
      go_ret
      exact ⟨rfl, rfl⟩
theorem refDel (r : Nat) (us : List Value) (Ls : List (List Int)) (S : List Nat) (g : Int) (j : Nat) (w : World) (h : RW w r us Ls S) (hS : ∀ k ∈ S, k < w.heap.size) (hj : j < 32) (hh : hitW Ls g j = true) (hn : ∀ k, k < j → hitW Ls g k = false) (hl : ∀ i, (gL Ls i).length ≤ 100000) :
    Calls Try.prog 21 #[.pointer (some ⟨r, 0, none⟩), .int .i64 g] w fun e w' => e = .returned (.bool true) ∧ ∃ us', RW w' r us' (Ls.set j ((gL Ls j).erase g)) S ∧ Ch [r] w w' := by
  have HN := Lib.hid hn
  have HL := Lib.hid hl
  have HH := Lib.hid hh
  clear hn hl hh
  go_enter Try.func21, Try.ntmps21
  go_wp2
  go_loop [5] (fun s5 => ∃ k : Nat, s5 = .int .i64 k ∧ k ≤ j) (fun s5 => 32 - (intOf s5).toNat)
  case atStart => exact ⟨0, rfl, by omega⟩
  case round =>
    obtain ⟨k, rfl, hk⟩ := hrel
    obtain ⟨a, c, hus, hcell, hL⟩ := h.1.at (i := k) (by rw [h.2.1]; omega)
    have k0 : (0 : Int) ≤ k := by omega
    have k1 : (k : Int) < 32 := by omega
    by_cases hlt : k < j
    · have hno : g ∉ gL Ls k := by have := HN.out k hlt; unfold hitW at this; simpa using this
      have hcon := outNone a (gL Ls k) g (gL Ls k).length c w hL.rd hno rfl (by have := HL.out k; omega)
      obtain ⟨n, hn⟩ : ∃ n, (gL Ls k).length = n := ⟨_, rfl⟩
      rw [hn] at hcon hcell
      clear hn hL hno hus
      go_wp2_with fail
      refine hcon.mono ?_; rintro e w1 ⟨rfl, rfl⟩
      clear hcon
      go_wp2_with fail
      go_round
      case rel => exact ⟨k + 1, by go_num, by omega⟩
      case measure => simp [intOf]; omega
    · obtain rfl : k = j := by omega
      obtain ⟨p, q, hpq, hp, her⟩ := contains_split (show (gL Ls k).contains g = true from HH.out)
      have hLr := hL.rd
      have hL2 := hL.2.1
      have hLk := HL.out k
      rw [hpq] at hLr hcell hL2 hLk hus
      have hcon := outFound a p q g (p ++ g :: q).length c w hLr hp rfl hL2 (by omega)
      obtain ⟨n, hn⟩ : ∃ n, (p ++ g :: q).length = n := ⟨_, rfl⟩
      rw [hn] at hcon hcell hus
      have HE := Lib.hid her
      have f0 := h.1.2.1.frozen k
      clear hn hL hLr hL2 hpq her
      go_wp2_with fail
      refine hcon.mono ?_; rintro e w1 ⟨v1, rfl, o1, c1⟩
      clear hcon
      have h1 := h.1.still c1
      obtain ⟨a1, d1, e1, l1⟩ := o1.lsF (S := S) hS
      obtain ⟨m, hm⟩ : ∃ m, (p ++ q).length = m := ⟨_, rfl⟩
      rw [hm] at e1
      subst e1
      have HM := Lib.hid hm
      have f1 := h1.2.1.frozen k
      have p1 := h1.2.1.cell k
      rw [show us.toArray[k]? = some (Value.slice a n c) by simpa using hus] at p1
      obtain ⟨R1, R2⟩ := h1.set h.2.2 (i := k) (by rw [h.2.1]; exact hj) l1 HM.out
      clear hm f0 hcell
      go_wp2
      go_ret
      refine ⟨rfl, us.set k (.slice a1 m d1), ?_, (c1.mono (by simp)).trans R2⟩
      unfold RW
      exact ⟨by rw [HE.out]; exact R1, by rw [List.length_set]; exact h.2.1, h.2.2⟩
theorem refLen (r : Nat) (us : List Value) (Ls : List (List Int)) (S : List Nat) (w : World) (h : RW w r us Ls S) (hl : ∀ k, k ≤ 32 → lensOf Ls k ≤ 100000) :
    Calls Try.prog 22 #[.pointer (some ⟨r, 0, none⟩)] w fun e w' => e = .returned (.int .i64 (lensOf Ls 32)) ∧ w' = w := by
  have HL := Lib.hid hl
  clear hl
  go_enter Try.func22, Try.ntmps22
  go_wp2
  go_loop [3, 4] (fun s3 s4 => ∃ k : Nat, s4 = .int .i64 k ∧ k ≤ 32 ∧ s3 = .int .i64 (lensOf Ls k)) (fun _ s4 => 32 - (intOf s4).toNat)
  case atStart => exact ⟨0, rfl, by omega, rfl⟩
  case round =>
    obtain ⟨k, rfl, hk, rfl⟩ := hrel
    by_cases hlt : k < 32
    · obtain ⟨a, c, _, hcell, hL⟩ := h.1.at (i := k) (by rw [h.2.1]; omega)
      have e1 := lensOf_succ Ls k (by rw [h.2.1]; exact hlt)
      have e2 := HL.out (k + 1) (by omega)
      rw [e1] at e2
      obtain ⟨n, hn⟩ : ∃ n, (gL Ls k).length = n := ⟨_, rfl⟩
      obtain ⟨m, hm⟩ : ∃ m, lensOf Ls k = m := ⟨_, rfl⟩
      rw [hn] at hcell e1 e2
      rw [hm] at e1 e2 ⊢
      have k0 : (0 : Int) ≤ k := by omega
      have k1 : (k : Int) < 32 := by omega
      have HE := Lib.hid e1
      clear hn hL e1 hm
      go_wp2_with fail
      go_round
      case rel => exact ⟨k + 1, by go_num, by omega, by rw [HE.out]; go_num⟩
      case measure => simp [intOf]; omega
    · obtain rfl : k = 32 := by omega
      go_wp2
      go_ret
      exact ⟨rfl, rfl⟩
def hitAny (Ls : List (List Int)) (g : Int) : Bool := (List.range 32).any fun k => hitW Ls g k
theorem hit_cases (Ls : List (List Int)) (g : Int) : (hitAny Ls g = false ∧ ∀ k, k < 32 → hitW Ls g k = false) ∨ (hitAny Ls g = true ∧ ∃ j, j < 32 ∧ hitW Ls g j = true ∧ ∀ k, k < j → hitW Ls g k = false) := by
  rcases first_hit (hitW Ls g) 32 with h | ⟨j, hj, h1, h2⟩
  · refine .inl ⟨?_, h⟩
    simp only [hitAny, List.any_eq_false, List.mem_range]
    intro k hk
    rw [h k hk]
    simp
  · refine .inr ⟨?_, j, hj, h1, h2⟩
    simp only [hitAny, List.any_eq_true, List.mem_range]
    exact ⟨j, hj, h1⟩
/-- What Wait comes to. -/
def waitR (Ls : List (List Int)) (a g : Int) : Int := if a < 0 ∨ 31 < a then 2 else if hitAny Ls g then 5 else 0
def waitL (Ls : List (List Int)) (a g : Int) : List (List Int) := if a < 0 ∨ 31 < a then Ls else if hitAny Ls g then Ls else Ls.set a.toNat (gL Ls a.toNat ++ [g])
/-- What Wake comes to. -/
def wakeV (Ls : List (List Int)) (a : Int) : Int := if a < 0 ∨ 31 < a then 0 else (gL Ls a.toNat).headD 0
def wakeB (Ls : List (List Int)) (a : Int) : Bool := if a < 0 ∨ 31 < a then false else !(gL Ls a.toNat).isEmpty
def wakeL (Ls : List (List Int)) (a : Int) : List (List Int) := if a < 0 ∨ 31 < a then Ls else Ls.set a.toNat (gL Ls a.toNat).tail
/-- What Del comes to. -/
def delL (Ls : List (List Int)) (g : Int) : List (List Int) := match (List.range 32).find? (fun k => hitW Ls g k) with
  | some j => Ls.set j ((gL Ls j).erase g)
  | none => Ls
theorem delL_none {Ls : List (List Int)} {g : Int} (h : ∀ k, k < 32 → hitW Ls g k = false) : delL Ls g = Ls := by
  unfold delL
  rw [List.find?_eq_none.2 (by intro k hk; rw [List.mem_range] at hk; rw [h k hk]; simp)]
theorem delL_at {Ls : List (List Int)} {g : Int} {j : Nat} (hj : j < 32) (h1 : hitW Ls g j = true) (h2 : ∀ k, k < j → hitW Ls g k = false) : delL Ls g = Ls.set j ((gL Ls j).erase g) := by
  unfold delL
  have : (List.range 32).find? (fun k => hitW Ls g k) = some j := by
    rw [List.find?_eq_some_iff_append]
    refine ⟨h1, List.range j, (List.range (32 - j - 1)).map (· + (j + 1)), ?_, ?_⟩
    · apply List.ext_getElem
      · simp; omega
      · intro n h3 h4
        simp only [List.getElem_range, List.getElem_append, List.length_range, List.getElem_cons, List.getElem_map]
        split
        · rfl
        · split
          · omega
          · omega
    · intro k hk
      rw [List.mem_range] at hk
      rw [h2 k hk]
      simp
  rw [this]
theorem self_set (Ls : List (List Int)) (i : Nat) (h : gL Ls i = []) : Ls.set i [] = Ls := by
  apply List.ext_getElem
  · simp
  · intro n h1 h2
    rw [List.getElem_set]
    split
    · rename_i hi
      subst hi
      rw [← h]
      simp [gL, List.getD_eq_getElem?_getD, h2]
    · rfl
theorem refWaitAny (r : Nat) (us : List Value) (Ls : List (List Int)) (S : List Nat) (a g : Int) (w : World) (h : RW w r us Ls S) (hS : ∀ k ∈ S, k < w.heap.size) (hl : ∀ i, (gL Ls i).length ≤ 100000) :
    Calls Try.prog 19 #[.pointer (some ⟨r, 0, none⟩), .int .i64 a, .int .i64 g] w fun e w' => e = .returned (.int .i64 (waitR Ls a g)) ∧ (∃ us', RW w' r us' (waitL Ls a g) S) ∧ Ch [r] w w' := by
  unfold waitR waitL
  by_cases ha : a < 0 ∨ 31 < a
  · rw [if_pos ha, if_pos ha]
    refine (refWaitNo r a g w ha).mono ?_
    rintro e w' ⟨rfl, rfl⟩
    exact ⟨rfl, ⟨us, h⟩, Ch.refl _ _⟩
  · rw [if_neg ha, if_neg ha]
    obtain ⟨i, hi⟩ : ∃ i : Nat, a = i := ⟨a.toNat, by omega⟩
    subst hi
    rcases hit_cases Ls g with ⟨h1, h2⟩ | ⟨h1, j, hj, h2, h3⟩
    · rw [h1]
      refine (refWait r us Ls S g i w h hS (by omega) h2 hl).mono ?_
      rintro e w' ⟨rfl, us', h3, h4⟩
      exact ⟨rfl, ⟨us', h3⟩, h4⟩
    · rw [h1]
      refine (refWaitIn r us Ls S g i j w h (by omega) hj h2 h3 hl).mono ?_
      rintro e w' ⟨rfl, rfl⟩
      exact ⟨rfl, ⟨us, h⟩, Ch.refl _ _⟩
theorem waitWaitAny (b : Nat) (vs : List Value) (Ls : List (List Int)) (a g : Int) (w : World) (h : WaitsAt w b vs Ls) (hl : ∀ i, (gL Ls i).length ≤ 100000) :
    Calls Try.prog 14 #[.pointer (some ⟨b, 0, none⟩), .int .i64 a, .int .i64 g] w fun e w' => e = .returned (.int .i64 (waitR Ls a g)) ∧
      ∃ vs', WaitsAt w' b vs' (waitL Ls a g) ∧ Ch (b :: blocksOf vs) w w' ∧ (∀ k ∈ blocksOf vs', k ∈ blocksOf vs ∨ w.heap.size ≤ k) := by
  unfold waitR waitL
  by_cases ha : a < 0 ∨ 31 < a
  · rw [if_pos ha, if_pos ha]
    refine (waitWaitNo b a g w ha).mono ?_
    rintro e w' ⟨rfl, rfl⟩
    exact ⟨rfl, vs, h, Ch.refl _ _, fun k hk => .inl hk⟩
  · rw [if_neg ha, if_neg ha]
    obtain ⟨i, hi⟩ : ∃ i : Nat, a = i := ⟨a.toNat, by omega⟩
    subst hi
    have cv : ∀ k, hitW Ls g k = false → g ∉ gL Ls k := fun k hk => by unfold hitW at hk; simpa using hk
    rcases hit_cases Ls g with ⟨h1, h2⟩ | ⟨h1, j, hj, h2, h3⟩
    · rw [h1]
      exact waitWait b vs Ls g i w h (by omega) (fun k hk => cv k (h2 k hk)) hl
    · rw [h1]
      refine (waitWaitIn b vs Ls g i j w h (by omega) hj (by unfold hitW at h2; simpa using h2) (fun k hk => cv k (h3 k hk)) hl).mono ?_
      rintro e w' ⟨rfl, rfl⟩
      exact ⟨rfl, vs, h, Ch.refl _ _, fun k hk => .inl hk⟩
theorem refWakeAny (r : Nat) (us : List Value) (Ls : List (List Int)) (S : List Nat) (a : Int) (w : World) (h : RW w r us Ls S) (hl : ∀ i, (gL Ls i).length ≤ 100000) :
    Calls Try.prog 20 #[.pointer (some ⟨r, 0, none⟩), .int .i64 a] w fun e w' => e = .returned (.tuple #[.int .i64 (wakeV Ls a), .bool (wakeB Ls a)]) ∧ (∃ us', RW w' r us' (wakeL Ls a) S) ∧ Ch [r] w w' := by
  unfold wakeV wakeB wakeL
  by_cases ha : a < 0 ∨ 31 < a
  · rw [if_pos ha, if_pos ha, if_pos ha]
    refine (refWakeNo r a w ha).mono ?_
    rintro e w' ⟨rfl, rfl⟩
    exact ⟨rfl, ⟨us, h⟩, Ch.refl _ _⟩
  · rw [if_neg ha, if_neg ha, if_neg ha]
    obtain ⟨i, hi⟩ : ∃ i : Nat, a = i := ⟨a.toNat, by omega⟩
    subst hi
    rw [Int.toNat_natCast]
    cases hL : gL Ls i with
    | nil =>
      refine (refWakeEmpty r us Ls S i w h (by omega) hL).mono ?_
      rintro e w' ⟨rfl, rfl⟩
      rw [List.tail_nil, self_set Ls i hL]
      exact ⟨rfl, ⟨us, h⟩, Ch.refl _ _⟩
    | cons x t =>
      refine (refWake r us Ls S i x t w h (by omega) hL (by have := hl i; rw [hL] at this; simp at this; omega)).mono ?_
      rintro e w' ⟨rfl, us', h1, h2⟩
      exact ⟨rfl, ⟨us', h1⟩, h2⟩
theorem waitWakeAny (b : Nat) (vs : List Value) (Ls : List (List Int)) (a : Int) (w : World) (h : WaitsAt w b vs Ls) (hl : ∀ i, (gL Ls i).length ≤ 100000) :
    Calls Try.prog 12 #[.pointer (some ⟨b, 0, none⟩), .int .i64 a] w fun e w' => e = .returned (.tuple #[.int .i64 (wakeV Ls a), .bool (wakeB Ls a)]) ∧
      ∃ vs', WaitsAt w' b vs' (wakeL Ls a) ∧ Ch (b :: blocksOf vs) w w' ∧ (∀ k ∈ blocksOf vs', k ∈ blocksOf vs ∨ w.heap.size ≤ k) := by
  unfold wakeV wakeB wakeL
  by_cases ha : a < 0 ∨ 31 < a
  · rw [if_pos ha, if_pos ha, if_pos ha]
    refine (waitWakeNo b a w ha).mono ?_
    rintro e w' ⟨rfl, rfl⟩
    exact ⟨rfl, vs, h, Ch.refl _ _, fun k hk => .inl hk⟩
  · rw [if_neg ha, if_neg ha, if_neg ha]
    obtain ⟨i, hi⟩ : ∃ i : Nat, a = i := ⟨a.toNat, by omega⟩
    subst hi
    rw [Int.toNat_natCast]
    cases hL : gL Ls i with
    | nil =>
      refine (waitWakeEmpty b vs Ls i w h (by omega) hL).mono ?_
      rintro e w' ⟨rfl, rfl⟩
      rw [List.tail_nil, self_set Ls i hL]
      exact ⟨rfl, vs, h, Ch.refl _ _, fun k hk => .inl hk⟩
    | cons x t => exact waitWake b vs Ls i x t w h (by omega) hL (by have := hl i; rw [hL] at this; simp at this; omega)
theorem refDelAny (r : Nat) (us : List Value) (Ls : List (List Int)) (S : List Nat) (g : Int) (w : World) (h : RW w r us Ls S) (hS : ∀ k ∈ S, k < w.heap.size) (hl : ∀ i, (gL Ls i).length ≤ 100000) :
    Calls Try.prog 21 #[.pointer (some ⟨r, 0, none⟩), .int .i64 g] w fun e w' => e = .returned (.bool (hitAny Ls g)) ∧ (∃ us', RW w' r us' (delL Ls g) S) ∧ Ch [r] w w' := by
  rcases hit_cases Ls g with ⟨h1, h2⟩ | ⟨h1, j, hj, h2, h3⟩
  · rw [h1, delL_none h2]
    refine (refDelNone r us Ls S g w h h2 hl).mono ?_
    rintro e w' ⟨rfl, rfl⟩
    exact ⟨rfl, ⟨us, h⟩, Ch.refl _ _⟩
  · rw [h1, delL_at hj h2 h3]
    refine (refDel r us Ls S g j w h hS hj h2 h3 hl).mono ?_
    rintro e w' ⟨rfl, us', h4, h5⟩
    exact ⟨rfl, ⟨us', h4⟩, h5⟩
end Go.Proofs.Ytaafdhohiekakaa
