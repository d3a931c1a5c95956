/-
  Contracts of the document's answer for layer 8 (spans in common): Put, Begin, Unswept, Any. Conditions: none beyond what each theorem names.
-/
import Derived.Test.YtaafdhohiekakaaRefCent
namespace Go.Proofs.Ytaafdhohiekakaa
open Go.RowKit
section
variable {w w0 w2 : World} {r : Nat} {us : List Value} {Ls : List (List Int)} {S : List Nat}
theorem okC_lt' {k : Int} (h : okC k = true) : 0 ≤ k ∧ k < 16 := by simpa [okC] using h
theorem RC.lens (h : RC w r us Ls S) : Ls.length = 64 := h.2.1
theorem refCDel (x : Int) (h : RC w r us Ls S) (hS : ∀ k ∈ S, k < w.heap.size) (hl : ∀ i, (gL Ls i).length ≤ 50000) :
    Calls Try.prog 37 #[.pointer (some ⟨r, 0, none⟩), .int .i64 x] w fun e w' => e = .returned (.bool (hitC Ls x)) ∧ RCx w' r (delC Ls x) S ∧ Ch [r] w w' := by
  rcases delC_cases Ls x with ⟨h1, h2, h3⟩ | ⟨i, p, q, hi, h1, h2, h3, h4, h5⟩
  · rw [h1, h2]
    refine (refCDelNone x h h3 (fun i => by have := hl i; omega)).mono ?_
    rintro e w' ⟨rfl, rfl⟩
    exact ⟨rfl, ⟨us, h⟩, Ch.refl _ _⟩
  · rw [h4, h5]
    exact refCDelAt x i p q h hS hi h1 h2 h3 (fun i => by have := hl i; omega)
theorem refCPutNo (r : Nat) (k x : Int) (b : Bool) (w : World) (hk : okC k = false) : Calls Try.prog 31 #[.pointer (some ⟨r, 0, none⟩), .int .i64 k, .int .i64 x, .bool b] w fun e w' => e = .returned (.tuple #[]) ∧ w' = w := by
  have hk' : k < 0 ∨ 15 < k := by
    simp only [okC, Bool.and_eq_false_iff, decide_eq_false_iff_not] at hk
    omega
  clear hk
  by_cases h : k < 0
  · clear hk'
    go_enter Try.func31, Try.ntmps31
    go_wp2
    exact bodyPost_ret (results_none rfl _ _ _) rfl ⟨rfl, rfl⟩
  · have h1 : 15 < k := by omega
    clear hk'
    go_enter Try.func31, Try.ntmps31
    go_wp2
    exact bodyPost_ret (results_none rfl _ _ _) rfl ⟨rfl, rfl⟩
set_option maxHeartbeats 4000000 in
theorem refCPutYes (k : Nat) (x : Int) (b : Bool) (h : RC w r us Ls S) (hS : ∀ k ∈ S, k < w.heap.size) (hk : k < 16) (hl : ∀ i, (gL Ls i).length ≤ 50000) :
    Calls Try.prog 31 #[.pointer (some ⟨r, 0, none⟩), .int .i64 k, .int .i64 x, .bool b] w fun e w' => e = .returned (.tuple #[]) ∧ RCx w' r (putC Ls k x b) S ∧ Ch [r] w w' := by
  unfold putC
  rw [if_pos (okC_nat hk), Int.toNat_natCast]
  have hd := refCDel x h hS hl
  have hM := delC_le Ls x 50000 hl
  obtain ⟨Ms, hMs⟩ : ∃ Ms, delC Ls x = Ms := ⟨_, rfl⟩
  rw [hMs] at hd hM ⊢
  have HL := Lib.hid hM
  have k0 : ¬ (k : Int) < 0 := by omega
  have k1 : ¬ (15 : Int) < k := by omega
  have k2 : (0 : Int) ≤ k := by omega
  have k3 : (k : Int) < 16 := by omega
  clear hMs hM h hl
  cases b
  · rw [show sd false = 0 from rfl, Nat.add_zero]
    go_enter Try.func31, Try.ntmps31
    go_wp2_with fail
    refine hd.mono ?_; rintro e w ⟨rfl, ⟨us, h⟩, c0⟩
    have hS : ∀ k ∈ S, k < w.heap.size := fun k hk => Nat.lt_of_lt_of_le (hS k hk) c0.size
    clear hd
    obtain ⟨a, c, hus, hcell, hL⟩ := h.1.at (i := k * 4) (by rw [h.2.1]; omega)
    obtain ⟨X, hX⟩ : ∃ X, gL Ms (k * 4) = X := ⟨_, rfl⟩
    have hXl := HL.out (k * 4)
    rw [hX] at hus hcell hL hXl
    obtain ⟨n, hn⟩ : ∃ n, X.length = n := ⟨_, rfl⟩
    rw [hn] at hus hcell hXl
    have HX := Lib.hid hn
    have HGX := Lib.hid hX
    clear hn hX
    go_upto_region 5 with fail
    obtain ⟨L, hLL⟩ : ∃ L : World → Prop, ∀ w', L w' ↔ (w'.cell? ⟨r, k * 4, none⟩ = some (.slice a n c)) := ⟨_, fun _ => Iff.rfl⟩
    have hS1 : ∀ x : { w' : World // L w' }, x.1.cell? ⟨r, k * 4, none⟩ = some (.slice a n c) := fun x => (hLL _).1 x.2
    have hLk : ∀ w', Ch [] w w' → L w' := fun w' hc => (hLL _).2 (by rw [(h.1.still hc).2.1.cell]; rw [h.1.2.1.cell] at hcell; exact hcell)
    have hSA : Nonempty { w' : World // L w' } := ⟨⟨_, hLk w (Ch.refl _ _)⟩⟩
    have HLk := Lib.hid hLk
    clear hLL hLk
    refine wp_region_plan (Cls L) [2, 3, 4, 5, 6, 7, 8, 9, 10, 11, 12, 13, 14, 15, 19] (.pures [0, 1, 16, 17, 18] (.reads [2, 4, 5, 6, 7, 8, 9, 10, 11, 13] (.alt 3 (.alt 12 (.only 14 (.only 15 (.reads [19] (.only 20 .done)))) (.alt 14 (.only 12 (.only 15 (.reads [19] (.only 20 .done)))) .done)) (.alt 14 (.only 3 (.only 12 (.only 15 (.reads [19] (.only 20 .done))))) .done)))) (by kernel_rfl) (by kernel_rfl) (fun _ _ _ _ _ h => h) ?_
    simp only [Plan.pures, Plan.reads, Plan.only, List.foldr_cons, List.foldr_nil]
    obtain ⟨W0, hW0⟩ : ∃ W0, w.drewN 1 = W0 := ⟨_, rfl⟩
    have cc : Ch [] w W0 := by rw [← hW0]; exact (Ch.refl [] w).drewN 1
    rw [hW0]
    clear hW0 hcell
    have hl0 := HLk.out _ cc
    iterate 5 (refine wpPlan_pure (fun K hK => ?_); simp only [List.getD_cons_zero, List.getD_cons_succ]; go_simp; refine hK _ ?_; clear hK K)
    iterate 10 (refine wpPlan_readS hl0 (fun K hK => ?_); simp only [List.getD_cons_zero, List.getD_cons_succ]; go_simp; refine hK _ ?_; clear hK K)
    clear hl0
    refine wpPlan_altU rfl (fun K hK => ?_) ?_; simp only [List.getD_cons_zero, List.getD_cons_succ]
    · go_simp
      obtain ⟨k0, hk0⟩ : ∃ k, (W0).heap.size = k := ⟨_, rfl⟩
      have HK0 := Lib.hid hk0
      obtain ⟨W1, hWn⟩ : ∃ X, (W0).alloc (.cells #[] 3) = X := ⟨_, rfl⟩
      have HS0 := Lib.hid (show W1.heap.size = k0 + 1 by rw [← hWn, ← hk0]; simp)
      have cn : Ch [] w W1 := by rw [← hWn]; exact cc.alloc _
      have o0 : OwI W1 w.heap.size (.slice (some ⟨k0, 0, none⟩) 0 0) [] := by rw [← hWn, ← hk0]; exact OwI.empty _ cc.size
      first | rw [hWn] | (rw [show (W0).alloc _ = W1 from hWn])
      first | (rw [hk0]; clear hk0) | (rw [hk9]; clear hk9) | skip
      refine hK _ _ (fun _ => Cls.mk (HLk.out _ cn)) ?_
      clear hK K cc
      have hWn2 := Lib.hid hWn
      clear hWn
      have cc := cn
      clear cn
      refine wpPlan_altU rfl (fun K hK => ?_) ?_; simp only [List.getD_cons_zero, List.getD_cons_succ]
      · have hsrc2 := (hL.rd.keep cc (by simp)).src Try.underlying22 c
        rw [HX.out] at hsrc2
        refine wp_app (.tmp 22) (.tmp 30) rfl w.heap.size (.slice (some ⟨k0, 0, none⟩) 0 0) [] rfl o0 cc.size (.slice a n c) X rfl (by rw [HX.out]; exact hsrc2) (by have := HX.out; simp; omega) (fun v4 w4 o4 c4 n4 => ?_)
        have o4 : OwI w4 w.heap.size v4 X := by simpa using o4
        have cc4 : Ch [] w w4 := cc.transT c4 (fun k hk => .inr (o0.2 k (by simpa using hk)))
        refine hK _ _ (fun _ => Cls.mk (HLk.out _ cc4)) ?_
        clear hK K cc hsrc2
        have cc := cc4
        clear cc4
        refine wpPlan_onlyU rfl (fun K hK => ?_); simp only [List.getD_cons_zero, List.getD_cons_succ]
        go_simp
        obtain ⟨k9, hk9⟩ : ∃ k, (w4).heap.size = k := ⟨_, rfl⟩
        have HK9 := Lib.hid hk9
        obtain ⟨W2, hWn⟩ : ∃ X, (w4).alloc (.cells #[.int .i64 x] 3) = X := ⟨_, rfl⟩
        have HS9 := Lib.hid (show W2.heap.size = k9 + 1 by rw [← hWn, ← hk9]; simp)
        have cn : Ch [] w W2 := by rw [← hWn]; exact cc.alloc _
        have r9 : Rd W2 (some ⟨k9, 0, none⟩) [x] := by rw [← hWn, ← hk9]; exact rd_lit _ [x]
        first | rw [hWn] | (rw [show (w4).alloc _ = W2 from hWn])
        first | (rw [hk0]; clear hk0) | (rw [hk9]; clear hk9) | skip
        refine hK _ _ (fun _ => Cls.mk (HLk.out _ cn)) ?_
        clear hK K cc
        have hWn2 := Lib.hid hWn
        clear hWn
        have cc := cn
        clear cn
        have o4 : OwI W2 w.heap.size v4 X := by rw [← hWn2.out]; exact o4.alloc _
        refine wpPlan_onlyU rfl (fun K hK => ?_); simp only [List.getD_cons_zero, List.getD_cons_succ]
        refine wp_app (.tmp 31) (.tmp 33) rfl w.heap.size v4 X rfl o4 cc.size (.slice (some ⟨k9, 0, none⟩) 1 1) [x] rfl (Rd.src (P := Try.prog) Try.underlying22 1 r9) (by have := HX.out; simp; omega) (fun v10 w10 o10 c10 _ => ?_)
        have cc10 : Ch [] w w10 := cc.transT c10 (fun k hk => .inr (o4.2 k (by simpa using hk)))
        have hl10 := HLk.out _ cc10
        refine hK _ _ (fun _ => Cls.mk hl10) ?_
        clear hK K c10
        obtain ⟨a5, c5, e5, l5⟩ := o10.lsF (S := S) hS
        have hlen5 : (X ++ [x]).length = n + 1 := by simp [HX.out]
        rw [hlen5] at e5
        subst e5
        have HX5 := Lib.hid hlen5
        clear hlen5 o10 o4 cc
        refine wpPlan_readS hl10 (fun K hK => ?_); simp only [List.getD_cons_zero, List.getD_cons_succ]; go_simp; refine hK _ ?_; clear hK K
        have h10 := h.1.still cc10
        have f10 := h10.2.1.frozen (k * 4)
        have p10 := h10.2.1.cell (k * 4)
        rw [show us.toArray[k * 4]? = some (Value.slice a n c) by simpa using hus] at p10
        clear hl10 hSA hS1
        refine wpPlan_only (fun K hK => ?_)
        simp only [List.getD_cons_zero, List.getD_cons_succ]
        go_simp
        refine hK _ _ (by simp) ?_
        clear hK K f10 p10
        refine wpPlan_done ?_
        obtain ⟨R1, R2⟩ := h10.set h.2.2 (i := k * 4) (by rw [h.2.1]; omega) l5 HX5.out
        go_wp2
        go_end0
        exact ⟨rfl, ⟨us.set (k * 4) (.slice a5 (n + 1) c5), by rw [HGX.out]; exact R1, by rw [List.length_set]; exact h.2.1, h.2.2⟩, c0.trans ((cc10.mono (by simp)).trans R2)⟩
      · refine wpPlan_altU rfl (fun K hK => ?_) (by simp [wpPlan]); simp only [List.getD_cons_zero, List.getD_cons_succ]
        go_simp
        obtain ⟨k9, hk9⟩ : ∃ k, (W1).heap.size = k := ⟨_, rfl⟩
        have HK9 := Lib.hid hk9
        obtain ⟨W2, hWn⟩ : ∃ X, (W1).alloc (.cells #[.int .i64 x] 3) = X := ⟨_, rfl⟩
        have HS9 := Lib.hid (show W2.heap.size = k9 + 1 by rw [← hWn, ← hk9]; simp)
        have cn : Ch [] w W2 := by rw [← hWn]; exact cc.alloc _
        have r9 : Rd W2 (some ⟨k9, 0, none⟩) [x] := by rw [← hWn, ← hk9]; exact rd_lit _ [x]
        first | rw [hWn] | (rw [show (W1).alloc _ = W2 from hWn])
        first | (rw [hk0]; clear hk0) | (rw [hk9]; clear hk9) | skip
        refine hK _ _ (fun _ => Cls.mk (HLk.out _ cn)) ?_
        clear hK K cc
        have hWn2 := Lib.hid hWn
        clear hWn
        have cc := cn
        clear cn
        have o0 : OwI W2 w.heap.size (.slice (some ⟨k0, 0, none⟩) 0 0) [] := by rw [← hWn2.out]; exact o0.alloc _
        refine wpPlan_onlyU rfl (fun K hK => ?_); simp only [List.getD_cons_zero, List.getD_cons_succ]
        have hsrc2 := (hL.rd.keep cc (by simp)).src Try.underlying22 c
        rw [HX.out] at hsrc2
        refine wp_app (.tmp 22) (.tmp 30) rfl w.heap.size (.slice (some ⟨k0, 0, none⟩) 0 0) [] rfl o0 cc.size (.slice a n c) X rfl (by rw [HX.out]; exact hsrc2) (by have := HX.out; simp; omega) (fun v4 w4 o4 c4 n4 => ?_)
        have o4 : OwI w4 w.heap.size v4 X := by simpa using o4
        have cc4 : Ch [] w w4 := cc.transT c4 (fun k hk => .inr (o0.2 k (by simpa using hk)))
        have r9 := r9.keep c4 (by have := HS0.out; have := HS9.out; have := HK0.out; have := HK9.out; simp [Value.ownBlock]; omega)
        refine hK _ _ (fun _ => Cls.mk (HLk.out _ cc4)) ?_
        clear hK K cc hsrc2
        have cc := cc4
        clear cc4
        refine wpPlan_onlyU rfl (fun K hK => ?_); simp only [List.getD_cons_zero, List.getD_cons_succ]
        refine wp_app (.tmp 31) (.tmp 33) rfl w.heap.size v4 X rfl o4 cc.size (.slice (some ⟨k9, 0, none⟩) 1 1) [x] rfl (Rd.src (P := Try.prog) Try.underlying22 1 r9) (by have := HX.out; simp; omega) (fun v10 w10 o10 c10 _ => ?_)
        have cc10 : Ch [] w w10 := cc.transT c10 (fun k hk => .inr (o4.2 k (by simpa using hk)))
        have hl10 := HLk.out _ cc10
        refine hK _ _ (fun _ => Cls.mk hl10) ?_
        clear hK K c10
        obtain ⟨a5, c5, e5, l5⟩ := o10.lsF (S := S) hS
        have hlen5 : (X ++ [x]).length = n + 1 := by simp [HX.out]
        rw [hlen5] at e5
        subst e5
        have HX5 := Lib.hid hlen5
        clear hlen5 o10 o4 cc
        refine wpPlan_readS hl10 (fun K hK => ?_); simp only [List.getD_cons_zero, List.getD_cons_succ]; go_simp; refine hK _ ?_; clear hK K
        have h10 := h.1.still cc10
        have f10 := h10.2.1.frozen (k * 4)
        have p10 := h10.2.1.cell (k * 4)
        rw [show us.toArray[k * 4]? = some (Value.slice a n c) by simpa using hus] at p10
        clear hl10 hSA hS1
        refine wpPlan_only (fun K hK => ?_)
        simp only [List.getD_cons_zero, List.getD_cons_succ]
        go_simp
        refine hK _ _ (by simp) ?_
        clear hK K f10 p10
        refine wpPlan_done ?_
        obtain ⟨R1, R2⟩ := h10.set h.2.2 (i := k * 4) (by rw [h.2.1]; omega) l5 HX5.out
        go_wp2
        go_end0
        exact ⟨rfl, ⟨us.set (k * 4) (.slice a5 (n + 1) c5), by rw [HGX.out]; exact R1, by rw [List.length_set]; exact h.2.1, h.2.2⟩, c0.trans ((cc10.mono (by simp)).trans R2)⟩
    · refine wpPlan_altU rfl (fun K hK => ?_) (by simp [wpPlan]); simp only [List.getD_cons_zero, List.getD_cons_succ]
      go_simp
      obtain ⟨k9, hk9⟩ : ∃ k, (W0).heap.size = k := ⟨_, rfl⟩
      have HK9 := Lib.hid hk9
      obtain ⟨W1, hWn⟩ : ∃ X, (W0).alloc (.cells #[.int .i64 x] 3) = X := ⟨_, rfl⟩
      have HS9 := Lib.hid (show W1.heap.size = k9 + 1 by rw [← hWn, ← hk9]; simp)
      have cn : Ch [] w W1 := by rw [← hWn]; exact cc.alloc _
      have r9 : Rd W1 (some ⟨k9, 0, none⟩) [x] := by rw [← hWn, ← hk9]; exact rd_lit _ [x]
      first | rw [hWn] | (rw [show (W0).alloc _ = W1 from hWn])
      first | (rw [hk0]; clear hk0) | (rw [hk9]; clear hk9) | skip
      refine hK _ _ (fun _ => Cls.mk (HLk.out _ cn)) ?_
      clear hK K cc
      have hWn2 := Lib.hid hWn
      clear hWn
      have cc := cn
      clear cn
      refine wpPlan_onlyU rfl (fun K hK => ?_); simp only [List.getD_cons_zero, List.getD_cons_succ]
      go_simp
      obtain ⟨k0, hk0⟩ : ∃ k, (W1).heap.size = k := ⟨_, rfl⟩
      have HK0 := Lib.hid hk0
      obtain ⟨W2, hWn⟩ : ∃ X, (W1).alloc (.cells #[] 3) = X := ⟨_, rfl⟩
      have HS0 := Lib.hid (show W2.heap.size = k0 + 1 by rw [← hWn, ← hk0]; simp)
      have cn : Ch [] w W2 := by rw [← hWn]; exact cc.alloc _
      have o0 : OwI W2 w.heap.size (.slice (some ⟨k0, 0, none⟩) 0 0) [] := by rw [← hWn, ← hk0]; exact OwI.empty _ cc.size
      first | rw [hWn] | (rw [show (W1).alloc _ = W2 from hWn])
      first | (rw [hk0]; clear hk0) | (rw [hk9]; clear hk9) | skip
      refine hK _ _ (fun _ => Cls.mk (HLk.out _ cn)) ?_
      clear hK K cc
      have hWn2 := Lib.hid hWn
      clear hWn
      have cc := cn
      clear cn
      have r9 : Rd W2 (some ⟨k9, 0, none⟩) [x] := r9.keep (show Ch [] W1 W2 by rw [← hWn2.out]; exact (Ch.refl [] W1).alloc _) (by simp)
      refine wpPlan_onlyU rfl (fun K hK => ?_); simp only [List.getD_cons_zero, List.getD_cons_succ]
      have hsrc2 := (hL.rd.keep cc (by simp)).src Try.underlying22 c
      rw [HX.out] at hsrc2
      refine wp_app (.tmp 22) (.tmp 30) rfl w.heap.size (.slice (some ⟨k0, 0, none⟩) 0 0) [] rfl o0 cc.size (.slice a n c) X rfl (by rw [HX.out]; exact hsrc2) (by have := HX.out; simp; omega) (fun v4 w4 o4 c4 n4 => ?_)
      have o4 : OwI w4 w.heap.size v4 X := by simpa using o4
      have cc4 : Ch [] w w4 := cc.transT c4 (fun k hk => .inr (o0.2 k (by simpa using hk)))
      have r9 := r9.keep c4 (by have := HS0.out; have := HS9.out; have := HK0.out; have := HK9.out; simp [Value.ownBlock]; omega)
      refine hK _ _ (fun _ => Cls.mk (HLk.out _ cc4)) ?_
      clear hK K cc hsrc2
      have cc := cc4
      clear cc4
      refine wpPlan_onlyU rfl (fun K hK => ?_); simp only [List.getD_cons_zero, List.getD_cons_succ]
      refine wp_app (.tmp 31) (.tmp 33) rfl w.heap.size v4 X rfl o4 cc.size (.slice (some ⟨k9, 0, none⟩) 1 1) [x] rfl (Rd.src (P := Try.prog) Try.underlying22 1 r9) (by have := HX.out; simp; omega) (fun v10 w10 o10 c10 _ => ?_)
      have cc10 : Ch [] w w10 := cc.transT c10 (fun k hk => .inr (o4.2 k (by simpa using hk)))
      have hl10 := HLk.out _ cc10
      refine hK _ _ (fun _ => Cls.mk hl10) ?_
      clear hK K c10
      obtain ⟨a5, c5, e5, l5⟩ := o10.lsF (S := S) hS
      have hlen5 : (X ++ [x]).length = n + 1 := by simp [HX.out]
      rw [hlen5] at e5
      subst e5
      have HX5 := Lib.hid hlen5
      clear hlen5 o10 o4 cc
      refine wpPlan_readS hl10 (fun K hK => ?_); simp only [List.getD_cons_zero, List.getD_cons_succ]; go_simp; refine hK _ ?_; clear hK K
      have h10 := h.1.still cc10
      have f10 := h10.2.1.frozen (k * 4)
      have p10 := h10.2.1.cell (k * 4)
      rw [show us.toArray[k * 4]? = some (Value.slice a n c) by simpa using hus] at p10
      clear hl10 hSA hS1
      refine wpPlan_only (fun K hK => ?_)
      simp only [List.getD_cons_zero, List.getD_cons_succ]
      go_simp
      refine hK _ _ (by simp) ?_
      clear hK K f10 p10
      refine wpPlan_done ?_
      obtain ⟨R1, R2⟩ := h10.set h.2.2 (i := k * 4) (by rw [h.2.1]; omega) l5 HX5.out
      go_wp2
      go_end0
      exact ⟨rfl, ⟨us.set (k * 4) (.slice a5 (n + 1) c5), by rw [HGX.out]; exact R1, by rw [List.length_set]; exact h.2.1, h.2.2⟩, c0.trans ((cc10.mono (by simp)).trans R2)⟩
  · rw [show sd true = 1 from rfl]
    go_enter Try.func31, Try.ntmps31
    go_wp2_with fail
    refine hd.mono ?_; rintro e w ⟨rfl, ⟨us, h⟩, c0⟩
    have hS : ∀ k ∈ S, k < w.heap.size := fun k hk => Nat.lt_of_lt_of_le (hS k hk) c0.size
    clear hd
    obtain ⟨a, c, hus, hcell, hL⟩ := h.1.at (i := k * 4 + 1) (by rw [h.2.1]; omega)
    obtain ⟨X, hX⟩ : ∃ X, gL Ms (k * 4 + 1) = X := ⟨_, rfl⟩
    have hXl := HL.out (k * 4 + 1)
    rw [hX] at hus hcell hL hXl
    obtain ⟨n, hn⟩ : ∃ n, X.length = n := ⟨_, rfl⟩
    rw [hn] at hus hcell hXl
    have HX := Lib.hid hn
    have HGX := Lib.hid hX
    clear hn hX
    go_upto_region 5 with fail
    obtain ⟨L, hLL⟩ : ∃ L : World → Prop, ∀ w', L w' ↔ (w'.cell? ⟨r, k * 4 + 1, none⟩ = some (.slice a n c)) := ⟨_, fun _ => Iff.rfl⟩
    have hS1 : ∀ x : { w' : World // L w' }, x.1.cell? ⟨r, k * 4 + 1, none⟩ = some (.slice a n c) := fun x => (hLL _).1 x.2
    have hLk : ∀ w', Ch [] w w' → L w' := fun w' hc => (hLL _).2 (by rw [(h.1.still hc).2.1.cell]; rw [h.1.2.1.cell] at hcell; exact hcell)
    have hSA : Nonempty { w' : World // L w' } := ⟨⟨_, hLk w (Ch.refl _ _)⟩⟩
    have HLk := Lib.hid hLk
    clear hLL hLk
    refine wp_region_plan (Cls L) [2, 3, 4, 5, 6, 7, 8, 9, 10, 11, 12, 13, 14, 15, 19] (.pures [0, 1, 16, 17, 18] (.reads [2, 4, 5, 6, 7, 8, 9, 10, 11, 13] (.alt 3 (.alt 12 (.only 14 (.only 15 (.reads [19] (.only 20 .done)))) (.alt 14 (.only 12 (.only 15 (.reads [19] (.only 20 .done)))) .done)) (.alt 14 (.only 3 (.only 12 (.only 15 (.reads [19] (.only 20 .done))))) .done)))) (by kernel_rfl) (by kernel_rfl) (fun _ _ _ _ _ h => h) ?_
    simp only [Plan.pures, Plan.reads, Plan.only, List.foldr_cons, List.foldr_nil]
    obtain ⟨W0, hW0⟩ : ∃ W0, w.drewN 1 = W0 := ⟨_, rfl⟩
    have cc : Ch [] w W0 := by rw [← hW0]; exact (Ch.refl [] w).drewN 1
    rw [hW0]
    clear hW0 hcell
    have hl0 := HLk.out _ cc
    iterate 5 (refine wpPlan_pure (fun K hK => ?_); simp only [List.getD_cons_zero, List.getD_cons_succ]; go_simp; refine hK _ ?_; clear hK K)
    iterate 10 (refine wpPlan_readS hl0 (fun K hK => ?_); simp only [List.getD_cons_zero, List.getD_cons_succ]; go_simp; refine hK _ ?_; clear hK K)
    clear hl0
    refine wpPlan_altU rfl (fun K hK => ?_) ?_; simp only [List.getD_cons_zero, List.getD_cons_succ]
    · go_simp
      obtain ⟨k0, hk0⟩ : ∃ k, (W0).heap.size = k := ⟨_, rfl⟩
      have HK0 := Lib.hid hk0
      obtain ⟨W1, hWn⟩ : ∃ X, (W0).alloc (.cells #[] 3) = X := ⟨_, rfl⟩
      have HS0 := Lib.hid (show W1.heap.size = k0 + 1 by rw [← hWn, ← hk0]; simp)
      have cn : Ch [] w W1 := by rw [← hWn]; exact cc.alloc _
      have o0 : OwI W1 w.heap.size (.slice (some ⟨k0, 0, none⟩) 0 0) [] := by rw [← hWn, ← hk0]; exact OwI.empty _ cc.size
      first | rw [hWn] | (rw [show (W0).alloc _ = W1 from hWn])
      first | (rw [hk0]; clear hk0) | (rw [hk9]; clear hk9) | skip
      refine hK _ _ (fun _ => Cls.mk (HLk.out _ cn)) ?_
      clear hK K cc
      have hWn2 := Lib.hid hWn
      clear hWn
      have cc := cn
      clear cn
      refine wpPlan_altU rfl (fun K hK => ?_) ?_; simp only [List.getD_cons_zero, List.getD_cons_succ]
      · have hsrc2 := (hL.rd.keep cc (by simp)).src Try.underlying22 c
        rw [HX.out] at hsrc2
        refine wp_app (.tmp 22) (.tmp 30) rfl w.heap.size (.slice (some ⟨k0, 0, none⟩) 0 0) [] rfl o0 cc.size (.slice a n c) X rfl (by rw [HX.out]; exact hsrc2) (by have := HX.out; simp; omega) (fun v4 w4 o4 c4 n4 => ?_)
        have o4 : OwI w4 w.heap.size v4 X := by simpa using o4
        have cc4 : Ch [] w w4 := cc.transT c4 (fun k hk => .inr (o0.2 k (by simpa using hk)))
        refine hK _ _ (fun _ => Cls.mk (HLk.out _ cc4)) ?_
        clear hK K cc hsrc2
        have cc := cc4
        clear cc4
        refine wpPlan_onlyU rfl (fun K hK => ?_); simp only [List.getD_cons_zero, List.getD_cons_succ]
        go_simp
        obtain ⟨k9, hk9⟩ : ∃ k, (w4).heap.size = k := ⟨_, rfl⟩
        have HK9 := Lib.hid hk9
        obtain ⟨W2, hWn⟩ : ∃ X, (w4).alloc (.cells #[.int .i64 x] 3) = X := ⟨_, rfl⟩
        have HS9 := Lib.hid (show W2.heap.size = k9 + 1 by rw [← hWn, ← hk9]; simp)
        have cn : Ch [] w W2 := by rw [← hWn]; exact cc.alloc _
        have r9 : Rd W2 (some ⟨k9, 0, none⟩) [x] := by rw [← hWn, ← hk9]; exact rd_lit _ [x]
        first | rw [hWn] | (rw [show (w4).alloc _ = W2 from hWn])
        first | (rw [hk0]; clear hk0) | (rw [hk9]; clear hk9) | skip
        refine hK _ _ (fun _ => Cls.mk (HLk.out _ cn)) ?_
        clear hK K cc
        have hWn2 := Lib.hid hWn
        clear hWn
        have cc := cn
        clear cn
        have o4 : OwI W2 w.heap.size v4 X := by rw [← hWn2.out]; exact o4.alloc _
        refine wpPlan_onlyU rfl (fun K hK => ?_); simp only [List.getD_cons_zero, List.getD_cons_succ]
        refine wp_app (.tmp 31) (.tmp 33) rfl w.heap.size v4 X rfl o4 cc.size (.slice (some ⟨k9, 0, none⟩) 1 1) [x] rfl (Rd.src (P := Try.prog) Try.underlying22 1 r9) (by have := HX.out; simp; omega) (fun v10 w10 o10 c10 _ => ?_)
        have cc10 : Ch [] w w10 := cc.transT c10 (fun k hk => .inr (o4.2 k (by simpa using hk)))
        have hl10 := HLk.out _ cc10
        refine hK _ _ (fun _ => Cls.mk hl10) ?_
        clear hK K c10
        obtain ⟨a5, c5, e5, l5⟩ := o10.lsF (S := S) hS
        have hlen5 : (X ++ [x]).length = n + 1 := by simp [HX.out]
        rw [hlen5] at e5
        subst e5
        have HX5 := Lib.hid hlen5
        clear hlen5 o10 o4 cc
        refine wpPlan_readS hl10 (fun K hK => ?_); simp only [List.getD_cons_zero, List.getD_cons_succ]; go_simp; refine hK _ ?_; clear hK K
        have h10 := h.1.still cc10
        have f10 := h10.2.1.frozen (k * 4 + 1)
        have p10 := h10.2.1.cell (k * 4 + 1)
        rw [show us.toArray[k * 4 + 1]? = some (Value.slice a n c) by simpa using hus] at p10
        clear hl10 hSA hS1
        refine wpPlan_only (fun K hK => ?_)
        simp only [List.getD_cons_zero, List.getD_cons_succ]
        go_simp
        refine hK _ _ (by simp) ?_
        clear hK K f10 p10
        refine wpPlan_done ?_
        obtain ⟨R1, R2⟩ := h10.set h.2.2 (i := k * 4 + 1) (by rw [h.2.1]; omega) l5 HX5.out
        go_wp2
        go_end0
        exact ⟨rfl, ⟨us.set (k * 4 + 1) (.slice a5 (n + 1) c5), by rw [HGX.out]; exact R1, by rw [List.length_set]; exact h.2.1, h.2.2⟩, c0.trans ((cc10.mono (by simp)).trans R2)⟩
      · refine wpPlan_altU rfl (fun K hK => ?_) (by simp [wpPlan]); simp only [List.getD_cons_zero, List.getD_cons_succ]
        go_simp
        obtain ⟨k9, hk9⟩ : ∃ k, (W1).heap.size = k := ⟨_, rfl⟩
        have HK9 := Lib.hid hk9
        obtain ⟨W2, hWn⟩ : ∃ X, (W1).alloc (.cells #[.int .i64 x] 3) = X := ⟨_, rfl⟩
        have HS9 := Lib.hid (show W2.heap.size = k9 + 1 by rw [← hWn, ← hk9]; simp)
        have cn : Ch [] w W2 := by rw [← hWn]; exact cc.alloc _
        have r9 : Rd W2 (some ⟨k9, 0, none⟩) [x] := by rw [← hWn, ← hk9]; exact rd_lit _ [x]
        first | rw [hWn] | (rw [show (W1).alloc _ = W2 from hWn])
        first | (rw [hk0]; clear hk0) | (rw [hk9]; clear hk9) | skip
        refine hK _ _ (fun _ => Cls.mk (HLk.out _ cn)) ?_
        clear hK K cc
        have hWn2 := Lib.hid hWn
        clear hWn
        have cc := cn
        clear cn
        have o0 : OwI W2 w.heap.size (.slice (some ⟨k0, 0, none⟩) 0 0) [] := by rw [← hWn2.out]; exact o0.alloc _
        refine wpPlan_onlyU rfl (fun K hK => ?_); simp only [List.getD_cons_zero, List.getD_cons_succ]
        have hsrc2 := (hL.rd.keep cc (by simp)).src Try.underlying22 c
        rw [HX.out] at hsrc2
        refine wp_app (.tmp 22) (.tmp 30) rfl w.heap.size (.slice (some ⟨k0, 0, none⟩) 0 0) [] rfl o0 cc.size (.slice a n c) X rfl (by rw [HX.out]; exact hsrc2) (by have := HX.out; simp; omega) (fun v4 w4 o4 c4 n4 => ?_)
        have o4 : OwI w4 w.heap.size v4 X := by simpa using o4
        have cc4 : Ch [] w w4 := cc.transT c4 (fun k hk => .inr (o0.2 k (by simpa using hk)))
        have r9 := r9.keep c4 (by have := HS0.out; have := HS9.out; have := HK0.out; have := HK9.out; simp [Value.ownBlock]; omega)
        refine hK _ _ (fun _ => Cls.mk (HLk.out _ cc4)) ?_
        clear hK K cc hsrc2
        have cc := cc4
        clear cc4
        refine wpPlan_onlyU rfl (fun K hK => ?_); simp only [List.getD_cons_zero, List.getD_cons_succ]
        refine wp_app (.tmp 31) (.tmp 33) rfl w.heap.size v4 X rfl o4 cc.size (.slice (some ⟨k9, 0, none⟩) 1 1) [x] rfl (Rd.src (P := Try.prog) Try.underlying22 1 r9) (by have := HX.out; simp; omega) (fun v10 w10 o10 c10 _ => ?_)
        have cc10 : Ch [] w w10 := cc.transT c10 (fun k hk => .inr (o4.2 k (by simpa using hk)))
        have hl10 := HLk.out _ cc10
        refine hK _ _ (fun _ => Cls.mk hl10) ?_
        clear hK K c10
        obtain ⟨a5, c5, e5, l5⟩ := o10.lsF (S := S) hS
        have hlen5 : (X ++ [x]).length = n + 1 := by simp [HX.out]
        rw [hlen5] at e5
        subst e5
        have HX5 := Lib.hid hlen5
        clear hlen5 o10 o4 cc
        refine wpPlan_readS hl10 (fun K hK => ?_); simp only [List.getD_cons_zero, List.getD_cons_succ]; go_simp; refine hK _ ?_; clear hK K
        have h10 := h.1.still cc10
        have f10 := h10.2.1.frozen (k * 4 + 1)
        have p10 := h10.2.1.cell (k * 4 + 1)
        rw [show us.toArray[k * 4 + 1]? = some (Value.slice a n c) by simpa using hus] at p10
        clear hl10 hSA hS1
        refine wpPlan_only (fun K hK => ?_)
        simp only [List.getD_cons_zero, List.getD_cons_succ]
        go_simp
        refine hK _ _ (by simp) ?_
        clear hK K f10 p10
        refine wpPlan_done ?_
        obtain ⟨R1, R2⟩ := h10.set h.2.2 (i := k * 4 + 1) (by rw [h.2.1]; omega) l5 HX5.out
        go_wp2
        go_end0
        exact ⟨rfl, ⟨us.set (k * 4 + 1) (.slice a5 (n + 1) c5), by rw [HGX.out]; exact R1, by rw [List.length_set]; exact h.2.1, h.2.2⟩, c0.trans ((cc10.mono (by simp)).trans R2)⟩
    · refine wpPlan_altU rfl (fun K hK => ?_) (by simp [wpPlan]); simp only [List.getD_cons_zero, List.getD_cons_succ]
      go_simp
      obtain ⟨k9, hk9⟩ : ∃ k, (W0).heap.size = k := ⟨_, rfl⟩
      have HK9 := Lib.hid hk9
      obtain ⟨W1, hWn⟩ : ∃ X, (W0).alloc (.cells #[.int .i64 x] 3) = X := ⟨_, rfl⟩
      have HS9 := Lib.hid (show W1.heap.size = k9 + 1 by rw [← hWn, ← hk9]; simp)
      have cn : Ch [] w W1 := by rw [← hWn]; exact cc.alloc _
      have r9 : Rd W1 (some ⟨k9, 0, none⟩) [x] := by rw [← hWn, ← hk9]; exact rd_lit _ [x]
      first | rw [hWn] | (rw [show (W0).alloc _ = W1 from hWn])
      first | (rw [hk0]; clear hk0) | (rw [hk9]; clear hk9) | skip
      refine hK _ _ (fun _ => Cls.mk (HLk.out _ cn)) ?_
      clear hK K cc
      have hWn2 := Lib.hid hWn
      clear hWn
      have cc := cn
      clear cn
      refine wpPlan_onlyU rfl (fun K hK => ?_); simp only [List.getD_cons_zero, List.getD_cons_succ]
      go_simp
      obtain ⟨k0, hk0⟩ : ∃ k, (W1).heap.size = k := ⟨_, rfl⟩
      have HK0 := Lib.hid hk0
      obtain ⟨W2, hWn⟩ : ∃ X, (W1).alloc (.cells #[] 3) = X := ⟨_, rfl⟩
      have HS0 := Lib.hid (show W2.heap.size = k0 + 1 by rw [← hWn, ← hk0]; simp)
      have cn : Ch [] w W2 := by rw [← hWn]; exact cc.alloc _
      have o0 : OwI W2 w.heap.size (.slice (some ⟨k0, 0, none⟩) 0 0) [] := by rw [← hWn, ← hk0]; exact OwI.empty _ cc.size
      first | rw [hWn] | (rw [show (W1).alloc _ = W2 from hWn])
      first | (rw [hk0]; clear hk0) | (rw [hk9]; clear hk9) | skip
      refine hK _ _ (fun _ => Cls.mk (HLk.out _ cn)) ?_
      clear hK K cc
      have hWn2 := Lib.hid hWn
      clear hWn
      have cc := cn
      clear cn
      have r9 : Rd W2 (some ⟨k9, 0, none⟩) [x] := r9.keep (show Ch [] W1 W2 by rw [← hWn2.out]; exact (Ch.refl [] W1).alloc _) (by simp)
      refine wpPlan_onlyU rfl (fun K hK => ?_); simp only [List.getD_cons_zero, List.getD_cons_succ]
      have hsrc2 := (hL.rd.keep cc (by simp)).src Try.underlying22 c
      rw [HX.out] at hsrc2
      refine wp_app (.tmp 22) (.tmp 30) rfl w.heap.size (.slice (some ⟨k0, 0, none⟩) 0 0) [] rfl o0 cc.size (.slice a n c) X rfl (by rw [HX.out]; exact hsrc2) (by have := HX.out; simp; omega) (fun v4 w4 o4 c4 n4 => ?_)
      have o4 : OwI w4 w.heap.size v4 X := by simpa using o4
      have cc4 : Ch [] w w4 := cc.transT c4 (fun k hk => .inr (o0.2 k (by simpa using hk)))
      have r9 := r9.keep c4 (by have := HS0.out; have := HS9.out; have := HK0.out; have := HK9.out; simp [Value.ownBlock]; omega)
      refine hK _ _ (fun _ => Cls.mk (HLk.out _ cc4)) ?_
      clear hK K cc hsrc2
      have cc := cc4
      clear cc4
      refine wpPlan_onlyU rfl (fun K hK => ?_); simp only [List.getD_cons_zero, List.getD_cons_succ]
      refine wp_app (.tmp 31) (.tmp 33) rfl w.heap.size v4 X rfl o4 cc.size (.slice (some ⟨k9, 0, none⟩) 1 1) [x] rfl (Rd.src (P := Try.prog) Try.underlying22 1 r9) (by have := HX.out; simp; omega) (fun v10 w10 o10 c10 _ => ?_)
      have cc10 : Ch [] w w10 := cc.transT c10 (fun k hk => .inr (o4.2 k (by simpa using hk)))
      have hl10 := HLk.out _ cc10
      refine hK _ _ (fun _ => Cls.mk hl10) ?_
      clear hK K c10
      obtain ⟨a5, c5, e5, l5⟩ := o10.lsF (S := S) hS
      have hlen5 : (X ++ [x]).length = n + 1 := by simp [HX.out]
      rw [hlen5] at e5
      subst e5
      have HX5 := Lib.hid hlen5
      clear hlen5 o10 o4 cc
      refine wpPlan_readS hl10 (fun K hK => ?_); simp only [List.getD_cons_zero, List.getD_cons_succ]; go_simp; refine hK _ ?_; clear hK K
      have h10 := h.1.still cc10
      have f10 := h10.2.1.frozen (k * 4 + 1)
      have p10 := h10.2.1.cell (k * 4 + 1)
      rw [show us.toArray[k * 4 + 1]? = some (Value.slice a n c) by simpa using hus] at p10
      clear hl10 hSA hS1
      refine wpPlan_only (fun K hK => ?_)
      simp only [List.getD_cons_zero, List.getD_cons_succ]
      go_simp
      refine hK _ _ (by simp) ?_
      clear hK K f10 p10
      refine wpPlan_done ?_
      obtain ⟨R1, R2⟩ := h10.set h.2.2 (i := k * 4 + 1) (by rw [h.2.1]; omega) l5 HX5.out
      go_wp2
      go_end0
      exact ⟨rfl, ⟨us.set (k * 4 + 1) (.slice a5 (n + 1) c5), by rw [HGX.out]; exact R1, by rw [List.length_set]; exact h.2.1, h.2.2⟩, c0.trans ((cc10.mono (by simp)).trans R2)⟩
theorem refCPut (k x : Int) (b : Bool) (h : RC w r us Ls S) (hS : ∀ k ∈ S, k < w.heap.size) (hl : ∀ i, (gL Ls i).length ≤ 50000) :
    Calls Try.prog 31 #[.pointer (some ⟨r, 0, none⟩), .int .i64 k, .int .i64 x, .bool b] w fun e w' => e = .returned (.tuple #[]) ∧ RCx w' r (putC Ls k x b) S ∧ Ch [r] w w' := by
  cases hk : okC k with
  | false =>
    refine (refCPutNo r k x b w hk).mono ?_
    rintro e w' ⟨rfl, rfl⟩
    refine ⟨rfl, ⟨us, ?_⟩, Ch.refl _ _⟩
    unfold putC
    rw [hk]
    exact h
  | true =>
    have := okC_lt' hk
    obtain ⟨k', rfl⟩ : ∃ k' : Nat, k = k' := ⟨k.toNat, by omega⟩
    exact refCPutYes k' x b h hS (by omega) hl
set_option maxHeartbeats 4000000 in
theorem refCBegin (h : RC w r us Ls S) (hS : ∀ k ∈ S, k < w.heap.size) (hl : ∀ i, (gL Ls i).length ≤ 20000) :
    Calls Try.prog 34 #[.pointer (some ⟨r, 0, none⟩)] w fun e w' => e = .returned (.tuple #[]) ∧ RCx w' r (begTo Ls 32) S ∧ Ch [r] w w' := by
  have HL := Lib.hid hl
  have HS := Lib.hid hS
  clear hl hS
  go_enter Try.func34, Try.ntmps34
  go_wp2_with fail
  go_loopw [2] (fun s2 wr => ∃ k : Nat, s2 = .int .i64 k ∧ k ≤ 16 ∧ RCx wr r (begTo Ls (k * 2)) S ∧ Ch [r] w wr) (fun s2 _ => 16 - (intOf s2).toNat)
  case atStart => exact ⟨0, rfl, by omega, ⟨us, by rw [Nat.zero_mul, begTo_zero Ls h.2.1]; exact h⟩, Ch.refl _ _⟩
  case round =>
    clear h
    obtain ⟨k, rfl, hk, hR, hc⟩ := hrel
    by_cases hk16 : k < 16
    · have t1 : decide ((k : Int) < 16) = true := decide_eq_true (by omega)
      go_wp2_with fail
      go_loopw [3] (fun s3 wr => ∃ f : Nat, s3 = .int .i64 f ∧ f ≤ 2 ∧ RCx wr r (begTo Ls (k * 2 + f)) S ∧ Ch [r] w wr) (fun s3 _ => 2 - (intOf s3).toNat)
      case atStart => exact ⟨0, rfl, by omega, hR, hc⟩
      case round =>
        clear hR hc
        obtain ⟨f, rfl, hf, ⟨us1, h1⟩, hc⟩ := hrel
        by_cases hf2 : f < 2
        · have t2 : decide ((f : Int) < 2) = true := decide_eq_true (by omega)
          obtain ⟨g, hg⟩ : ∃ g, f + 2 = g := ⟨_, rfl⟩
          have hst := begTo_step Ls k f hk16 hf2
          have hle := begTo_le Ls (k * 2 + f) 20000 HL.out
          obtain ⟨Ms, hMs⟩ : ∃ Ms, begTo Ls (k * 2 + f) = Ms := ⟨_, rfl⟩
          rw [hMs] at h1 hst hle
          have hSr : ∀ k ∈ S, k < wr.heap.size := fun k hk => Nat.lt_of_lt_of_le (HS.out k hk) hc.size
          obtain ⟨a, c, hus, hcell, hA⟩ := h1.1.at (i := k * 4 + g) (by rw [h1.2.1]; omega)
          obtain ⟨a2, c2, hus2, hcell2, hA2⟩ := h1.1.at (i := k * 4 + f) (by rw [h1.2.1]; omega)
          have hx1 := hle (k * 4 + g)
          have hx2 := hle (k * 4 + f)
          obtain ⟨X, hX⟩ : ∃ X, gL Ms (k * 4 + g) = X := ⟨_, rfl⟩
          obtain ⟨Y, hY⟩ : ∃ Y, gL Ms (k * 4 + f) = Y := ⟨_, rfl⟩
          rw [show k * 4 + 2 + f = k * 4 + g by omega, hX, hY] at hst
          rw [hX] at hus hcell hA hx1
          rw [hY] at hus2 hcell2 hA2 hx2
          obtain ⟨n, hn⟩ : ∃ n, X.length = n := ⟨_, rfl⟩
          obtain ⟨m, hm⟩ : ∃ m, Y.length = m := ⟨_, rfl⟩
          rw [hn] at hus hcell hx1
          rw [hm] at hus2 hcell2 hx2
          have HXN := Lib.hid hn
          have HYM := Lib.hid hm
          have HST := Lib.hid hst
          have w3 : IntKind.i64.wrap ((f : Int) + 2) = (g : Int) := by rw [IntWalk.i64_in _ (by omega)]; omega
          have k2 : (0 : Int) ≤ k := by omega
          have k3 : (k : Int) < 16 := by omega
          have f2 : (0 : Int) ≤ f := by omega
          have f3 : (f : Int) < 4 := by omega
          have g2 : (0 : Int) ≤ g := by omega
          have g3 : (g : Int) < 4 := by omega
          have hgf : g ≠ f := by omega
          have HG := Lib.hid hg
          clear hn hm hX hY hMs hst hle hg
          go_upto_region 6 with fail
          obtain ⟨L, hLL⟩ : ∃ L : World → Prop, ∀ w', L w' ↔ (w'.cell? ⟨r, k * 4 + g, none⟩ = some (.slice a n c) ∧ w'.cell? ⟨r, k * 4 + f, none⟩ = some (.slice a2 m c2)) := ⟨_, fun _ => Iff.rfl⟩
          have hS1 : ∀ x : { w' : World // L w' }, x.1.cell? ⟨r, k * 4 + g, none⟩ = some (.slice a n c) := fun x => ((hLL _).1 x.2).1
          have hS2 : ∀ x : { w' : World // L w' }, x.1.cell? ⟨r, k * 4 + f, none⟩ = some (.slice a2 m c2) := fun x => ((hLL _).1 x.2).2
          have hLk : ∀ w', Ch [] wr w' → L w' := fun w' hc => (hLL _).2 ⟨by rw [(h1.1.still hc).2.1.cell]; rw [h1.1.2.1.cell] at hcell; exact hcell, by rw [(h1.1.still hc).2.1.cell]; rw [h1.1.2.1.cell] at hcell2; exact hcell2⟩
          have hSA : Nonempty { w' : World // L w' } := ⟨⟨_, hLk wr (Ch.refl _ _)⟩⟩
          have HLk := Lib.hid hLk
          clear hLL hLk
          refine wp_region_plan (Cls L) [2, 3, 4, 5, 6, 7, 8, 9, 10, 11, 12, 13, 14, 15, 16, 17, 18, 19, 20, 21, 22, 23, 27] (.pures [0, 1, 24, 25, 26] (.reads [2, 3, 5, 6, 7, 8, 9, 10, 11, 12, 13, 15, 16, 17, 18, 19, 20, 21, 22] (.only 4 (.only 14 (.only 23 (.reads [27] (.only 28 .done))))))) (by kernel_rfl) (by kernel_rfl) (fun _ _ _ _ _ h => h) ?_
          simp only [Plan.pures, Plan.reads, Plan.only, List.foldr_cons, List.foldr_nil]
          obtain ⟨W0, hW0⟩ : ∃ W0, wr.drewN 1 = W0 := ⟨_, rfl⟩
          have cc : Ch [] wr W0 := by rw [← hW0]; exact (Ch.refl [] wr).drewN 1
          rw [hW0]
          clear hW0 hcell hcell2
          have hl0 := HLk.out _ cc
          iterate 5 (refine wpPlan_pure (fun K hK => ?_); simp only [List.getD_cons_zero, List.getD_cons_succ]; go_simp; refine hK _ ?_; clear hK K)
          iterate 19 (refine wpPlan_readS hl0 (fun K hK => ?_); simp only [List.getD_cons_zero, List.getD_cons_succ]; go_simp; refine hK _ ?_; clear hK K)
          clear hl0
          refine wpPlan_onlyU rfl (fun K hK => ?_); simp only [List.getD_cons_zero, List.getD_cons_succ]
          go_simp
          obtain ⟨k0, hk0⟩ : ∃ k, W0.heap.size = k := ⟨_, rfl⟩
          obtain ⟨W1, hW1⟩ : ∃ X, W0.alloc (.cells #[] 3) = X := ⟨_, rfl⟩
          have cn : Ch [] wr W1 := by rw [← hW1]; exact cc.alloc _
          have o0 : OwI W1 wr.heap.size (.slice (some ⟨k0, 0, none⟩) 0 0) [] := by rw [← hW1, ← hk0]; exact OwI.empty _ cc.size
          first | rw [hW1] | (rw [show W0.alloc _ = W1 from hW1])
          rw [hk0]
          refine hK _ _ (fun _ => Cls.mk (HLk.out _ cn)) ?_
          clear hK K cc hk0 hW1
          refine wpPlan_onlyU rfl (fun K hK => ?_); simp only [List.getD_cons_zero, List.getD_cons_succ]
          have hsrc2 := (hA.rd.keep cn (by simp)).src Try.underlying22 c
          rw [HXN.out] at hsrc2
          refine wp_app (.tmp 16) (.tmp 25) rfl wr.heap.size (.slice (some ⟨k0, 0, none⟩) 0 0) [] rfl o0 cn.size (.slice a n c) X rfl (by rw [HXN.out]; exact hsrc2) (by have := HXN.out; simp; omega) (fun v4 w4 o4 c4 n4 => ?_)
          have o4 : OwI w4 wr.heap.size v4 X := by simpa using o4
          have cc4 : Ch [] wr w4 := cn.transT c4 (fun k hk => .inr (o0.2 k (by simpa using hk)))
          refine hK _ _ (fun _ => Cls.mk (HLk.out _ cc4)) ?_
          clear hK K hsrc2 c4 n4 o0 cn
          refine wpPlan_onlyU rfl (fun K hK => ?_); simp only [List.getD_cons_zero, List.getD_cons_succ]
          have hsrc2 := (hA2.rd.keep cc4 (by simp)).src Try.underlying22 c2
          rw [HYM.out] at hsrc2
          refine wp_app (.tmp 26) (.tmp 34) rfl wr.heap.size v4 X rfl o4 cc4.size (.slice a2 m c2) Y rfl (by rw [HYM.out]; exact hsrc2) (by have := HXN.out; have := HYM.out; omega) (fun v5 w5 o5 c5 n5 => ?_)
          have cc5 : Ch [] wr w5 := cc4.transT c5 (fun k hk => .inr (o4.2 k (by simpa using hk)))
          have l5 := HLk.out _ cc5
          refine hK _ _ (fun _ => Cls.mk l5) ?_
          clear hK K hsrc2 c5 n5 o4 cc4
          obtain ⟨a5, q5, e5, f5⟩ := o5.lsF (S := S) hSr
          obtain ⟨t, ht⟩ : ∃ t, (X ++ Y).length = t := ⟨_, rfl⟩
          rw [ht] at e5
          subst e5
          have HT5 := Lib.hid ht
          clear ht o5
          refine wpPlan_readS l5 (fun K hK => ?_); simp only [List.getD_cons_zero, List.getD_cons_succ]; go_simp; refine hK _ ?_; clear hK K
          have h5 := h1.1.still cc5
          have q1 := h5.2.1.frozen (k * 4 + g)
          have q2 := h5.2.1.cell (k * 4 + g)
          rw [show us1.toArray[k * 4 + g]? = some (Value.slice a n c) by simpa using hus] at q2
          clear l5 hSA hS1 hS2
          refine wpPlan_only (fun K hK => ?_)
          simp only [List.getD_cons_zero, List.getD_cons_succ]
          go_simp
          refine hK _ _ (by simp) ?_
          clear hK K q1 q2
          refine wpPlan_done ?_
          obtain ⟨R1, R2⟩ := h5.set h1.2.2 (i := k * 4 + g) (by rw [h1.2.1]; omega) f5 HT5.out
          have cR := (hc.trans (cc5.mono (by simp))).trans R2
          obtain ⟨W6, hW6⟩ : ∃ X, w5.setCell ⟨r, k * 4 + g, none⟩ (.slice a5 t q5) = X := ⟨_, rfl⟩
          rw [hW6] at R1 cR ⊢
          clear hW6 R2 h5
          have q1 := R1.2.1.frozen (k * 4 + f)
          have q2 := R1.2.1.cell (k * 4 + f)
          rw [show (us1.set (k * 4 + g) (.slice a5 t q5)).toArray[k * 4 + f]? = some (Value.slice a2 m c2) by
            rw [List.getElem?_toArray, List.getElem?_set_ne (by omega)]; exact hus2] at q2
          obtain ⟨R3, R4⟩ := R1.set h1.2.2 (i := k * 4 + f) (by rw [List.length_set, h1.2.1]; omega) (LsF.nil W6 S) rfl
          rw [HST.out] at R3
          have cR2 := cR.trans R4
          clear R1 R4 cR
          go_wp2_with fail
          go_roundw
          case rel => exact ⟨f + 1, by go_num, by omega, ⟨_, R3, begTo_len _ _, h1.2.2⟩, cR2⟩
          case measure => simp [intOf]; omega
        · obtain rfl : f = 2 := by omega
          go_wp2_with fail
          go_roundw
          case rel => exact ⟨k + 1, by go_num, by omega, by rw [Nat.succ_mul]; exact ⟨us1, h1⟩, hc⟩
          case measure => simp [intOf]; omega
    · obtain rfl : k = 16 := by omega
      go_wp2
      go_end0
      exact ⟨rfl, hR, hc⟩
end
end Go.Proofs.Ytaafdhohiekakaa
