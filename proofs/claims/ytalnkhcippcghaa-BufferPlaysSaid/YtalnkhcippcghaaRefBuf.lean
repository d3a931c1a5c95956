/-
  Contracts of the document's answer for layer 17: Put, Get, Half on lists. Conditions: none beyond what each theorem names.
-/
import Derived.Test.YtalnkhcippcghaaRefL
import Derived.Test.YtalnkhcippcghaaBuffer2
namespace Go.Proofs.Ytalnkhcippcghaa
open Go.RowKit
theorem refPutFull (r : Nat) (xs : List Int) (v : Int) (S : List Nat) (w : World) (h : RefL 28 w r xs S) (hf : xs.length = 32) :
    Calls Try.prog 14 #[.pointer (some ⟨r, 0, none⟩), .int .i64 v] w fun e w' => e = .returned (.bool false) ∧ w' = w := by
  obtain ⟨a, cap, h1, h2, h3, h4, h5⟩ := h
  rw [hf] at h1
  have c := h1.cell 0
  clear h2 h3 h5 hf
  go_enter Try.func14, Try.ntmps14
  go_wp2
  go_ret
  exact ⟨rfl, rfl⟩
theorem refPut (r : Nat) (xs : List Int) (v : Int) (S : List Nat) (w : World) (h : RefL 28 w r xs S) (hS : ∀ k ∈ S, k < w.heap.size) (hf : xs.length < 32) :
    Calls Try.prog 14 #[.pointer (some ⟨r, 0, none⟩), .int .i64 v] w fun e w' => e = .returned (.bool true) ∧ RefL 28 w' r (xs ++ [v]) S ∧ Ch [r] w w' := by
  obtain ⟨a, cap, h1, h2, h3, h4, h5⟩ := h
  obtain ⟨n, hn⟩ : ∃ n, xs.length = n := ⟨_, rfl⟩
  rw [hn] at h1 h3 hf
  have c := h1.cell 0
  have hrlt := h1.lt
  have g32 : decide ((32 : Int) ≤ (n : Int)) = false := decide_eq_false (by omega)
  have HN := Lib.hid hn
  clear hn
  go_enter Try.func14, Try.ntmps14
  have o1 := OwI.empty w (Nat.le_refl _)
  have r1 := h2.keep ((Ch.refl [] w).alloc (.cells #[] 3)) (by simp)
  have src1 := r1.src Try.underlying26 cap
  rw [HN.out] at src1
  go_wp2_with (at_builtin; refine wpList_app rfl (.tmp 12) (.tmp 16) rfl w.heap.size _ [] rfl o1 (by simp) (.slice a n cap) xs rfl (by rw [HN.out]; exact src1) (by rw [HN.out]; simp; omega) ?_)
  intro v6 w6 o6 c6 n6
  have hs6 := c6.size
  simp at hs6
  have g6 : Blk w6 r #[.slice a n cap] 28 := (h1.alloc _).keep c6 (by simp [Value.ownBlock]; omega)
  have hc6 : Ch [r] w w6 := ((Ch.refl [r] w).alloc _).transT c6 (by intro k hk; simp [Value.ownBlock] at hk; omega)
  have o7 := o6.alloc (.cells #[.int .i64 v] 3)
  go_wp2_with (at_builtin; refine wpList_app rfl (.tmp 17) (.tmp 19) rfl w.heap.size v6 xs rfl o7 (by simp; omega) _ [v] rfl (srcOne _ v) (by rw [HN.out]; simp; omega) ?_)
  intro v9 w9 o9 c9 n9
  have g9 : Blk w9 r #[.slice a n cap] 28 := (g6.alloc _).keep c9 (by intro hm; have := o6.2 r (by simpa using hm); omega)
  have q1 := g9.frozen 0
  have q2 := g9.cell 0
  have hc9 : Ch [r] w w9 := (hc6.alloc _).transT c9 (by intro k hk; right; exact o6.2 k (by simpa using hk))
  obtain ⟨a9, cap9, e9, k1, k2, k3⟩ := o9.form
  have hl9 : (xs ++ [v]).length = n + 1 := by simp [HN.out]
  rw [hl9] at e9 k1
  subst e9
  have H9 := Lib.hid hl9
  clear hl9 c src1 r1 o1
  go_wp2
  go_ret
  refine ⟨rfl, ⟨a9, cap9, ?_, ?_, ?_, k2, ?_⟩, hc9.setCell (.inl (by simp)) _⟩
  · rw [H9.out]; exact g9.set 0 _
  · exact k3.keep ((Ch.refl [r] w9).setCell (.inl (by simp)) _) (fun x hx hm => by have := o9.2 x.block (by rw [hx]; rfl); simp at hm; omega)
  · rw [H9.out]; exact k1
  · intro x hx hm
    have := o9.2 x.block (by rw [hx]; rfl)
    have := hS _ hm
    omega
theorem refGetEmpty (r : Nat) (S : List Nat) (w : World) (h : RefL 28 w r [] S) :
    Calls Try.prog 16 #[.pointer (some ⟨r, 0, none⟩)] w fun e w' => e = .returned (.tuple #[.int .i64 0, .bool false]) ∧ w' = w := by
  obtain ⟨a, cap, h1, h2, h3, h4, h5⟩ := h
  have c := h1.cell 0
  clear h2 h3 h5
  go_enter Try.func16, Try.ntmps16
  go_wp2
  go_ret2
  exact ⟨rfl, rfl⟩
theorem refGet (r : Nat) (xs : List Int) (v : Int) (S : List Nat) (w : World) (h : RefL 28 w r (xs ++ [v]) S) (hS : r ∈ S) (hx : xs.length ≤ 100000) :
    Calls Try.prog 16 #[.pointer (some ⟨r, 0, none⟩)] w fun e w' => e = .returned (.tuple #[.int .i64 v, .bool true]) ∧ RefL 28 w' r xs S ∧ Ch [r] w w' := by
  obtain ⟨a, cap, h1, h2, h3, h4, h5⟩ := h
  obtain ⟨n, hn⟩ : ∃ n, xs.length = n := ⟨_, rfl⟩
  have hn1 : (xs ++ [v]).length = n + 1 := by simp [hn]
  rw [hn1] at h1 h3
  rw [hn] at hx
  obtain ⟨ba, oa, rfl, hcell⟩ := h2.at (i := n) (by rw [hn1]; omega)
  have d := hcell n (by rw [hn1]; omega)
  rw [show gI (xs ++ [v]) n = v by rw [← hn]; exact gI_app xs [] v] at d
  have c := h1.cell 0
  have f := h1.frozen 0
  have b0 : (0 : Int) ≤ n := by omega
  have b1 : (n : Int) < (n : Int) + 1 := by omega
  have b2 : (n : Int) ≤ cap := by omega
  have b3 : ((n : Int) + 1 == 0) = false := by rw [beq_eq_false_iff_ne]; omega
  have hp := h2.pre
  have HN := Lib.hid hn
  clear hcell hn1 hn h2
  go_enter Try.func16, Try.ntmps16
  go_wp2
  go_ret2
  refine ⟨rfl, ⟨some ⟨ba, oa, none⟩, cap, ?_, ?_, by rw [HN.out]; omega, h4, h5⟩, (Ch.refl [r] w).setCell (.inl (by simp)) _⟩
  · rw [HN.out]; exact h1.set 0 _
  · exact hp.keep ((Ch.refl [r] w).setCell (.inl (by simp)) _) (fun x hx hm => h5 x hx (by simp at hm; rw [hm]; exact hS))
theorem Try.infoRef : ∃ j, Try.prog.info? 28 = some j ∧ j.size ≠ 0 := by
  have h : (Try.prog.info? 28).map (·.size) = some 1 := by kernel_rfl
  obtain ⟨j, hj, hs⟩ := Option.map_eq_some_iff.1 h
  exact ⟨j, hj, by omega⟩
theorem refHalfNo (r s : Nat) (xs ys : List Int) (S : List Nat) (w : World) (h : RefL 28 w r xs S) (ho : RefL 28 w s ys S) (hne : r ≠ s) (hx : xs.length ≤ 32) (hy : ys.length ≤ 32) (hn : 32 - ys.length < xs.length / 2) :
    Calls Try.prog 18 #[.pointer (some ⟨r, 0, none⟩), .pointer (some ⟨s, 0, none⟩)] w fun e w' => e = .returned (.int .i64 0) ∧ w' = w := by
  obtain ⟨a, cap, h1, h2, h3, h4, h5⟩ := h
  obtain ⟨a', cap', r1, r2, r3, r4, r5⟩ := ho
  obtain ⟨j, hj, hs⟩ := Try.infoRef
  have hpe : (binOp .eql 25 (.pointer (some ⟨s, 0, none⟩)) (.pointer (some ⟨r, 0, none⟩))).run Try.prog w = .ok (.bool false) w := run_eql_ptr_other w Try.underlying25 hj hs (by simp [Ne.symm hne]) r1 h1
  obtain ⟨n, hnx⟩ : ∃ n, xs.length = n := ⟨_, rfl⟩
  obtain ⟨m, hmy⟩ : ∃ m, ys.length = m := ⟨_, rfl⟩
  rw [hnx] at h1 hn hx
  rw [hmy] at r1 hn hy
  have c := h1.cell 0
  have d := r1.cell 0
  have e32 : wrap64 ((32 : Int) - (m : Int)) = 32 - m := IntWalk.wrap64_in _ (by omega)
  obtain ⟨k, hk⟩ : ∃ k, n / 2 = k := ⟨_, rfl⟩
  rw [hk] at hn
  have hk2 : ((n : Int)) / 2 = (k : Int) := by omega
  have g : decide ((32 : Int) - (m : Int) < (k : Int)) = true := by simp; omega
  have HK := Lib.hid hk
  clear h2 h3 h5 r2 r3 r5 hnx hmy hk
  go_enter Try.func18, Try.ntmps18
  go_wp2
  go_ret
  exact ⟨rfl, rfl⟩
set_option maxHeartbeats 1000000 in
theorem refHalf (r s : Nat) (xs ys : List Int) (S : List Nat) (w : World) (h : RefL 28 w r xs S) (ho : RefL 28 w s ys S) (hS : ∀ k ∈ S, k < w.heap.size) (hr : r ∈ S) (hsS : s ∈ S) (hne : r ≠ s)
    (hx : xs.length ≤ 32) (hy : ys.length ≤ 32) (hn : xs.length / 2 ≤ 32 - ys.length) :
    Calls Try.prog 18 #[.pointer (some ⟨r, 0, none⟩), .pointer (some ⟨s, 0, none⟩)] w fun e w' => e = .returned (.int .i64 (xs.length / 2 : Nat)) ∧
      RefL 28 w' r (xs.take (xs.length - xs.length / 2)) S ∧ RefL 28 w' s (ys ++ xs.drop (xs.length - xs.length / 2)) S ∧ Ch [r, s] w w' := by
  obtain ⟨a, cap, h1, h2, h3, h4, h5⟩ := h
  obtain ⟨a', cap', r1, r2, r3, r4, r5⟩ := ho
  obtain ⟨j, hj, hs⟩ := Try.infoRef
  have hpe : (binOp .eql 25 (.pointer (some ⟨s, 0, none⟩)) (.pointer (some ⟨r, 0, none⟩))).run Try.prog w = .ok (.bool false) w := run_eql_ptr_other w Try.underlying25 hj hs (by simp [Ne.symm hne]) r1 h1
  obtain ⟨n, hnx⟩ : ∃ n, xs.length = n := ⟨_, rfl⟩
  obtain ⟨m, hmy⟩ : ∃ m, ys.length = m := ⟨_, rfl⟩
  obtain ⟨k, hk⟩ : ∃ k, n / 2 = k := ⟨_, rfl⟩
  obtain ⟨d, hd⟩ : ∃ d, n - k = d := ⟨_, rfl⟩
  rw [hnx] at h1 h3 hn hx ⊢
  rw [hmy] at r1 r3 hn hy
  rw [hk] at hn ⊢
  rw [hd]
  have c1 := h1.cell 0
  have c2 := r1.cell 0
  have hk2 : ((n : Int)) / 2 = (k : Int) := by omega
  have e32 : wrap64 ((32 : Int) - (m : Int)) = 32 - m := IntWalk.wrap64_in _ (by omega)
  have g : decide ((32 : Int) - (m : Int) < (k : Int)) = false := by simp; omega
  have end1 : wrap64 ((n : Int) - (k : Int)) = (d : Int) := by rw [IntWalk.wrap64_in _ (by omega)]; omega
  have end2 : IntKind.i64.wrap ((n : Int) - (k : Int)) = (d : Int) := by rw [IntWalk.i64_in _ (by omega)]; omega
  have d1 : (d : Int) ≤ n := by omega
  have d2 : (n : Int) ≤ cap := by omega
  have d3 : (d : Int) ≤ cap := by omega
  have d0 : (0 : Int) ≤ d := by omega
  have HX := Lib.hid hnx
  have HY := Lib.hid hmy
  have HK := Lib.hid hk
  have HD := Lib.hid hd
  have hrlt := h1.lt
  have hslt := r1.lt
  clear hnx hmy hk hd
  go_enter Try.func18, Try.ntmps18
  go_upto_region 4 with fail
  clear hpe g e32 hk2
  obtain ⟨L, hL⟩ : ∃ L : World → Prop, ∀ w', L w' ↔ (w'.cell? ⟨r, 0, none⟩ = some (.slice a n cap) ∧ w'.cell? ⟨s, 0, none⟩ = some (.slice a' m cap')) := ⟨_, fun _ => Iff.rfl⟩
  have hS0 : L (w.drewN 1) := (hL _).2 ⟨c1, c2⟩
  have hS1 : ∀ x : { w' : World // L w' }, x.1.cell? ⟨r, 0, none⟩ = some (.slice a n cap) := fun x => ((hL _).1 x.2).1
  have hS2 : ∀ x : { w' : World // L w' }, x.1.cell? ⟨s, 0, none⟩ = some (.slice a' m cap') := fun x => ((hL _).1 x.2).2
  have hSA : Nonempty { w' : World // L w' } := ⟨⟨_, hS0⟩⟩
  have HL := Lib.hid hL
  clear hL
  refine wp_region_plan (Cls L) [1, 5, 6, 10, 14, 15, 17, 18, 19] (.pures [0, 2, 3, 4, 7, 8, 9, 11, 12, 13, 16] (.reads [5, 10, 14, 15, 17, 18] (.only 1 (.only 6 (.only 19 (.pures [20, 21] (.only 22 .done))))))) (by kernel_rfl) (by kernel_rfl) (fun _ _ _ _ _ h => h) ?_
  simp only [Plan.pures, Plan.reads, Plan.only, List.foldr_cons, List.foldr_nil]
  iterate 11 (refine wpPlan_pure (fun K hK => ?_); simp only [List.getD_cons_zero, List.getD_cons_succ]; go_simp; refine hK _ ?_; clear hK K)
  iterate 6 (refine wpPlan_readS hS0 (fun K hK => ?_); simp only [List.getD_cons_zero, List.getD_cons_succ]; go_simp; refine hK _ ?_; clear hK K)
  clear hS1 hS2 hSA
  have rx := h2.dropA d cap (by rw [HX.out]; exact h3)
  obtain ⟨A2, hA2⟩ : ∃ A2 : Option Addr, (if cap = d then a else a.map fun x => x.add d) = A2 := ⟨_, rfl⟩
  rw [hA2] at rx ⊢
  clear hA2
  obtain ⟨W0, hW0⟩ : ∃ W0, w.drewN 1 = W0 := ⟨_, rfl⟩
  have hc0 : Ch [] w W0 := by rw [← hW0]; exact (Ch.refl [] w).drewN 1
  rw [hW0] at hS0 ⊢
  have hsz0 : W0.heap.size = w.heap.size := by rw [← hW0]; rfl
  clear hW0
  refine wpPlan_only (fun K hK => ?_)
  simp only [List.getD_cons_zero, List.getD_cons_succ]
  go_simp
  obtain ⟨W1, hW1⟩ : ∃ W1, W0.alloc (.cells #[] 3) = W1 := ⟨_, rfl⟩
  have hc1 : Ch [] w W1 := by rw [← hW1]; exact hc0.alloc _
  have o1 : OwI W1 w.heap.size (.slice (some ⟨W0.heap.size, 0, none⟩) 0 0) [] := by rw [← hW1]; exact OwI.empty W0 (by omega)
  rw [hW1]
  rw [hsz0] at o1
  have g1 := h1.keep hc1 (by simp)
  have s1 := r1.keep hc1 (by simp)
  have hs1 := hc1.size
  refine hK _ _ (fun _ => Cls.mk ((HL.out _).2 ⟨g1.cell 0, s1.cell 0⟩)) ?_
  clear hK K hW1
  have q1 := (r2.keep hc1 (by simp)).src Try.underlying26 cap'
  rw [HY.out] at q1
  refine wpPlan_onlyU rfl (fun K hK => ?_); simp only [List.getD_cons_zero, List.getD_cons_succ]
  refine wp_app (.tmp 26) (.tmp 30) rfl w.heap.size _ [] rfl o1 hs1 (.slice a' m cap') ys rfl (by rw [HY.out]; exact q1) (by rw [HY.out]; simp; omega) (fun v6 w6 o6 c6 n6 => ?_)
  have hb6 : ∀ k ∈ (Value.slice (some ⟨w.heap.size, 0, none⟩) 0 0).ownBlock.toList, w.heap.size ≤ k := by intro k hk; simp [Value.ownBlock] at hk; omega
  have g6 := g1.keep c6 (fun hm => by have := hb6 _ hm; omega)
  have s6 := s1.keep c6 (fun hm => by have := hb6 _ hm; omega)
  have hc6 : Ch [] w w6 := hc1.transT c6 (fun k hk => .inr (hb6 k hk))
  have hs6 := hc6.size
  refine hK _ _ (fun _ => Cls.mk ((HL.out _).2 ⟨g6.cell 0, s6.cell 0⟩)) ?_
  clear hK K c6 n6
  have hld : (xs.drop d).length = n - d := by rw [List.length_drop, HX.out]
  have q2 := (rx.keep hc6 (by simp)).src Try.underlying26 (cap - d)
  rw [hld] at q2
  rw [List.nil_append] at o6
  refine wpPlan_onlyU rfl (fun K hK => ?_); simp only [List.getD_cons_zero, List.getD_cons_succ]
  refine wp_app (.tmp 31) (.tmp 43) rfl w.heap.size v6 ys rfl o6 hs6 (.slice A2 (n - d) (cap - d)) (xs.drop d) rfl (by rw [hld]; exact q2) (by rw [hld, HY.out]; omega) (fun v9 w9 o9 c9 n9 => ?_)
  have hb9 : ∀ k ∈ v6.ownBlock.toList, w.heap.size ≤ k := fun k hk => o6.2 k (by simpa using hk)
  have g9 := g6.keep c9 (fun hm => by have := hb9 _ hm; omega)
  have s9 := s6.keep c9 (fun hm => by have := hb9 _ hm; omega)
  have hc9 : Ch [] w w9 := hc6.transT c9 (fun k hk => .inr (hb9 k hk))
  have hs9 := hc9.size
  refine hK _ _ (fun _ => Cls.mk ((HL.out _).2 ⟨g9.cell 0, s9.cell 0⟩)) ?_
  clear hK K c9 n9
  obtain ⟨a9, cap9, e9, k1, k2, k3⟩ := o9.form
  have hl9 : (ys ++ xs.drop d).length = m + k := by rw [List.length_append, hld, HY.out]; have := HD.out; have := HK.out; omega
  rw [hl9] at e9 k1
  subst e9
  iterate 2 (refine wpPlan_pure (fun K hK => ?_); simp only [List.getD_cons_zero, List.getD_cons_succ]; go_simp; refine hK _ ?_; clear hK K)
  have f9 := s9.frozen 0
  have p9 := s9.cell 0
  refine wpPlan_only (fun K hK => ?_)
  simp only [List.getD_cons_zero, List.getD_cons_succ]
  go_simp
  refine hK _ _ (by simp) ?_
  clear hK K
  refine wpPlan_done ?_
  have g10 : Blk (w9.setCell ⟨s, 0, none⟩ (.slice a9 (m + k) cap9)) r #[.slice a n cap] 28 := g9.setOther hne _
  have s10 := s9.set 0 (.slice a9 (m + k) cap9)
  have hc10 : Ch [r, s] w (w9.setCell ⟨s, 0, none⟩ (.slice a9 (m + k) cap9)) := (hc9.mono (by simp)).setCell (.inl (by simp)) _
  have r10 := k3.keep ((Ch.refl [s] w9).setCell (p := ⟨s, 0, none⟩) (.inl (by simp)) (.slice a9 (m + k) cap9)) (fun x hx hm => by have := o9.2 x.block (by rw [hx]; rfl); simp at hm; omega)
  obtain ⟨W, hW⟩ : ∃ W, w9.setCell ⟨s, 0, none⟩ (.slice a9 (m + k) cap9) = W := ⟨_, rfl⟩
  rw [hW] at g10 s10 hc10 r10 ⊢
  clear hW
  have p10 := g10.cell 0
  have f10 := g10.frozen 0
  clear p9 f9 q1 q2 c1 c2
  go_upto_region 5 with fail
  clear hs9 hs6 hs1 hb6 hb9 hsz0
  refine wp_region_tail 13 (by kernel_rfl) (by kernel_rfl) ?_
  simp only [List.take_succ_cons, List.take_zero, List.drop_succ_cons, List.drop_zero]
  repeat still_step
  refine wpStill_nil ?_
  have f11 : (W.drewN 1).frozen? ⟨r, 0, none⟩ = false := f10
  go_wp2
  go_ret
  refine ⟨rfl, ⟨a, cap, ?_, ?_, ?_, h4, h5⟩, ⟨a9, cap9, ?_, ?_, ?_, k2, ?_⟩, ((hc10.drewN 1).setCell (.inl (by simp)) _)⟩
  · rw [List.length_take, HX.out, Nat.min_eq_left (by omega)]
    exact (g10.drewN 1).set 0 _
  · exact (h2.takeN d).keep ((hc10.drewN 1).setCell (p := ⟨r, 0, none⟩) (.inl (by simp)) _) (fun x hx hm => h5 x hx (by simp at hm; rcases hm with hm | hm <;> rw [hm] <;> assumption))
  · rw [List.length_take, HX.out, Nat.min_eq_left (by omega)]; omega
  · rw [hl9]; exact (s10.drewN 1).setOther (p := ⟨r, 0, none⟩) (Ne.symm hne) _
  · exact r10.keep (((Ch.refl [r] W).drewN 1).setCell (p := ⟨r, 0, none⟩) (.inl (by simp)) _) (fun x hx hm => by have := o9.2 x.block (by rw [hx]; rfl); simp at hm; omega)
  · rw [hl9]; exact k1
  · intro x hx hm
    have := o9.2 x.block (by rw [hx]; rfl)
    have := hS _ hm
    omega
end Go.Proofs.Ytalnkhcippcghaa
