/-
  The contract of the document's 'Put': a rising list with a number, once. Conditions: the list is read whole.
-/
import Derived.Test.YtheniiinioggiaaDoorPlan
import Derived.Test.YtheniiinioggiaaDoorOwI
import Derived.Test.YtheniiinioggiaaDoorRefL
import Derived.Test.YtheniiinioggiaaDoorIns
import Derived.OpenShut
import Derived.Deep.DeepCutAuto
namespace Go.Proofs.YtheniiinioggiaaDoor
open Go.RowKit
set_option maxHeartbeats 2000000 in
/-- The last statement of Put: the number between two parts. -/
theorem putRef_mid (a : Option Addr) (l p q : List Int) (x : Int) (n c : Nat) (w : World) (h : Rd w a l) (hpq : l = p ++ q) (hn : n = l.length) (hnc : n ≤ c) (hl : n ≤ 100000) (hp : ∀ y ∈ p, y < x) (hq : ∀ y t, q = y :: t → x < y) (hi : ins l x = p ++ x :: q) :
    Calls Tryd.prog 23 #[.slice a n c, .int .i64 x] w fun e w' => ∃ a' c', e = .returned (.slice a' (ins l x).length c') ∧ Rd w' a' (ins l x) ∧ (ins l x).length ≤ c' ∧ c' ≤ maxLen ∧ (a' = a ∨ ∀ y, a' = some y → w.heap.size ≤ y.block) ∧ Ch [] w w' := by
  have hnp : n = p.length + q.length := by rw [hn, hpq]; simp
  have HN := Lib.hid hn
  have HPQ := Lib.hid hpq
  have HI := Lib.hid hi
  have HQ := Lib.hid hnp
  have hplt : p.length ≤ n := by omega
  clear hn hi hnp
  go_enter Tryd.func23, Tryd.ntmps23
  go_wp2
  go_loop [5] (fun i => ∃ k : Nat, k ≤ p.length ∧ i = .int .i64 k) (fun i => n - (intOf i).toNat)
  case atStart => exact ⟨0, by omega, rfl⟩
  case round =>
    obtain ⟨k, hk, rfl⟩ := hrel
    by_cases hlt' : k < p.length
    · obtain ⟨b1, o1, rfl, c1⟩ := h.at (i := k) (by rw [← HN.out]; omega)
      have d1 := c1 k (by rw [← HN.out]; omega)
      clear c1
      have hm : gI l k < x := by rw [hpq, show gI (p ++ q) k = gI p k by simp [gI, List.getD_eq_getElem?_getD, List.getElem?_append_left hlt']]; exact hp _ (gI_mem hlt')
      generalize gI l k = u at d1 hm
      clear hpq
      go_wp2
      go_round
      case rel => exact ⟨k + 1, by omega, by go_num⟩
      case measure => simp [intOf]; omega
    · obtain rfl : k = p.length := by omega
      have r1 : Rd w a p := by rw [hpq] at h; exact h.pre
      have b0 : (0 : Int) ≤ p.length := by omega
      have b1 : (p.length : Int) ≤ c := by omega
      have b2 : (p.length : Int) ≤ n := by omega
      have b3 : (n : Int) ≤ c := by omega
      clear hlt' hk
      by_cases hn0 : p.length = n
      · have t1 : ¬ p.length < n := by omega
        have t2 : (n : Int) ≤ p.length := by omega
        have r2 := h.dropA p.length c (by rw [← HN.out]; exact hnc)
        rw [show l.drop p.length = q by rw [hpq]; simp] at r2
        obtain ⟨A2, hA2⟩ : ∃ A2, (if c = p.length then a else a.map fun x => x.add p.length) = A2 := ⟨_, rfl⟩
        rw [hA2] at r2
        have HA2 := Lib.hid hA2
        clear hpq hp hq hn0 hA2
        go_upto_region 6 with fail
        refine wp_region_plan (Cls fun _ => True) (List.range 13) (.reads [1, 2, 3, 5, 8, 9, 10] (.alt 0 (.alt 4 (.only 6 (.only 7 (.only 11 (.reads [12] .done)))) (.alt 6 (.only 4 (.only 7 (.only 11 (.reads [12] .done)))) .done)) (.alt 6 (.only 0 (.only 4 (.only 7 (.only 11 (.reads [12] .done))))) .done))) (by kernel_rfl) (by kernel_rfl) (fun _ _ _ _ _ h => h) ?_
        simp only [Plan.reads, Plan.only, List.foldr_cons, List.foldr_nil]
        iterate 7 (refine wpPlan_readS trivial (fun K hK => ?_); simp only [List.getD_cons_zero, List.getD_cons_succ]; go_simp; refine hK _ ?_; clear hK K)
        rw [HA2.out]
        rw [show n - p.length = q.length by have := HQ.out; omega]
        clear HA2 b0 b1 b2 b3
        obtain ⟨W0, hW0⟩ : ∃ W0, w.drewN 1 = W0 := ⟨_, rfl⟩
        have cc : Ch [] w W0 := by rw [← hW0]; exact (Ch.refl [] w).drewN 1
        rw [hW0]
        clear hW0
        refine wpPlan_altU rfl (fun K hK => ?_) ?_; simp only [List.getD_cons_zero, List.getD_cons_succ]
        · go_simp
          obtain ⟨k0, hk0⟩ : ∃ k, (W0).heap.size = k := ⟨_, rfl⟩
          have HK0 := Lib.hid hk0
          obtain ⟨W1, hWn⟩ : ∃ X, (W0).alloc (.cells #[] 3) = X := ⟨_, rfl⟩
          have HS0 := Lib.hid (show W1.heap.size = k0 + 1 by rw [← hWn, ← hk0]; simp)
          have cn : Ch [] w W1 := by rw [← hWn]; exact cc.alloc _
          have o0 : OwI W1 w.heap.size (.slice (some ⟨k0, 0, none⟩) 0 0) [] := by rw [← hWn, ← hk0]; exact OwI.empty _ cc.size
          first | rw [hWn] | (rw [show (W0).alloc _ = W1 from hWn])
          first | (rw [hk0]; clear hk0) | (rw [hk6]; clear hk6) | skip
          refine hK _ _ (fun _ => Cls.mk trivial) ?_
          clear hK K cc
          have hWn2 := Lib.hid hWn
          clear hWn
          have cc := cn
          clear cn
          refine wpPlan_altU rfl (fun K hK => ?_) ?_; simp only [List.getD_cons_zero, List.getD_cons_succ]
          · refine wp_app (.tmp 33) (.tmp 36) rfl w.heap.size (.slice (some ⟨k0, 0, none⟩) 0 0) [] rfl o0 cc.size (.slice a p.length c) p rfl (Rd.src (P := Tryd.prog) Tryd.underlying22 c (r1.keep cc (by simp))) (by simp; omega) (fun v4 w4 o4 c4 n4 => ?_)
            have o4 : OwI w4 w.heap.size v4 p := by simpa using o4
            have cc4 : Ch [] w w4 := cc.transT c4 (fun k hk => .inr (o0.2 k (by simpa using hk)))
            refine hK _ _ (fun _ => Cls.mk trivial) ?_
            clear hK K cc
            have cc := cc4
            refine wpPlan_onlyU rfl (fun K hK => ?_); simp only [List.getD_cons_zero, List.getD_cons_succ]
            go_simp
            obtain ⟨k6, hk6⟩ : ∃ k, (w4).heap.size = k := ⟨_, rfl⟩
            have HK6 := Lib.hid hk6
            obtain ⟨W2, hWn⟩ : ∃ X, (w4).alloc (.cells #[.int .i64 x] 3) = X := ⟨_, rfl⟩
            have HS6 := Lib.hid (show W2.heap.size = k6 + 1 by rw [← hWn, ← hk6]; simp)
            have cn : Ch [] w W2 := by rw [← hWn]; exact cc.alloc _
            have r6 : Rd W2 (some ⟨k6, 0, none⟩) [x] := by rw [← hWn, ← hk6]; exact rd_lit _ [x]
            first | rw [hWn] | (rw [show (w4).alloc _ = W2 from hWn])
            first | (rw [hk0]; clear hk0) | (rw [hk6]; clear hk6) | skip
            refine hK _ _ (fun _ => Cls.mk trivial) ?_
            clear hK K cc
            have hWn2 := Lib.hid hWn
            clear hWn
            have cc := cn
            clear cn
            have o4 := o4.keep ((Ch.refl [] w4).alloc (.cells #[.int .i64 x] 3)) (by simp)
            rw [hWn2.out] at o4
            refine wpPlan_onlyU rfl (fun K hK => ?_); simp only [List.getD_cons_zero, List.getD_cons_succ]
            refine wp_app (.tmp 37) (.tmp 39) rfl w.heap.size v4 p rfl o4 cc.size (.slice (some ⟨k6, 0, none⟩) 1 1) [x] rfl (Rd.src (P := Tryd.prog) Tryd.underlying22 1 r6) (by simp; omega) (fun v7 w7 o7 c7 _ => ?_)
            have cc7 : Ch [] w w7 := cc.transT c7 (fun k hk => .inr (o4.2 k (by simpa using hk)))
            refine hK _ _ (fun _ => Cls.mk trivial) ?_
            clear hK K c7
            refine wpPlan_onlyU rfl (fun K hK => ?_); simp only [List.getD_cons_zero, List.getD_cons_succ]
            refine wp_app (.tmp 40) (.tmp 43) rfl w.heap.size v7 (p ++ [x]) rfl o7 cc7.size (.slice A2 q.length (c - p.length)) q rfl (Rd.src (P := Tryd.prog) Tryd.underlying22 _ (r2.keep cc7 (by simp))) (by have := HQ.out; simp; omega) (fun v11 w11 o11 c11 _ => ?_)
            have cc11 : Ch [] w w11 := cc7.transT c11 (fun k hk => .inr (o7.2 k (by simpa using hk)))
            refine hK _ _ (fun _ => Cls.mk trivial) ?_
            clear hK K c11
            refine wpPlan_readS trivial (fun K hK => ?_); simp only [List.getD_cons_zero, List.getD_cons_succ]; go_simp; refine hK _ ?_; clear hK K
            refine wpPlan_done ?_
            go_wp2
            go_ret
            have o12 : OwI w11 w.heap.size v11 (ins l x) := by rw [HI.out]; simpa using o11
            obtain ⟨a', c', rfl, j1, j2, j3⟩ := o12.form
            exact ⟨a', c', rfl, j3, j1, j2, .inr (fun y hy => o12.2 y.block (by rw [hy]; rfl)), cc11⟩
          · refine wpPlan_altU rfl (fun K hK => ?_) (by simp [wpPlan]); simp only [List.getD_cons_zero, List.getD_cons_succ]
            go_simp
            obtain ⟨k6, hk6⟩ : ∃ k, (W1).heap.size = k := ⟨_, rfl⟩
            have HK6 := Lib.hid hk6
            obtain ⟨W2, hWn⟩ : ∃ X, (W1).alloc (.cells #[.int .i64 x] 3) = X := ⟨_, rfl⟩
            have HS6 := Lib.hid (show W2.heap.size = k6 + 1 by rw [← hWn, ← hk6]; simp)
            have cn : Ch [] w W2 := by rw [← hWn]; exact cc.alloc _
            have r6 : Rd W2 (some ⟨k6, 0, none⟩) [x] := by rw [← hWn, ← hk6]; exact rd_lit _ [x]
            first | rw [hWn] | (rw [show (W1).alloc _ = W2 from hWn])
            first | (rw [hk0]; clear hk0) | (rw [hk6]; clear hk6) | skip
            refine hK _ _ (fun _ => Cls.mk trivial) ?_
            clear hK K cc
            have hWn2 := Lib.hid hWn
            clear hWn
            have cc := cn
            clear cn
            have o0 := (o0.alloc (.cells #[.int .i64 x] 3))
            rw [hWn2.out] at o0
            refine wpPlan_onlyU rfl (fun K hK => ?_); simp only [List.getD_cons_zero, List.getD_cons_succ]
            refine wp_app (.tmp 33) (.tmp 36) rfl w.heap.size (.slice (some ⟨k0, 0, none⟩) 0 0) [] rfl o0 cc.size (.slice a p.length c) p rfl (Rd.src (P := Tryd.prog) Tryd.underlying22 c (r1.keep cc (by simp))) (by simp; omega) (fun v4 w4 o4 c4 n4 => ?_)
            have o4 : OwI w4 w.heap.size v4 p := by simpa using o4
            have cc4 : Ch [] w w4 := cc.transT c4 (fun k hk => .inr (o0.2 k (by simpa using hk)))
            have r6 := r6.keep c4 (by have := HS0.out; have := HS6.out; have := HK0.out; have := HK6.out; simp [Value.ownBlock]; omega)
            refine hK _ _ (fun _ => Cls.mk trivial) ?_
            clear hK K cc
            have cc := cc4
            refine wpPlan_onlyU rfl (fun K hK => ?_); simp only [List.getD_cons_zero, List.getD_cons_succ]
            refine wp_app (.tmp 37) (.tmp 39) rfl w.heap.size v4 p rfl o4 cc.size (.slice (some ⟨k6, 0, none⟩) 1 1) [x] rfl (Rd.src (P := Tryd.prog) Tryd.underlying22 1 r6) (by simp; omega) (fun v7 w7 o7 c7 _ => ?_)
            have cc7 : Ch [] w w7 := cc.transT c7 (fun k hk => .inr (o4.2 k (by simpa using hk)))
            refine hK _ _ (fun _ => Cls.mk trivial) ?_
            clear hK K c7
            refine wpPlan_onlyU rfl (fun K hK => ?_); simp only [List.getD_cons_zero, List.getD_cons_succ]
            refine wp_app (.tmp 40) (.tmp 43) rfl w.heap.size v7 (p ++ [x]) rfl o7 cc7.size (.slice A2 q.length (c - p.length)) q rfl (Rd.src (P := Tryd.prog) Tryd.underlying22 _ (r2.keep cc7 (by simp))) (by have := HQ.out; simp; omega) (fun v11 w11 o11 c11 _ => ?_)
            have cc11 : Ch [] w w11 := cc7.transT c11 (fun k hk => .inr (o7.2 k (by simpa using hk)))
            refine hK _ _ (fun _ => Cls.mk trivial) ?_
            clear hK K c11
            refine wpPlan_readS trivial (fun K hK => ?_); simp only [List.getD_cons_zero, List.getD_cons_succ]; go_simp; refine hK _ ?_; clear hK K
            refine wpPlan_done ?_
            go_wp2
            go_ret
            have o12 : OwI w11 w.heap.size v11 (ins l x) := by rw [HI.out]; simpa using o11
            obtain ⟨a', c', rfl, j1, j2, j3⟩ := o12.form
            exact ⟨a', c', rfl, j3, j1, j2, .inr (fun y hy => o12.2 y.block (by rw [hy]; rfl)), cc11⟩
        · refine wpPlan_altU rfl (fun K hK => ?_) (by simp [wpPlan]); simp only [List.getD_cons_zero, List.getD_cons_succ]
          go_simp
          obtain ⟨k6, hk6⟩ : ∃ k, (W0).heap.size = k := ⟨_, rfl⟩
          have HK6 := Lib.hid hk6
          obtain ⟨W1, hWn⟩ : ∃ X, (W0).alloc (.cells #[.int .i64 x] 3) = X := ⟨_, rfl⟩
          have HS6 := Lib.hid (show W1.heap.size = k6 + 1 by rw [← hWn, ← hk6]; simp)
          have cn : Ch [] w W1 := by rw [← hWn]; exact cc.alloc _
          have r6 : Rd W1 (some ⟨k6, 0, none⟩) [x] := by rw [← hWn, ← hk6]; exact rd_lit _ [x]
          first | rw [hWn] | (rw [show (W0).alloc _ = W1 from hWn])
          first | (rw [hk0]; clear hk0) | (rw [hk6]; clear hk6) | skip
          refine hK _ _ (fun _ => Cls.mk trivial) ?_
          clear hK K cc
          have hWn2 := Lib.hid hWn
          clear hWn
          have cc := cn
          clear cn
          refine wpPlan_onlyU rfl (fun K hK => ?_); simp only [List.getD_cons_zero, List.getD_cons_succ]
          go_simp
          obtain ⟨k0, hk0⟩ : ∃ k, (W1).heap.size = k := ⟨_, rfl⟩
          have HK0 := Lib.hid hk0
          obtain ⟨W2, hWn⟩ : ∃ X, (W1).alloc (.cells #[] 3) = X := ⟨_, rfl⟩
          have HS0 := Lib.hid (show W2.heap.size = k0 + 1 by rw [← hWn, ← hk0]; simp)
          have cn : Ch [] w W2 := by rw [← hWn]; exact cc.alloc _
          have o0 : OwI W2 w.heap.size (.slice (some ⟨k0, 0, none⟩) 0 0) [] := by rw [← hWn, ← hk0]; exact OwI.empty _ cc.size
          first | rw [hWn] | (rw [show (W1).alloc _ = W2 from hWn])
          first | (rw [hk0]; clear hk0) | (rw [hk6]; clear hk6) | skip
          refine hK _ _ (fun _ => Cls.mk trivial) ?_
          clear hK K cc
          have hWn2 := Lib.hid hWn
          clear hWn
          have cc := cn
          clear cn
          have r6 := r6.keep (((Ch.refl [] W1).alloc (.cells #[] 3))) (by simp)
          rw [hWn2.out] at r6
          refine wpPlan_onlyU rfl (fun K hK => ?_); simp only [List.getD_cons_zero, List.getD_cons_succ]
          refine wp_app (.tmp 33) (.tmp 36) rfl w.heap.size (.slice (some ⟨k0, 0, none⟩) 0 0) [] rfl o0 cc.size (.slice a p.length c) p rfl (Rd.src (P := Tryd.prog) Tryd.underlying22 c (r1.keep cc (by simp))) (by simp; omega) (fun v4 w4 o4 c4 n4 => ?_)
          have o4 : OwI w4 w.heap.size v4 p := by simpa using o4
          have cc4 : Ch [] w w4 := cc.transT c4 (fun k hk => .inr (o0.2 k (by simpa using hk)))
          have r6 := r6.keep c4 (by have := HS0.out; have := HS6.out; have := HK0.out; have := HK6.out; simp [Value.ownBlock]; omega)
          refine hK _ _ (fun _ => Cls.mk trivial) ?_
          clear hK K cc
          have cc := cc4
          refine wpPlan_onlyU rfl (fun K hK => ?_); simp only [List.getD_cons_zero, List.getD_cons_succ]
          refine wp_app (.tmp 37) (.tmp 39) rfl w.heap.size v4 p rfl o4 cc.size (.slice (some ⟨k6, 0, none⟩) 1 1) [x] rfl (Rd.src (P := Tryd.prog) Tryd.underlying22 1 r6) (by simp; omega) (fun v7 w7 o7 c7 _ => ?_)
          have cc7 : Ch [] w w7 := cc.transT c7 (fun k hk => .inr (o4.2 k (by simpa using hk)))
          refine hK _ _ (fun _ => Cls.mk trivial) ?_
          clear hK K c7
          refine wpPlan_onlyU rfl (fun K hK => ?_); simp only [List.getD_cons_zero, List.getD_cons_succ]
          refine wp_app (.tmp 40) (.tmp 43) rfl w.heap.size v7 (p ++ [x]) rfl o7 cc7.size (.slice A2 q.length (c - p.length)) q rfl (Rd.src (P := Tryd.prog) Tryd.underlying22 _ (r2.keep cc7 (by simp))) (by have := HQ.out; simp; omega) (fun v11 w11 o11 c11 _ => ?_)
          have cc11 : Ch [] w w11 := cc7.transT c11 (fun k hk => .inr (o7.2 k (by simpa using hk)))
          refine hK _ _ (fun _ => Cls.mk trivial) ?_
          clear hK K c11
          refine wpPlan_readS trivial (fun K hK => ?_); simp only [List.getD_cons_zero, List.getD_cons_succ]; go_simp; refine hK _ ?_; clear hK K
          refine wpPlan_done ?_
          go_wp2
          go_ret
          have o12 : OwI w11 w.heap.size v11 (ins l x) := by rw [HI.out]; simpa using o11
          obtain ⟨a', c', rfl, j1, j2, j3⟩ := o12.form
          exact ⟨a', c', rfl, j3, j1, j2, .inr (fun y hy => o12.2 y.block (by rw [hy]; rfl)), cc11⟩
      · have t1 : p.length < n := by omega
        have t2 : ¬ (n : Int) ≤ p.length := by omega
        obtain ⟨b1', o1, rfl, c1⟩ := h.at (i := p.length) (by rw [← HN.out]; omega)
        have d1 := c1 p.length (by rw [← HN.out]; omega)
        have hg : ∃ y t, q = y :: t := by
          cases q with
          | nil => have := HQ.out; simp at this; omega
          | cons y t => exact ⟨y, t, rfl⟩
        obtain ⟨y, t, hyt⟩ := hg
        have hxy := hq y t hyt
        have r2 := Rd.dropIf (k := p.length) (c := c) h (by rw [← HN.out]; exact hnc)
        rw [show l.drop p.length = q by rw [hpq]; simp] at r2
        obtain ⟨A2, hA2⟩ : ∃ A2 : Option Addr, (if c = p.length then some ⟨b1', o1, none⟩ else some ⟨b1', o1 + p.length, none⟩) = A2 := ⟨_, rfl⟩
        rw [hA2] at r2
        have HA2 := Lib.hid hA2
        rw [hpq, hyt, gI_app] at d1
        have e1 : decide (y < x) = false := decide_eq_false (by omega)
        have e2 : (y == x) = false := by rw [beq_eq_false_iff_ne]; omega
        clear c1 hpq hyt hp hq hn0 hxy hA2
        go_upto_region 6 with fail
        refine wp_region_plan (Cls fun _ => True) (List.range 13) (.reads [1, 2, 3, 5, 8, 9, 10] (.alt 0 (.alt 4 (.only 6 (.only 7 (.only 11 (.reads [12] .done)))) (.alt 6 (.only 4 (.only 7 (.only 11 (.reads [12] .done)))) .done)) (.alt 6 (.only 0 (.only 4 (.only 7 (.only 11 (.reads [12] .done))))) .done))) (by kernel_rfl) (by kernel_rfl) (fun _ _ _ _ _ h => h) ?_
        simp only [Plan.reads, Plan.only, List.foldr_cons, List.foldr_nil]
        iterate 7 (refine wpPlan_readS trivial (fun K hK => ?_); simp only [List.getD_cons_zero, List.getD_cons_succ]; go_simp; refine hK _ ?_; clear hK K)
        rw [HA2.out]
        rw [show n - p.length = q.length by have := HQ.out; omega]
        clear HA2 b0 b1 b2 b3
        obtain ⟨W0, hW0⟩ : ∃ W0, w.drewN 1 = W0 := ⟨_, rfl⟩
        have cc : Ch [] w W0 := by rw [← hW0]; exact (Ch.refl [] w).drewN 1
        rw [hW0]
        clear hW0
        refine wpPlan_altU rfl (fun K hK => ?_) ?_; simp only [List.getD_cons_zero, List.getD_cons_succ]
        · go_simp
          obtain ⟨k0, hk0⟩ : ∃ k, (W0).heap.size = k := ⟨_, rfl⟩
          have HK0 := Lib.hid hk0
          obtain ⟨W1, hWn⟩ : ∃ X, (W0).alloc (.cells #[] 3) = X := ⟨_, rfl⟩
          have HS0 := Lib.hid (show W1.heap.size = k0 + 1 by rw [← hWn, ← hk0]; simp)
          have cn : Ch [] w W1 := by rw [← hWn]; exact cc.alloc _
          have o0 : OwI W1 w.heap.size (.slice (some ⟨k0, 0, none⟩) 0 0) [] := by rw [← hWn, ← hk0]; exact OwI.empty _ cc.size
          first | rw [hWn] | (rw [show (W0).alloc _ = W1 from hWn])
          first | (rw [hk0]; clear hk0) | (rw [hk6]; clear hk6) | skip
          refine hK _ _ (fun _ => Cls.mk trivial) ?_
          clear hK K cc
          have hWn2 := Lib.hid hWn
          clear hWn
          have cc := cn
          clear cn
          refine wpPlan_altU rfl (fun K hK => ?_) ?_; simp only [List.getD_cons_zero, List.getD_cons_succ]
          · refine wp_app (.tmp 33) (.tmp 36) rfl w.heap.size (.slice (some ⟨k0, 0, none⟩) 0 0) [] rfl o0 cc.size (.slice (some ⟨b1', o1, none⟩) p.length c) p rfl (Rd.src (P := Tryd.prog) Tryd.underlying22 c (r1.keep cc (by simp))) (by simp; omega) (fun v4 w4 o4 c4 n4 => ?_)
            have o4 : OwI w4 w.heap.size v4 p := by simpa using o4
            have cc4 : Ch [] w w4 := cc.transT c4 (fun k hk => .inr (o0.2 k (by simpa using hk)))
            refine hK _ _ (fun _ => Cls.mk trivial) ?_
            clear hK K cc
            have cc := cc4
            refine wpPlan_onlyU rfl (fun K hK => ?_); simp only [List.getD_cons_zero, List.getD_cons_succ]
            go_simp
            obtain ⟨k6, hk6⟩ : ∃ k, (w4).heap.size = k := ⟨_, rfl⟩
            have HK6 := Lib.hid hk6
            obtain ⟨W2, hWn⟩ : ∃ X, (w4).alloc (.cells #[.int .i64 x] 3) = X := ⟨_, rfl⟩
            have HS6 := Lib.hid (show W2.heap.size = k6 + 1 by rw [← hWn, ← hk6]; simp)
            have cn : Ch [] w W2 := by rw [← hWn]; exact cc.alloc _
            have r6 : Rd W2 (some ⟨k6, 0, none⟩) [x] := by rw [← hWn, ← hk6]; exact rd_lit _ [x]
            first | rw [hWn] | (rw [show (w4).alloc _ = W2 from hWn])
            first | (rw [hk0]; clear hk0) | (rw [hk6]; clear hk6) | skip
            refine hK _ _ (fun _ => Cls.mk trivial) ?_
            clear hK K cc
            have hWn2 := Lib.hid hWn
            clear hWn
            have cc := cn
            clear cn
            have o4 := o4.keep ((Ch.refl [] w4).alloc (.cells #[.int .i64 x] 3)) (by simp)
            rw [hWn2.out] at o4
            refine wpPlan_onlyU rfl (fun K hK => ?_); simp only [List.getD_cons_zero, List.getD_cons_succ]
            refine wp_app (.tmp 37) (.tmp 39) rfl w.heap.size v4 p rfl o4 cc.size (.slice (some ⟨k6, 0, none⟩) 1 1) [x] rfl (Rd.src (P := Tryd.prog) Tryd.underlying22 1 r6) (by simp; omega) (fun v7 w7 o7 c7 _ => ?_)
            have cc7 : Ch [] w w7 := cc.transT c7 (fun k hk => .inr (o4.2 k (by simpa using hk)))
            refine hK _ _ (fun _ => Cls.mk trivial) ?_
            clear hK K c7
            refine wpPlan_onlyU rfl (fun K hK => ?_); simp only [List.getD_cons_zero, List.getD_cons_succ]
            refine wp_app (.tmp 40) (.tmp 43) rfl w.heap.size v7 (p ++ [x]) rfl o7 cc7.size (.slice A2 q.length (c - p.length)) q rfl (Rd.src (P := Tryd.prog) Tryd.underlying22 _ (r2.keep cc7 (by simp))) (by have := HQ.out; simp; omega) (fun v11 w11 o11 c11 _ => ?_)
            have cc11 : Ch [] w w11 := cc7.transT c11 (fun k hk => .inr (o7.2 k (by simpa using hk)))
            refine hK _ _ (fun _ => Cls.mk trivial) ?_
            clear hK K c11
            refine wpPlan_readS trivial (fun K hK => ?_); simp only [List.getD_cons_zero, List.getD_cons_succ]; go_simp; refine hK _ ?_; clear hK K
            refine wpPlan_done ?_
            go_wp2
            go_ret
            have o12 : OwI w11 w.heap.size v11 (ins l x) := by rw [HI.out]; simpa using o11
            obtain ⟨a', c', rfl, j1, j2, j3⟩ := o12.form
            exact ⟨a', c', rfl, j3, j1, j2, .inr (fun y hy => o12.2 y.block (by rw [hy]; rfl)), cc11⟩
          · refine wpPlan_altU rfl (fun K hK => ?_) (by simp [wpPlan]); simp only [List.getD_cons_zero, List.getD_cons_succ]
            go_simp
            obtain ⟨k6, hk6⟩ : ∃ k, (W1).heap.size = k := ⟨_, rfl⟩
            have HK6 := Lib.hid hk6
            obtain ⟨W2, hWn⟩ : ∃ X, (W1).alloc (.cells #[.int .i64 x] 3) = X := ⟨_, rfl⟩
            have HS6 := Lib.hid (show W2.heap.size = k6 + 1 by rw [← hWn, ← hk6]; simp)
            have cn : Ch [] w W2 := by rw [← hWn]; exact cc.alloc _
            have r6 : Rd W2 (some ⟨k6, 0, none⟩) [x] := by rw [← hWn, ← hk6]; exact rd_lit _ [x]
            first | rw [hWn] | (rw [show (W1).alloc _ = W2 from hWn])
            first | (rw [hk0]; clear hk0) | (rw [hk6]; clear hk6) | skip
            refine hK _ _ (fun _ => Cls.mk trivial) ?_
            clear hK K cc
            have hWn2 := Lib.hid hWn
            clear hWn
            have cc := cn
            clear cn
            have o0 := (o0.alloc (.cells #[.int .i64 x] 3))
            rw [hWn2.out] at o0
            refine wpPlan_onlyU rfl (fun K hK => ?_); simp only [List.getD_cons_zero, List.getD_cons_succ]
            refine wp_app (.tmp 33) (.tmp 36) rfl w.heap.size (.slice (some ⟨k0, 0, none⟩) 0 0) [] rfl o0 cc.size (.slice (some ⟨b1', o1, none⟩) p.length c) p rfl (Rd.src (P := Tryd.prog) Tryd.underlying22 c (r1.keep cc (by simp))) (by simp; omega) (fun v4 w4 o4 c4 n4 => ?_)
            have o4 : OwI w4 w.heap.size v4 p := by simpa using o4
            have cc4 : Ch [] w w4 := cc.transT c4 (fun k hk => .inr (o0.2 k (by simpa using hk)))
            have r6 := r6.keep c4 (by have := HS0.out; have := HS6.out; have := HK0.out; have := HK6.out; simp [Value.ownBlock]; omega)
            refine hK _ _ (fun _ => Cls.mk trivial) ?_
            clear hK K cc
            have cc := cc4
            refine wpPlan_onlyU rfl (fun K hK => ?_); simp only [List.getD_cons_zero, List.getD_cons_succ]
            refine wp_app (.tmp 37) (.tmp 39) rfl w.heap.size v4 p rfl o4 cc.size (.slice (some ⟨k6, 0, none⟩) 1 1) [x] rfl (Rd.src (P := Tryd.prog) Tryd.underlying22 1 r6) (by simp; omega) (fun v7 w7 o7 c7 _ => ?_)
            have cc7 : Ch [] w w7 := cc.transT c7 (fun k hk => .inr (o4.2 k (by simpa using hk)))
            refine hK _ _ (fun _ => Cls.mk trivial) ?_
            clear hK K c7
            refine wpPlan_onlyU rfl (fun K hK => ?_); simp only [List.getD_cons_zero, List.getD_cons_succ]
            refine wp_app (.tmp 40) (.tmp 43) rfl w.heap.size v7 (p ++ [x]) rfl o7 cc7.size (.slice A2 q.length (c - p.length)) q rfl (Rd.src (P := Tryd.prog) Tryd.underlying22 _ (r2.keep cc7 (by simp))) (by have := HQ.out; simp; omega) (fun v11 w11 o11 c11 _ => ?_)
            have cc11 : Ch [] w w11 := cc7.transT c11 (fun k hk => .inr (o7.2 k (by simpa using hk)))
            refine hK _ _ (fun _ => Cls.mk trivial) ?_
            clear hK K c11
            refine wpPlan_readS trivial (fun K hK => ?_); simp only [List.getD_cons_zero, List.getD_cons_succ]; go_simp; refine hK _ ?_; clear hK K
            refine wpPlan_done ?_
            go_wp2
            go_ret
            have o12 : OwI w11 w.heap.size v11 (ins l x) := by rw [HI.out]; simpa using o11
            obtain ⟨a', c', rfl, j1, j2, j3⟩ := o12.form
            exact ⟨a', c', rfl, j3, j1, j2, .inr (fun y hy => o12.2 y.block (by rw [hy]; rfl)), cc11⟩
        · refine wpPlan_altU rfl (fun K hK => ?_) (by simp [wpPlan]); simp only [List.getD_cons_zero, List.getD_cons_succ]
          go_simp
          obtain ⟨k6, hk6⟩ : ∃ k, (W0).heap.size = k := ⟨_, rfl⟩
          have HK6 := Lib.hid hk6
          obtain ⟨W1, hWn⟩ : ∃ X, (W0).alloc (.cells #[.int .i64 x] 3) = X := ⟨_, rfl⟩
          have HS6 := Lib.hid (show W1.heap.size = k6 + 1 by rw [← hWn, ← hk6]; simp)
          have cn : Ch [] w W1 := by rw [← hWn]; exact cc.alloc _
          have r6 : Rd W1 (some ⟨k6, 0, none⟩) [x] := by rw [← hWn, ← hk6]; exact rd_lit _ [x]
          first | rw [hWn] | (rw [show (W0).alloc _ = W1 from hWn])
          first | (rw [hk0]; clear hk0) | (rw [hk6]; clear hk6) | skip
          refine hK _ _ (fun _ => Cls.mk trivial) ?_
          clear hK K cc
          have hWn2 := Lib.hid hWn
          clear hWn
          have cc := cn
          clear cn
          refine wpPlan_onlyU rfl (fun K hK => ?_); simp only [List.getD_cons_zero, List.getD_cons_succ]
          go_simp
          obtain ⟨k0, hk0⟩ : ∃ k, (W1).heap.size = k := ⟨_, rfl⟩
          have HK0 := Lib.hid hk0
          obtain ⟨W2, hWn⟩ : ∃ X, (W1).alloc (.cells #[] 3) = X := ⟨_, rfl⟩
          have HS0 := Lib.hid (show W2.heap.size = k0 + 1 by rw [← hWn, ← hk0]; simp)
          have cn : Ch [] w W2 := by rw [← hWn]; exact cc.alloc _
          have o0 : OwI W2 w.heap.size (.slice (some ⟨k0, 0, none⟩) 0 0) [] := by rw [← hWn, ← hk0]; exact OwI.empty _ cc.size
          first | rw [hWn] | (rw [show (W1).alloc _ = W2 from hWn])
          first | (rw [hk0]; clear hk0) | (rw [hk6]; clear hk6) | skip
          refine hK _ _ (fun _ => Cls.mk trivial) ?_
          clear hK K cc
          have hWn2 := Lib.hid hWn
          clear hWn
          have cc := cn
          clear cn
          have r6 := r6.keep (((Ch.refl [] W1).alloc (.cells #[] 3))) (by simp)
          rw [hWn2.out] at r6
          refine wpPlan_onlyU rfl (fun K hK => ?_); simp only [List.getD_cons_zero, List.getD_cons_succ]
          refine wp_app (.tmp 33) (.tmp 36) rfl w.heap.size (.slice (some ⟨k0, 0, none⟩) 0 0) [] rfl o0 cc.size (.slice (some ⟨b1', o1, none⟩) p.length c) p rfl (Rd.src (P := Tryd.prog) Tryd.underlying22 c (r1.keep cc (by simp))) (by simp; omega) (fun v4 w4 o4 c4 n4 => ?_)
          have o4 : OwI w4 w.heap.size v4 p := by simpa using o4
          have cc4 : Ch [] w w4 := cc.transT c4 (fun k hk => .inr (o0.2 k (by simpa using hk)))
          have r6 := r6.keep c4 (by have := HS0.out; have := HS6.out; have := HK0.out; have := HK6.out; simp [Value.ownBlock]; omega)
          refine hK _ _ (fun _ => Cls.mk trivial) ?_
          clear hK K cc
          have cc := cc4
          refine wpPlan_onlyU rfl (fun K hK => ?_); simp only [List.getD_cons_zero, List.getD_cons_succ]
          refine wp_app (.tmp 37) (.tmp 39) rfl w.heap.size v4 p rfl o4 cc.size (.slice (some ⟨k6, 0, none⟩) 1 1) [x] rfl (Rd.src (P := Tryd.prog) Tryd.underlying22 1 r6) (by simp; omega) (fun v7 w7 o7 c7 _ => ?_)
          have cc7 : Ch [] w w7 := cc.transT c7 (fun k hk => .inr (o4.2 k (by simpa using hk)))
          refine hK _ _ (fun _ => Cls.mk trivial) ?_
          clear hK K c7
          refine wpPlan_onlyU rfl (fun K hK => ?_); simp only [List.getD_cons_zero, List.getD_cons_succ]
          refine wp_app (.tmp 40) (.tmp 43) rfl w.heap.size v7 (p ++ [x]) rfl o7 cc7.size (.slice A2 q.length (c - p.length)) q rfl (Rd.src (P := Tryd.prog) Tryd.underlying22 _ (r2.keep cc7 (by simp))) (by have := HQ.out; simp; omega) (fun v11 w11 o11 c11 _ => ?_)
          have cc11 : Ch [] w w11 := cc7.transT c11 (fun k hk => .inr (o7.2 k (by simpa using hk)))
          refine hK _ _ (fun _ => Cls.mk trivial) ?_
          clear hK K c11
          refine wpPlan_readS trivial (fun K hK => ?_); simp only [List.getD_cons_zero, List.getD_cons_succ]; go_simp; refine hK _ ?_; clear hK K
          refine wpPlan_done ?_
          go_wp2
          go_ret
          have o12 : OwI w11 w.heap.size v11 (ins l x) := by rw [HI.out]; simpa using o11
          obtain ⟨a', c', rfl, j1, j2, j3⟩ := o12.form
          exact ⟨a', c', rfl, j3, j1, j2, .inr (fun y hy => o12.2 y.block (by rw [hy]; rfl)), cc11⟩
theorem putRef_in (a : Option Addr) (l p t : List Int) (x : Int) (n c : Nat) (w : World) (h : Rd w a l) (hpq : l = p ++ x :: t) (hn : n = l.length) (hl : n ≤ 100000) (hp : ∀ y ∈ p, y < x) :
    Calls Tryd.prog 23 #[.slice a n c, .int .i64 x] w fun e w' => e = .returned (.slice a n c) ∧ w' = w := by
  have HN := Lib.hid hn
  have hplt : p.length < n := by rw [hn, hpq]; simp
  clear hn
  go_enter Tryd.func23, Tryd.ntmps23
  go_wp2
  go_loop [5] (fun i => ∃ k : Nat, k ≤ p.length ∧ i = .int .i64 k) (fun i => n - (intOf i).toNat)
  case atStart => exact ⟨0, by omega, rfl⟩
  case round =>
    obtain ⟨k, hk, rfl⟩ := hrel
    obtain ⟨b1, o1, rfl, c1⟩ := h.at (i := k) (by rw [← HN.out]; omega)
    have d1 := c1 k (by rw [← HN.out]; omega)
    clear c1
    by_cases hlt' : k < p.length
    · have hm : gI l k < x := by rw [hpq, show gI (p ++ x :: t) k = gI p k by simp [gI, List.getD_eq_getElem?_getD, List.getElem?_append_left hlt']]; exact hp _ (gI_mem hlt')
      generalize gI l k = u at d1 hm
      clear hpq
      go_wp2
      go_round
      case rel => exact ⟨k + 1, by omega, by go_num⟩
      case measure => simp [intOf]; omega
    · obtain rfl : k = p.length := by omega
      rw [hpq, gI_app] at d1
      clear hpq hlt' hk hp
      go_wp2
      go_ret
      exact ⟨rfl, rfl⟩
theorem putRef (a : Option Addr) (l : List Int) (x : Int) (n c : Nat) (w : World) (h : Rd w a l) (hn : n = l.length) (hnc : n ≤ c) (hc : c ≤ maxLen) (hl : n ≤ 100000) :
    Calls Tryd.prog 23 #[.slice a n c, .int .i64 x] w fun e w' => ∃ a' c', e = .returned (.slice a' (ins l x).length c') ∧ Rd w' a' (ins l x) ∧ (ins l x).length ≤ c' ∧ c' ≤ maxLen ∧ (a' = a ∨ ∀ y, a' = some y → w.heap.size ≤ y.block) ∧ Ch [] w w' := by
  obtain ⟨p, q, hpq, hp, ⟨t, hq, hi⟩ | ⟨hq, hi⟩⟩ := ins_parts l x
  · subst hq
    refine (putRef_in a l p t x n c w h hpq hn hl hp).mono ?_
    rintro e w' ⟨rfl, rfl⟩
    rw [hi, ← hn]
    exact ⟨a, c, rfl, h, hnc, hc, .inl rfl, Ch.refl _ _⟩
  · exact putRef_mid a l p q x n c w h hpq hn hnc hl hp hq hi
end Go.Proofs.YtheniiinioggiaaDoor
