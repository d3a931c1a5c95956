/-
  Contracts of package wait: Wake, Del, Len, All. Conditions: none beyond what each theorem names.
-/
import Derived.Test.YtaafdhohiekakaaWait
namespace Go.Proofs.Ytaafdhohiekakaa
open Go.RowKit
theorem waitWakeNil (a : Int) (w : World) : Calls Try.prog 12 #[.pointer none, .int .i64 a] w fun e w' => e = .returned (.tuple #[.int .i64 0, .bool false]) ∧ w' = w := by
  go_enter Try.func12, Try.ntmps12
  go_wp2
  go_ret2
  exact ⟨rfl, rfl⟩
theorem waitWakeNo (b : Nat) (a : Int) (w : World) (ha : a < 0 ∨ 31 < a) : Calls Try.prog 12 #[.pointer (some ⟨b, 0, none⟩), .int .i64 a] w fun e w' => e = .returned (.tuple #[.int .i64 0, .bool false]) ∧ w' = w := by
  have hP := placeNo a ha w
  clear ha
  go_enter Try.func12, Try.ntmps12
  go_wp2_with fail
  refine hP.mono ?_; rintro e w1 ⟨rfl, rfl⟩
  go_wp2
  go_ret2
  exact ⟨rfl, rfl⟩
theorem waitWakeEmpty (b : Nat) (vs : List Value) (Ls : List (List Int)) (i : Nat) (w : World) (h : WaitsAt w b vs Ls) (hi : i < 32) (hL : gL Ls i = []) :
    Calls Try.prog 12 #[.pointer (some ⟨b, 0, none⟩), .int .i64 i] w fun e w' => e = .returned (.tuple #[.int .i64 0, .bool false]) ∧ w' = w := by
  have hP := placeYes i hi w
  obtain ⟨v, hv, hO, hcv⟩ := h.1.at i (by rw [h.vlen]; omega)
  rw [hL] at hO
  obtain ⟨a, c, rfl, _⟩ := hO.form
  have i0 : (0 : Int) ≤ i := by omega
  have i1 : (i : Int) < 32 := by omega
  clear hv hL hO h
  go_enter Try.func12, Try.ntmps12
  go_wp2_with fail
  refine hP.mono ?_; rintro e w1 ⟨rfl, rfl⟩
  go_wp2
  go_ret2
  exact ⟨rfl, rfl⟩
set_option maxHeartbeats 1000000 in
theorem waitWake (b : Nat) (vs : List Value) (Ls : List (List Int)) (i : Nat) (x : Int) (t : List Int) (w : World) (h : WaitsAt w b vs Ls) (hi : i < 32) (hL : gL Ls i = x :: t) (hl : t.length ≤ 100000) :
    Calls Try.prog 12 #[.pointer (some ⟨b, 0, none⟩), .int .i64 i] w fun e w' => e = .returned (.tuple #[.int .i64 x, .bool true]) ∧
      ∃ vs', WaitsAt w' b vs' (Ls.set i t) ∧ Ch (b :: blocksOf vs) w w' ∧ (∀ k ∈ blocksOf vs', k ∈ blocksOf vs ∨ w.heap.size ≤ k) := by
  have hP := placeYes i hi w
  obtain ⟨v, hv, hO, hcv⟩ := h.1.at i (by rw [h.vlen]; omega)
  rw [hL] at hO
  obtain ⟨a, c, rfl, hc1, hc2, hrd⟩ := hO.form
  obtain ⟨n, hn⟩ : ∃ n, t.length = n := ⟨_, rfl⟩
  rw [List.length_cons, hn] at hc1 hcv hv hO
  rw [hn] at hl
  obtain ⟨ba, oa, rfl, hcell⟩ := hrd.at (i := 0) (by simp)
  have d0 := hcell 0 (by simp)
  rw [show gI (x :: t) 0 = x from rfl, Nat.add_zero] at d0
  have hrt : Rd w (if c = 1 then some ⟨ba, oa, none⟩ else some ⟨ba, oa + 1, none⟩) t := by
    have := hrd.dropIf (k := 1) (c := c) (by rw [List.length_cons, hn]; exact hc1)
    simpa using this
  have hbl := h.1.lt
  have i0 : (0 : Int) ≤ i := by omega
  have i1 : (i : Int) < 32 := by omega
  have b1 : (1 : Int) ≤ (n : Int) + 1 := by omega
  have b2 : ((n : Int) + 1) ≤ c := by omega
  have b3 : (((n + 1 : Nat) : Int) == 0) = false := by rw [beq_eq_false_iff_ne]; omega
  have HV := Lib.hid hv
  have HL := Lib.hid hL
  have HN := Lib.hid hn
  clear hL hv hcell hrd hn
  go_enter Try.func12, Try.ntmps12
  go_wp2_with fail
  refine hP.mono ?_; rintro e w1 ⟨rfl, rfl⟩
  go_upto_region 4 with fail
  obtain ⟨S, hS⟩ : ∃ S : World → Prop, ∀ w', S w' ↔ (w'.cell? ⟨b, i, none⟩ = some (.slice (some ⟨ba, oa, none⟩) (n + 1) c)) := ⟨_, fun _ => Iff.rfl⟩
  have hS0 : S (w1.drewN 1) := (hS _).2 hcv
  have hS1 : ∀ x : { w' : World // S w' }, x.1.cell? ⟨b, i, none⟩ = some (.slice (some ⟨ba, oa, none⟩) (n + 1) c) := fun x => (hS _).1 x.2
  have hSA : Nonempty { w' : World // S w' } := ⟨⟨_, hS0⟩⟩
  have HS := Lib.hid hS
  clear hS
  refine wp_region_mix2 (Cls S) [0, 1, 2, 3, 4, 5, 6, 10, 11] [7, 8] [9] [12, 13] (by kernel_rfl) (by kernel_rfl) (fun _ _ _ _ _ h => h) (Cls.mk hS0) ?_
  simp only [pickOps, List.map_cons, List.map_nil, List.getD_cons_zero, List.getD_cons_succ]
  iterate 9 (refine wpPure_step (fun K hK => ?_); go_simp; refine hK _ ?_; clear hK K)
  refine wpYield_nil ?_
  iterate 2 (refine wpYield_stepS (fun K hK => ?_); go_simp; refine hK _ ?_; clear hK K)
  refine wpYield_nil ?_
  clear hS1 hSA
  obtain ⟨A2, hA2⟩ : ∃ A2 : Option Addr, (if c = 1 then (some ⟨ba, oa, none⟩ : Option Addr) else some ⟨ba, oa + 1, none⟩) = A2 := ⟨_, rfl⟩
  rw [hA2] at hrt ⊢
  clear hA2
  refine wpKeep_step rfl (fun K hK => ?_)
  go_simp
  have hC := cloneI A2 t (c - 1) (w1.drewN 1) (hrt.drewN 1) (by rw [HN.out]; omega)
  rw [HN.out] at hC
  refine hC.mono ?_; rintro e w2 ⟨v', rfl, o2, c2⟩
  have c12 : Ch [] w1 w2 := ((Ch.refl [] w1).drewN 1).trans c2
  have hb2 : Blk w2 b vs.toArray 66 := h.1.blk.keep c12 (by simp)
  refine hK _ _ ⟨Cls.mk ((HS.out _).2 ((hb2.cell i).trans ((h.1.blk.cell i).symm.trans hcv))), ?_⟩
  clear hK K hC
  refine wpKeep_nil ?_
  have o2' : OwI w2 (b + 1) v' t := o2.mono (by simp; omega)
  obtain ⟨R1, R2, R3⟩ := h.1.set HV.out (c12.mono (by simp)) o2' (.inr (fun k hk => by have := o2.2 k hk; simpa using this))
  have q1 := hb2.frozen i
  have q2 := hb2.cell i
  rw [show vs.toArray[i]? = some (Value.slice (some ⟨ba, oa, none⟩) (n + 1) c) by simpa using HV.out] at q2
  obtain ⟨a4, cap4, rfl, _⟩ := o2'.form
  rw [HN.out] at *
  go_wp2
  go_ret2
  exact ⟨rfl, _, ⟨R1, by rw [List.length_set]; exact h.2⟩, R2, R3⟩
theorem waitDelNil (g : Int) (w : World) : Calls Try.prog 18 #[.pointer none, .int .i64 g] w fun e w' => e = .returned (.bool false) ∧ w' = w := by
  go_enter Try.func18, Try.ntmps18
  go_wp2
  go_ret
  exact ⟨rfl, rfl⟩
theorem waitDelNone (b : Nat) (vs : List Value) (Ls : List (List Int)) (g : Int) (w : World) (h : WaitsAt w b vs Ls) (hg : ∀ i, i < 32 → g ∉ gL Ls i) (hl : ∀ i, (gL Ls i).length ≤ 100000) :
    Calls Try.prog 18 #[.pointer (some ⟨b, 0, none⟩), .int .i64 g] w fun e w' => e = .returned (.bool false) ∧ w' = w := by
  have hF := waitFindNone b vs Ls g w h hg hl
  clear hg hl h
  go_enter Try.func18, Try.ntmps18
  go_wp2_with fail
  refine hF.mono ?_; rintro e w1 ⟨rfl, rfl⟩
  go_wp2
  go_ret
  exact ⟨rfl, rfl⟩
set_option maxHeartbeats 2000000 in
theorem waitDel (b : Nat) (vs : List Value) (Ls : List (List Int)) (g : Int) (i : Nat) (p q : List Int) (w : World) (h : WaitsAt w b vs Ls) (hi : i < 32) (hL : gL Ls i = p ++ g :: q) (hp : g ∉ p) (hg : ∀ j, j < i → g ∉ gL Ls j) (hl : ∀ i, (gL Ls i).length ≤ 50000) :
    Calls Try.prog 18 #[.pointer (some ⟨b, 0, none⟩), .int .i64 g] w fun e w' => e = .returned (.bool true) ∧
      ∃ vs', WaitsAt w' b vs' (Ls.set i (p ++ q)) ∧ Ch (b :: blocksOf vs) w w' ∧ (∀ k ∈ blocksOf vs', k ∈ blocksOf vs ∨ w.heap.size ≤ k) := by
  have hF := waitFindAt b vs Ls g i w h hi (by rw [hL]; simp) hg (fun i => by have := hl i; omega)
  obtain ⟨v, hv, hO, hcv⟩ := h.1.at i (by rw [h.vlen]; omega)
  have hli := hl i
  rw [hL] at hO hli
  obtain ⟨a, c, rfl, hc1, hc2, hrd⟩ := hO.form
  obtain ⟨ba, oa, rfl, _⟩ := hrd.at (i := 0) (by rw [List.length_append, List.length_cons]; omega)
  obtain ⟨n, hn⟩ : ∃ n, (p ++ g :: q).length = n := ⟨_, rfl⟩
  obtain ⟨k, hk⟩ : ∃ k, p.length = k := ⟨_, rfl⟩
  obtain ⟨m, hm⟩ : ∃ m, q.length = m := ⟨_, rfl⟩
  have hnkm : n = k + 1 + m := by rw [← hn]; simp; omega
  have hix := ixFound (some ⟨ba, oa, none⟩) p q g n c w hrd hp hn.symm (by omega)
  have r1 : Rd w (some ⟨ba, oa, none⟩) p := hrd.pre
  have r2 : Rd w (if c = k + 1 then some ⟨ba, oa, none⟩ else some ⟨ba, oa + (k + 1), none⟩) q := by rw [← hk]; exact hrd.postIf g hc1
  rw [hn] at hc1 hcv hv hO hli
  rw [hk] at hix
  have hbl := h.1.lt
  have i0 : (0 : Int) ≤ i := by omega
  have i1 : (i : Int) < 32 := by omega
  have i2 : ¬ (i : Int) < 0 := by omega
  have k0 : (0 : Int) ≤ k := by omega
  have k1 : (k : Int) ≤ c := by omega
  have k2 : ((k : Int) + 1) ≤ n := by omega
  have k3 : (n : Int) ≤ c := by omega
  have k4 : IntKind.i64.wrap ((k : Int) + 1) = (k : Int) + 1 := IntWalk.i64_in _ (by omega)
  have k5 : (0 : Int) ≤ (k : Int) + 1 := by omega
  have k6 : ((k : Int) + 1).toNat = k + 1 := by omega
  have hnk : n - (k + 1) = m := by omega
  have hkm : k + m ≤ 50000 := by omega
  have HV := Lib.hid hv
  have HL := Lib.hid hL
  have HN := Lib.hid hn
  have HK := Lib.hid hk
  have HM := Lib.hid hm
  have HNK := Lib.hid hnk
  clear hL hv hrd hn hk hm hp hg hl hnkm hnk
  go_enter Try.func18, Try.ntmps18
  go_wp2_with fail
  refine hF.mono ?_; rintro e w1 ⟨rfl, rfl⟩
  clear hF
  go_wp2_with fail
  refine hix.mono ?_; rintro e w1 ⟨rfl, rfl⟩
  clear hix
  go_upto_region 7 with fail
  obtain ⟨S, hS⟩ : ∃ S : World → Prop, ∀ w', S w' ↔ (w'.cell? ⟨b, i, none⟩ = some (.slice (some ⟨ba, oa, none⟩) n c)) := ⟨_, fun _ => Iff.rfl⟩
  have hS0 : S (w1.drewN 1) := (hS _).2 hcv
  have hS1 : ∀ x : { w' : World // S w' }, x.1.cell? ⟨b, i, none⟩ = some (.slice (some ⟨ba, oa, none⟩) n c) := fun x => (hS _).1 x.2
  have hSA : Nonempty { w' : World // S w' } := ⟨⟨_, hS0⟩⟩
  have HS := Lib.hid hS
  clear hS
  refine wp_region_mix2 (Cls S) [0, 1, 2, 3, 8, 10, 11, 16, 17, 4, 5, 6, 12, 13, 14, 21, 22] [7, 9, 15, 18] [19, 20] [23, 24] (by kernel_rfl) (by kernel_rfl) (fun _ _ _ _ _ h => h) (Cls.mk hS0) ?_
  simp only [pickOps, List.map_cons, List.map_nil, List.getD_cons_zero, List.getD_cons_succ]
  iterate 17 (refine wpPure_step (fun K hK => ?_); go_simp; refine hK _ ?_; clear hK K)
  refine wpYield_nil ?_
  iterate 4 (refine wpYield_stepS (fun K hK => ?_); go_simp; refine hK _ ?_; clear hK K)
  refine wpYield_nil ?_
  clear hS1 hSA k0 k1 k2 k3 k4 k5 k6
  obtain ⟨A2, hA2⟩ : ∃ A2 : Option Addr, (if c = k + 1 then (some ⟨ba, oa, none⟩ : Option Addr) else some ⟨ba, oa + (k + 1), none⟩) = A2 := ⟨_, rfl⟩
  rw [hA2] at r2 ⊢
  rw [HNK.out]
  clear hA2
  refine wpKeep_step rfl (fun K hK => ?_)
  go_simp
  obtain ⟨W, hW⟩ : ∃ W, (w1.drewN 1).alloc (.cells #[.slice (some ⟨ba, oa, none⟩) k c, .slice A2 m (c - (k + 1))] 22) = W := ⟨_, rfl⟩
  have cW : Ch [] w1 W := by rw [← hW]; exact ((Ch.refl [] w1).drewN 1).alloc _
  have bW : Blk W w1.heap.size #[.slice (some ⟨ba, oa, none⟩) k c, .slice A2 m (c - (k + 1))] 22 := by rw [← hW]; exact Blk.new (w1.drewN 1) _ _
  rw [hW]
  clear hW
  have hbW := h.1.blk.keep cW (by simp)
  refine hK _ _ ⟨Cls.mk ((HS.out _).2 ((hbW.cell i).trans ((h.1.blk.cell i).symm.trans hcv))), ?_⟩
  clear hK K
  have r1W := r1.keep cW (by simp)
  have r2W := r2.keep cW (by simp)
  refine wpKeep_step rfl (fun K hK => ?_)
  go_simp
  have hC := concatTwo w1.heap.size (some ⟨ba, oa, none⟩) A2 p q c (c - (k + 1)) W (by rw [HK.out, HM.out]; exact bW) r1W r2W (by rw [HK.out, HM.out]; omega)
  refine hC.mono ?_; rintro e w2 ⟨v', rfl, o2, c2⟩
  have c12 : Ch [] w1 w2 := cW.trans c2
  have hb2 : Blk w2 b vs.toArray 66 := h.1.blk.keep c12 (by simp)
  refine hK _ _ ⟨Cls.mk ((HS.out _).2 ((hb2.cell i).trans ((h.1.blk.cell i).symm.trans hcv))), ?_⟩
  clear hK K hC
  refine wpKeep_nil ?_
  have hsW := cW.size
  have o2' : OwI w2 (b + 1) v' (p ++ q) := o2.mono (by omega)
  obtain ⟨R1, R2, R3⟩ := h.1.set HV.out (c12.mono (by simp)) o2' (.inr (fun k hk => by have := o2.2 k hk; omega))
  have q1 := hb2.frozen i
  have q2 := hb2.cell i
  rw [show vs.toArray[i]? = some (Value.slice (some ⟨ba, oa, none⟩) n c) by simpa using HV.out] at q2
  obtain ⟨a4, cap4, rfl, _⟩ := o2'.form
  generalize hm : (p ++ q).length = z at *
  have HZ := Lib.hid hm
  clear hm
  go_wp2
  go_ret
  exact ⟨rfl, _, ⟨R1, by rw [List.length_set]; exact h.2⟩, R2, R3⟩
theorem waitLenNil (w : World) : Calls Try.prog 17 #[.pointer none] w fun e w' => e = .returned (.int .i64 0) ∧ w' = w := by
  go_enter Try.func17, Try.ntmps17
  go_wp2
  go_ret
  exact ⟨rfl, rfl⟩
/-- How many are in the first of some lists. -/
def lensOf (Ls : List (List Int)) (k : Nat) : Nat := ((Ls.take k).map List.length).sum
theorem lensOf_succ (Ls : List (List Int)) (k : Nat) (h : k < Ls.length) : lensOf Ls (k + 1) = lensOf Ls k + (gL Ls k).length := by
  unfold lensOf gL
  rw [List.take_succ_eq_append_getElem h, List.map_append, List.sum_append]
  simp [List.getD_eq_getElem?_getD, h]
theorem waitLen (b : Nat) (vs : List Value) (Ls : List (List Int)) (w : World) (h : WaitsAt w b vs Ls) (hl : ∀ k, k ≤ 32 → lensOf Ls k ≤ 100000) :
    Calls Try.prog 17 #[.pointer (some ⟨b, 0, none⟩)] w fun e w' => e = .returned (.int .i64 (lensOf Ls 32)) ∧ w' = w := by
  have hvl := h.vlen
  have HV := Lib.hid hvl
  have HL := Lib.hid hl
  clear hvl hl
  have hsz : (Try.prog.info? 39).map (·.size) = some vs.toArray.size := by rw [Try.infoWaits]; simp [HV.out]
  have hblk : w.heap[b]? = some (.cells vs.toArray 66 (0, 0)) := h.1.blk
  go_enter Try.func17, Try.ntmps17
  go_wp2_with (refine wpList_load_row rfl 39 _ rfl b rfl 66 vs.toArray (0, 0) _ hblk Try.underlying39 rfl hsz ?_)
  go_loop [3, 12] (fun s3 s12 => ∃ k : Nat, s12 = .int .i64 k ∧ k ≤ 32 ∧ s3 = .int .i64 (lensOf Ls k)) (fun _ s12 => 32 - (intOf s12).toNat)
  case atStart => exact ⟨0, rfl, by omega, rfl⟩
  case round =>
    obtain ⟨k, rfl, hk, rfl⟩ := hrel
    by_cases hlt : k < 32
    · obtain ⟨v, hv, hO, _⟩ := h.1.at k (by rw [HV.out]; omega)
      have ix := fun w => run_index_rows vs HV.out k hlt v hv w
      obtain ⟨a, c, rfl, hc1, _, hrd⟩ := hO.form
      have e1 := lensOf_succ Ls k (by rw [h.2]; exact hlt)
      have e2 := HL.out (k + 1) (by omega)
      rw [e1] at e2
      obtain ⟨n, hn⟩ : ∃ n, (gL Ls k).length = n := ⟨_, rfl⟩
      obtain ⟨m, hm⟩ : ∃ m, lensOf Ls k = m := ⟨_, rfl⟩
      rw [hn] at ix e1 e2
      rw [hm] at e1 e2 ⊢
      have HE := Lib.hid e1
      clear hn hrd hO hv hc1 e1 hm
      go_wp2_with fail
      go_round
      case rel => exact ⟨k + 1, by go_num, by omega, by rw [HE.out]; go_num⟩
      case measure => simp [intOf]; omega
    · obtain rfl : k = 32 := by omega
      go_wp2
      go_ret
      exact ⟨rfl, rfl⟩
theorem waitAll (b : Nat) (vs : List Value) (Ls : List (List Int)) (i : Nat) (w : World) (h : WaitsAt w b vs Ls) (hi : i < 32) (hl : (gL Ls i).length ≤ 100000) :
    Calls Try.prog 16 #[.pointer (some ⟨b, 0, none⟩), .int .i64 i] w fun e w' => ∃ v', e = .returned v' ∧ OwI w' w.heap.size v' (gL Ls i) ∧ Ch [] w w' := by
  have hP := placeYes i hi w
  obtain ⟨v, hv, hO, hcv⟩ := h.1.at i (by rw [h.vlen]; omega)
  obtain ⟨a, c, rfl, _, _, hrd⟩ := hO.form
  have hC := cloneI a (gL Ls i) c w hrd (by omega)
  obtain ⟨n, hn⟩ : ∃ n, (gL Ls i).length = n := ⟨_, rfl⟩
  rw [hn] at hcv hC hl
  have i0 : (0 : Int) ≤ i := by omega
  have i1 : (i : Int) < 32 := by omega
  clear hv hO hn hrd
  go_enter Try.func16, Try.ntmps16
  go_wp2_with fail
  refine hP.mono ?_; rintro e w1 ⟨rfl, rfl⟩
  go_wp2_with fail
  refine hC.mono ?_; rintro e w2 ⟨v', rfl, o2, c2⟩
  go_wp2
  go_ret
  exact ⟨v', rfl, o2, c2⟩
end Go.Proofs.Ytaafdhohiekakaa
