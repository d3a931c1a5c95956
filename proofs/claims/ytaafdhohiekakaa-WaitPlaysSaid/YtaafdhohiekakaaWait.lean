/-
  Contracts of package wait: who waits at each place. Conditions: none beyond what each theorem names.
-/
import Derived.Test.YtaafdhohiekakaaContains
import Derived.Test.YtaafdhohiekakaaRowset
import Derived.Test.YtaafdhohiekakaaConcat
import Derived.Test.YtaafdhohiekakaaClone
import Derived.Test.YtaafdhohiekakaaMix2
import Derived.OpenShut
import Derived.Laws.Rows
import Derived.Deep.DeepCutAuto
namespace Go.Proofs.Ytaafdhohiekakaa
open Go.RowKit
theorem run_index_rows (vs : List Value) (hl : vs.length = 32) (i : Nat) (hi : i < 32) (v : Value) (hv : vs[i]? = some v) (w : World) :
    (Instr.index 39 (.agg vs.toArray) (.int .i64 (i : Int))).run Try.prog w = .ok v w := by
  have hu : Try.prog.underlying 39 = some (.array 32 22) := Try.underlying39
  have hs : (Try.prog.info? 22).map (·.size) = some 1 := by kernel_rfl
  have h1 : (0 : Int) ≤ (i : Int) ∧ (i : Int) < 32 := by omega
  obtain ⟨hlt, rfl⟩ := List.getElem?_eq_some_iff.1 hv
  obtain ⟨j, hj, hs⟩ := Option.map_eq_some_iff.1 hs
  simp [Instr.index, asIntOf, run_underlying hu, part, sizeOf, typeInfo, hj, hs, hi, hlt]
theorem NewAt.mono {w w' : World} {v v' : Value} (h : NewAt w' v v') (hs : w.heap.size ≤ w'.heap.size) : NewAt w v v' := by
  rcases h with h | h
  · exact .inl h
  · exact .inr fun k hk => Nat.le_trans hs (h k hk)
/-- b is who waits: at place i there are those of the i-th list. -/
def WaitsAt (w : World) (b : Nat) (vs : List Value) (Ls : List (List Int)) : Prop := RowsAt w b 66 vs Ls ∧ Ls.length = 32
theorem WaitsAt.vlen {w : World} {b : Nat} {vs : List Value} {Ls : List (List Int)} (h : WaitsAt w b vs Ls) : vs.length = 32 := by rw [h.1.len]; exact h.2
theorem waitNew (w : World) : Calls Try.prog 11 #[] w fun e w' => e = .returned (.pointer (some ⟨w.heap.size, 0, none⟩)) ∧ WaitsAt w' w.heap.size (List.replicate 32 (.slice none 0 0)) (List.replicate 32 []) ∧ Ch [] w w' := by
  go_enter Try.func11, Try.ntmps11
  go_wp2
  go_ret
  refine ⟨rfl, ⟨⟨by simp, Blk.new _ _ _, ?_, ?_⟩, by simp⟩, (Ch.refl _ _).alloc _⟩
  · intro i v hv
    obtain ⟨hi, rfl⟩ := List.getElem?_eq_some_iff.1 hv
    rw [List.length_replicate] at hi
    have e1 : gL (List.replicate 32 ([] : List Int)) i = [] := by
      unfold gL
      rw [List.getD_eq_getElem?_getD, List.getElem?_replicate, if_pos hi]
      rfl
    rw [e1, List.getElem_replicate]
    exact OwI.nil _ _
  · intro i j v u k _ hv _ hk
    obtain ⟨hi, rfl⟩ := List.getElem?_eq_some_iff.1 hv
    rw [List.getElem_replicate] at hk
    cases hk
theorem placeYes (i : Nat) (hi : i < 32) (w : World) : Calls Try.prog 39 #[.int .i64 i] w fun e w' => e = .returned (.bool true) ∧ w' = w := by
  have h0 : decide ((0 : Int) ≤ i) = true := by simp
  have h1 : decide ((i : Int) < 32) = true := by simp; omega
  go_enter Try.func39, Try.ntmps39
  go_wp2
  go_ret
  exact ⟨rfl, rfl⟩
theorem placeNo (a : Int) (ha : a < 0 ∨ 31 < a) (w : World) : Calls Try.prog 39 #[.int .i64 a] w fun e w' => e = .returned (.bool false) ∧ w' = w := by
  by_cases h : a < 0
  · have h0 : decide ((0 : Int) ≤ a) = false := by simp; omega
    clear ha
    go_enter Try.func39, Try.ntmps39
    go_wp2
    go_ret
    exact ⟨rfl, rfl⟩
  · have h0 : decide ((0 : Int) ≤ a) = true := by simp; omega
    have h1 : decide (a < 32) = false := by simp; omega
    clear ha
    go_enter Try.func39, Try.ntmps39
    go_wp2
    go_ret
    exact ⟨rfl, rfl⟩
theorem Try.infoWaits : (Try.prog.info? 39).map (·.size) = some 32 := by kernel_rfl
theorem waitFindNone (b : Nat) (vs : List Value) (Ls : List (List Int)) (g : Int) (w : World) (h : WaitsAt w b vs Ls) (hg : ∀ i, i < 32 → g ∉ gL Ls i) (hl : ∀ i, (gL Ls i).length ≤ 100000) :
    Calls Try.prog 41 #[.pointer (some ⟨b, 0, none⟩), .int .i64 g] w fun e w' => e = .returned (.int .i64 (-1)) ∧ w' = w := by
  have hvl := h.vlen
  have HV := Lib.hid hvl
  have HG := Lib.hid hg
  have HL := Lib.hid hl
  clear hvl hg hl
  go_enter Try.func41, Try.ntmps41
  have hsz : (Try.prog.info? 39).map (·.size) = some vs.toArray.size := by rw [Try.infoWaits]; simp [HV.out]
  have hblk : w.heap[b]? = some (.cells vs.toArray 66 (0, 0)) := h.1.blk
  go_wp2_with (refine wpList_load_row rfl 39 _ rfl b rfl 66 vs.toArray (0, 0) _ hblk Try.underlying39 rfl hsz ?_)
  go_loop [11] (fun s11 => ∃ k : Nat, s11 = .int .i64 k ∧ k ≤ 32) (fun s11 => 32 - (intOf s11).toNat)
  case atStart => exact ⟨0, rfl, by omega⟩
  case round =>
    obtain ⟨k, rfl, hk⟩ := hrel
    by_cases hlt : k < 32
    · have hk32 : k < 32 := by omega
      obtain ⟨v, hv, hO, _⟩ := h.1.at k (by rw [HV.out]; omega)
      have ix := fun w => run_index_rows vs HV.out k hk32 v hv w
      obtain ⟨a, c, rfl, hc1, _, hrd⟩ := hO.form
      have hcon := containsAny a (gL Ls k) g (gL Ls k).length c w hrd rfl (by have := HL.out k; omega)
      have hLk := HL.out k
      obtain ⟨n, hn⟩ : ∃ n, (gL Ls k).length = n := ⟨_, rfl⟩
      rw [hn] at hcon hLk ix
      rw [show (gL Ls k).contains g = false by simpa using HG.out k hk32] at hcon
      clear hn hrd hO hv hc1
      go_wp2_with fail
      refine hcon.mono ?_; rintro e w1 ⟨rfl, rfl⟩
      clear hcon
      go_wp2_with fail
      go_round
      case rel => exact ⟨k + 1, by go_num, by omega⟩
      case measure => simp [intOf]; omega
    · obtain rfl : k = 32 := by omega
      go_wp2
      go_ret
      exact ⟨rfl, rfl⟩
theorem waitFindAt (b : Nat) (vs : List Value) (Ls : List (List Int)) (g : Int) (i : Nat) (w : World) (h : WaitsAt w b vs Ls) (hi : i < 32) (hgi : g ∈ gL Ls i) (hg : ∀ j, j < i → g ∉ gL Ls j) (hl : ∀ i, (gL Ls i).length ≤ 100000) :
    Calls Try.prog 41 #[.pointer (some ⟨b, 0, none⟩), .int .i64 g] w fun e w' => e = .returned (.int .i64 i) ∧ w' = w := by
  have hvl := h.vlen
  have HV := Lib.hid hvl
  have HG := Lib.hid hg
  have HGI := Lib.hid hgi
  have HL := Lib.hid hl
  clear hvl hg hl hgi
  have hsz : (Try.prog.info? 39).map (·.size) = some vs.toArray.size := by rw [Try.infoWaits]; simp [HV.out]
  have hblk : w.heap[b]? = some (.cells vs.toArray 66 (0, 0)) := h.1.blk
  go_enter Try.func41, Try.ntmps41
  go_wp2_with (refine wpList_load_row rfl 39 _ rfl b rfl 66 vs.toArray (0, 0) _ hblk Try.underlying39 rfl hsz ?_)
  go_loop [11] (fun s11 => ∃ k : Nat, s11 = .int .i64 k ∧ k ≤ i) (fun s11 => 32 - (intOf s11).toNat)
  case atStart => exact ⟨0, rfl, by omega⟩
  case round =>
    obtain ⟨k, rfl, hk⟩ := hrel
    have hk32 : k < 32 := by omega
    obtain ⟨v, hv, hO, _⟩ := h.1.at k (by rw [HV.out]; omega)
    have ix := fun w => run_index_rows vs HV.out k hk32 v hv w
    obtain ⟨a, c, rfl, hc1, _, hrd⟩ := hO.form
    have hcon := containsAny a (gL Ls k) g (gL Ls k).length c w hrd rfl (by have := HL.out k; omega)
    have hLk := HL.out k
    obtain ⟨n, hn⟩ : ∃ n, (gL Ls k).length = n := ⟨_, rfl⟩
    rw [hn] at hcon hLk ix
    clear hn hrd hO hv hc1
    by_cases hlt : k < i
    · rw [show (gL Ls k).contains g = false by simpa using HG.out k hlt] at hcon
      go_wp2_with fail
      refine hcon.mono ?_; rintro e w1 ⟨rfl, rfl⟩
      clear hcon
      go_wp2_with fail
      go_round
      case rel => exact ⟨k + 1, by go_num, by omega⟩
      case measure => simp [intOf]; omega
    · obtain rfl : k = i := by omega
      rw [show (gL Ls k).contains g = true by simpa using HGI.out] at hcon
      go_wp2_with fail
      refine hcon.mono ?_; rintro e w1 ⟨rfl, rfl⟩
      clear hcon
      go_wp2
      go_ret
      exact ⟨rfl, rfl⟩
theorem waitWaitNil (a g : Int) (w : World) : Calls Try.prog 14 #[.pointer none, .int .i64 a, .int .i64 g] w fun e w' => e = .returned (.int .i64 1) ∧ w' = w := by
  go_enter Try.func14, Try.ntmps14
  go_wp2
  go_ret
  exact ⟨rfl, rfl⟩
theorem waitWaitNo (b : Nat) (a g : Int) (w : World) (ha : a < 0 ∨ 31 < a) : Calls Try.prog 14 #[.pointer (some ⟨b, 0, none⟩), .int .i64 a, .int .i64 g] w fun e w' => e = .returned (.int .i64 2) ∧ w' = w := by
  have hP := placeNo a ha w
  clear ha
  go_enter Try.func14, Try.ntmps14
  go_wp2_with fail
  refine hP.mono ?_; rintro e w1 ⟨rfl, rfl⟩
  go_wp2
  go_ret
  exact ⟨rfl, rfl⟩
theorem waitWaitIn (b : Nat) (vs : List Value) (Ls : List (List Int)) (g : Int) (i j : Nat) (w : World) (h : WaitsAt w b vs Ls) (hi : i < 32) (hj : j < 32) (hgi : g ∈ gL Ls j) (hg : ∀ k, k < j → g ∉ gL Ls k) (hl : ∀ i, (gL Ls i).length ≤ 100000) :
    Calls Try.prog 14 #[.pointer (some ⟨b, 0, none⟩), .int .i64 i, .int .i64 g] w fun e w' => e = .returned (.int .i64 5) ∧ w' = w := by
  have hP := placeYes i hi w
  have hF := waitFindAt b vs Ls g j w h hj hgi hg hl
  have j0 : (0 : Int) ≤ j := by omega
  clear h hgi hg hl
  go_enter Try.func14, Try.ntmps14
  go_wp2_with fail
  refine hP.mono ?_; rintro e w1 ⟨rfl, rfl⟩
  go_wp2_with fail
  refine hF.mono ?_; rintro e w1 ⟨rfl, rfl⟩
  go_wp2
  go_ret
  exact ⟨rfl, rfl⟩
set_option maxHeartbeats 1000000 in
theorem waitWait (b : Nat) (vs : List Value) (Ls : List (List Int)) (g : Int) (i : Nat) (w : World) (h : WaitsAt w b vs Ls) (hi : i < 32) (hg : ∀ k, k < 32 → g ∉ gL Ls k) (hl : ∀ i, (gL Ls i).length ≤ 100000) :
    Calls Try.prog 14 #[.pointer (some ⟨b, 0, none⟩), .int .i64 i, .int .i64 g] w fun e w' => e = .returned (.int .i64 0) ∧
      ∃ vs', WaitsAt w' b vs' (Ls.set i (gL Ls i ++ [g])) ∧ Ch (b :: blocksOf vs) w w' ∧ (∀ k ∈ blocksOf vs', k ∈ blocksOf vs ∨ w.heap.size ≤ k) := by
  have hP := placeYes i hi w
  have hF := waitFindNone b vs Ls g w h hg hl
  obtain ⟨v, hv, hO, hcv⟩ := h.1.at i (by rw [h.vlen]; omega)
  have hli := hl i
  obtain ⟨L, hL⟩ : ∃ L, gL Ls i = L := ⟨_, rfl⟩
  rw [hL] at hO hli ⊢
  have hbl := h.1.lt
  have i0 : (0 : Int) ≤ i := by omega
  have i1 : (i : Int) < 32 := by omega
  have HV := Lib.hid hv
  clear hg hl hL hv
  go_enter Try.func14, Try.ntmps14
  go_wp2_with fail
  refine hP.mono ?_; rintro e w1 ⟨rfl, rfl⟩
  go_wp2_with fail
  refine hF.mono ?_; rintro e w1 ⟨rfl, rfl⟩
  go_upto_region 7 with fail
  obtain ⟨S, hS⟩ : ∃ S : World → Prop, ∀ w', S w' ↔ (w'.cell? ⟨b, i, none⟩ = some v) := ⟨_, fun _ => Iff.rfl⟩
  have hS0 : S (w1.drewN 1) := (hS _).2 hcv
  have hS1 : ∀ x : { w' : World // S w' }, x.1.cell? ⟨b, i, none⟩ = some v := fun x => (hS _).1 x.2
  have hSA : Nonempty { w' : World // S w' } := ⟨⟨_, hS0⟩⟩
  have HS := Lib.hid hS
  clear hS
  refine wp_region_mix2 (Cls S) [0, 1, 2, 3, 8, 4, 5, 6, 11, 12] [7] [9, 10] [13, 14] (by kernel_rfl) (by kernel_rfl) (fun _ _ _ _ _ h => h) (Cls.mk hS0) ?_
  simp only [pickOps, List.map_cons, List.map_nil, List.getD_cons_zero, List.getD_cons_succ]
  iterate 10 (refine wpPure_step (fun K hK => ?_); go_simp; refine hK _ ?_; clear hK K)
  refine wpYield_nil ?_
  iterate 1 (refine wpYield_stepS (fun K hK => ?_); go_simp; refine hK _ ?_; clear hK K)
  refine wpYield_nil ?_
  clear hS1 hSA
  refine wpKeep_step rfl (fun K hK => ?_)
  go_simp
  have c1 : Ch [] w1 ((w1.drewN 1).alloc (.cells #[.int .i64 g] 3)) := ((Ch.refl [] w1).drewN 1).alloc _
  refine hK _ _ ⟨Cls.mk ((HS.out _).2 ?_), ?_⟩
  · exact ((h.1.keep c1 (by simp) (by simp)).blk.cell i).trans ((h.1.blk.cell i).symm.trans hcv)
  clear hK K
  refine wpKeep_step rfl (fun K hK => ?_)
  have hO1 : OwI ((w1.drewN 1).alloc (.cells #[.int .i64 g] 3)) (b + 1) v L := hO.keep c1 (by simp)
  refine wp_app (.tmp 26) (.tmp 28) rfl (b + 1) v L rfl hO1 (by simp; omega) (.slice (some ⟨w1.heap.size, 0, none⟩) 1 1) [g] rfl (srcOne (w1.drewN 1) g) (by simp; omega) ?_
  intro v' w2 hv' c2 f2
  have hvB : ∀ k, v.ownBlock = some k → b + 1 ≤ k := hO.2
  have c12 : Ch v.ownBlock.toList w1 w2 := (c1.mono (by simp)).trans c2
  have hb2 : Blk w2 b vs.toArray 66 := h.1.blk.keep c12 (fun hk => by have := hvB b (by simpa using hk); omega)
  refine hK _ _ ⟨Cls.mk ((HS.out _).2 ((hb2.cell i).trans ((h.1.blk.cell i).symm.trans hcv))), ?_⟩
  clear hK K
  refine wpKeep_nil ?_
  obtain ⟨R1, R2, R3⟩ := h.1.set HV.out c12 hv' (f2.mono (by simp))
  have q1 := hb2.frozen i
  have q2 := hb2.cell i
  have hlen : (vs.toArray[i]?) = some v := by simpa using HV.out
  rw [hlen] at q2
  obtain ⟨a4, cap4, rfl, _⟩ := hv'.form
  generalize hm : (L ++ [g]).length = m at *
  have HM := Lib.hid hm
  clear hm hlen
  go_wp2
  go_ret
  exact ⟨rfl, _, ⟨R1, by rw [List.length_set]; exact h.2⟩, R2, R3⟩
end Go.Proofs.Ytaafdhohiekakaa
