/-
  Contracts of package central: Del whatever the case, Put, Take, TakeFull. Conditions: none beyond what each theorem names.
-/
import Derived.Test.YtaafdhohiekakaaCentral2
namespace Go.Proofs.Ytaafdhohiekakaa
open Go.RowKit
theorem find_range (P : Nat → Bool) (n k : Nat) (hk : k < n) (h1 : P k = true) (h2 : ∀ j, j < k → P j = false) : (List.range n).find? P = some k := by
  rw [List.find?_eq_some_iff_append]
  refine ⟨h1, List.range k, (List.range (n - k - 1)).map (· + (k + 1)), ?_, ?_⟩
  · apply List.ext_getElem
    · simp; omega
    · intro m h3 h4
      simp only [List.getElem_range, List.getElem_append, List.length_range, List.getElem_cons, List.getElem_map]
      split
      · rfl
      · split <;> omega
  · intro j hj
    rw [List.mem_range] at hj
    rw [h2 j hj]
    rfl
def hitK (Ls : List (List Int)) (x : Int) (k : Nat) : Bool := (gL Ls k).contains x
/-- What Del comes to. -/
def hitC (Ls : List (List Int)) (x : Int) : Bool := ((List.range 64).find? (hitK Ls x)).isSome
def delC (Ls : List (List Int)) (x : Int) : List (List Int) := match (List.range 64).find? (hitK Ls x) with
  | some j => Ls.set j ((gL Ls j).erase x)
  | none => Ls
theorem delC_cases (Ls : List (List Int)) (x : Int) : (hitC Ls x = false ∧ delC Ls x = Ls ∧ ∀ i, i < 64 → x ∉ gL Ls i) ∨
    ∃ i p q, i < 64 ∧ gL Ls i = p ++ x :: q ∧ x ∉ p ∧ (∀ j, j < i → x ∉ gL Ls j) ∧ hitC Ls x = true ∧ delC Ls x = Ls.set i (p ++ q) := by
  rcases first_hit (hitK Ls x) 64 with h | ⟨j, hj, h1, h2⟩
  · have e : (List.range 64).find? (hitK Ls x) = none := List.find?_eq_none.2 (by intro k hk; rw [List.mem_range] at hk; rw [h k hk]; simp)
    exact .inl ⟨by unfold hitC; rw [e]; rfl, by unfold delC; rw [e], fun i hi => by have := h i hi; unfold hitK at this; simpa using this⟩
  · have e := find_range (hitK Ls x) 64 j hj h1 h2
    obtain ⟨p, q, h3, h4, h5⟩ := contains_split h1
    exact .inr ⟨j, p, q, hj, h3, h4, fun i hi => by have := h2 i hi; unfold hitK at this; simpa using this, by unfold hitC; rw [e]; rfl, by unfold delC; rw [e]; simp only; rw [h5]⟩
theorem gL_le_set (Ls : List (List Int)) (i : Nat) (L : List Int) (M : Nat) (hl : ∀ i, (gL Ls i).length ≤ M) (h : L.length ≤ M) : ∀ j, (gL (Ls.set i L) j).length ≤ M := by
  intro j
  unfold gL
  rw [List.getD_eq_getElem?_getD, List.getElem?_set]
  have := hl j
  unfold gL at this
  rw [List.getD_eq_getElem?_getD] at this
  split
  · split
    · simpa using h
    · simp
  · exact this
theorem delC_le (Ls : List (List Int)) (x : Int) (M : Nat) (hl : ∀ i, (gL Ls i).length ≤ M) : ∀ j, (gL (delC Ls x) j).length ≤ M := by
  rcases delC_cases Ls x with ⟨_, h, _⟩ | ⟨i, p, q, hi, h1, _, _, _, h2⟩
  · rw [h]; exact hl
  · rw [h2]
    refine gL_le_set Ls i _ M hl ?_
    have := hl i
    rw [h1] at this
    simp at this ⊢
    omega
/-- What each turning call says: the rows are laid anew, in old blocks or new ones. -/
def Turned (w : World) (c g : Nat) (vs : List Value) (Ls' : List (List Int)) (w' : World) : Prop := ∃ vs', CentAt w' c g vs' Ls' ∧ Ch (g :: blocksOf vs) w w' ∧ (∀ k ∈ blocksOf vs', k ∈ blocksOf vs ∨ w.heap.size ≤ k)
theorem Turned.refl {w : World} {c g : Nat} {vs : List Value} {Ls : List (List Int)} (h : CentAt w c g vs Ls) : Turned w c g vs Ls w := ⟨vs, h, Ch.refl _ _, fun _ hk => .inl hk⟩
theorem Turned.trans {w w1 w2 : World} {c g : Nat} {vs vs1 : List Value} {Ls : List (List Int)} (h1 : Ch (g :: blocksOf vs) w w1) (h2 : ∀ k ∈ blocksOf vs1, k ∈ blocksOf vs ∨ w.heap.size ≤ k) (h : Turned w1 c g vs1 Ls w2) : Turned w c g vs Ls w2 := by
  obtain ⟨vs', a, b, d⟩ := h
  refine ⟨vs', a, h1.transT b ?_, ?_⟩
  · intro k hk
    simp only [List.mem_cons] at hk ⊢
    rcases hk with rfl | hk
    · exact .inl (.inl rfl)
    · rcases h2 k hk with h | h
      · exact .inl (.inr h)
      · exact .inr h
  · intro k hk
    rcases d k hk with h | h
    · exact h2 k h
    · exact .inr (Nat.le_trans h1.size h)
theorem Turned.after {w w1 w2 : World} {c g : Nat} {vs : List Value} {Ls : List (List Int)} (h1 : Ch [] w w1) (h : Turned w1 c g vs Ls w2) : Turned w c g vs Ls w2 := by
  obtain ⟨vs', a, b, d⟩ := h
  exact ⟨vs', a, (h1.mono (by simp)).trans b, fun k hk => (d k hk).imp id (Nat.le_trans h1.size)⟩
theorem centDel (c g : Nat) (vs : List Value) (Ls : List (List Int)) (x : Int) (w : World) (h : CentAt w c g vs Ls) (hl : ∀ i, (gL Ls i).length ≤ 50000) :
    Calls Try.prog 26 #[.pointer (some ⟨c, 0, none⟩), .int .i64 x] w fun e w' => e = .returned (.bool (hitC Ls x)) ∧ Turned w c g vs (delC Ls x) w' := by
  rcases delC_cases Ls x with ⟨h1, h2, h3⟩ | ⟨i, p, q, hi, h1, h2, h3, h4, h5⟩
  · rw [h1, h2]
    refine (centDelNone c g vs Ls x w h h3 (fun i => by have := hl i; omega)).mono ?_
    rintro e w' ⟨rfl, rfl⟩
    exact ⟨rfl, Turned.refl h⟩
  · rw [h4, h5]
    exact centDelAt c g vs Ls x i p q w h hi h1 h2 h3 hl
theorem centDelNil (x : Int) (w : World) : Calls Try.prog 26 #[.pointer none, .int .i64 x] w fun e w' => e = .returned (.bool false) ∧ w' = w := by
  go_enter Try.func26, Try.ntmps26
  go_wp2
  go_ret
  exact ⟨rfl, rfl⟩
/-- One row is laid anew by a store. -/
theorem CentAt.turn {w w1 : World} {c g i : Nat} {vs : List Value} {Ls : List (List Int)} {v v' : Value} {L' : List Int} (h : CentAt w c g vs Ls) (hv : vs[i]? = some v) (hc : Ch v.ownBlock.toList w w1) (ho : OwI w1 (g + 1) v' L') (hn : NewAt w v v') :
    Turned w c g vs (Ls.set i L') (w1.setCell ⟨g, i, none⟩ v') := by
  obtain ⟨R1, R2, R3⟩ := h.rows.set hv hc ho hn
  refine ⟨_, ⟨h.top.keep R2 ?_, R1, by rw [List.length_set]; exact h.len⟩, R2, R3⟩
  simp only [List.mem_cons, not_or]
  exact ⟨h.cg, h.cb⟩
def sd (b : Bool) : Nat := if b then 1 else 0
def putC (Ls : List (List Int)) (k : Int) (x : Int) (full : Bool) : List (List Int) := if okC k then (delC Ls x).set (k.toNat * 4 + sd full) (gL (delC Ls x) (k.toNat * 4 + sd full) ++ [x]) else Ls
theorem centPutNo (c g : Nat) (vs : List Value) (Ls : List (List Int)) (k x : Int) (full : Bool) (w : World) (h : CentAt w c g vs Ls) (hk : okC k = false) :
    Calls Try.prog 24 #[.pointer (some ⟨c, 0, none⟩), .int .i64 k, .int .i64 x, .bool full] w fun e w' => e = .returned (.tuple #[]) ∧ w' = w := by
  have hH := centHas c g vs Ls k w h
  rw [hk] at hH
  clear h hk
  go_enter Try.func24, Try.ntmps24
  go_wp2_with fail
  refine hH.mono ?_; rintro e w1 ⟨rfl, rfl⟩
  go_wp2
  exact bodyPost_ret (results_none rfl _ _ _) rfl ⟨rfl, rfl⟩
theorem NewAt.mono {w w' : World} {v v' : Value} (h : NewAt w' v v') (hs : w.heap.size ≤ w'.heap.size) : NewAt w v v' := by
  rcases h with h | h
  · exact .inl h
  · exact .inr fun k hk => Nat.le_trans hs (h k hk)
theorem okC_nat {k : Nat} (hk : k < 16) : okC (k : Int) = true := by
  unfold okC
  rw [decide_eq_true (show (0 : Int) ≤ k by omega), decide_eq_true (show (k : Int) < 16 by omega)]
  rfl
set_option maxHeartbeats 2000000 in
theorem centPutYes (c g : Nat) (vs : List Value) (Ls : List (List Int)) (k : Nat) (x : Int) (full : Bool) (w : World) (h : CentAt w c g vs Ls) (hk : k < 16) (hl : ∀ i, (gL Ls i).length ≤ 50000) :
    Calls Try.prog 24 #[.pointer (some ⟨c, 0, none⟩), .int .i64 k, .int .i64 x, .bool full] w fun e w' => e = .returned (.tuple #[]) ∧ Turned w c g vs ((delC Ls x).set (k * 4 + sd full) (gL (delC Ls x) (k * 4 + sd full) ++ [x])) w' := by
  have hH := centHas c g vs Ls k w h
  rw [okC_nat hk] at hH
  have hD := centDel c g vs Ls x w h hl
  have hl1 := delC_le Ls x 50000 hl
  have s1 : sd full < 2 := by unfold sd; split <;> omega
  obtain ⟨D, hDD⟩ : ∃ D, delC Ls x = D := ⟨_, rfl⟩
  rw [hDD] at hD hl1 ⊢
  have hside : ∀ w, Calls Try.prog 47 #[.bool full] w fun e w' => e = .returned (.int .i64 (sd full : Nat)) ∧ w' = w := by
    intro w
    refine (sideC full w).mono ?_
    rintro e w' ⟨rfl, rfl⟩
    cases full <;> exact ⟨rfl, rfl⟩
  obtain ⟨s, hs⟩ : ∃ s, sd full = s := ⟨_, rfl⟩
  rw [hs] at hside s1 ⊢
  have s2 : (s : Int) < 2 := by omega
  have s3 : (0 : Int) ≤ s := by omega
  obtain ⟨i, hi⟩ : ∃ i, k * 4 + s = i := ⟨_, rfl⟩
  rw [hi]
  have hL1 := hl1 i
  obtain ⟨Lr, hLr⟩ : ∃ Lr, gL D i = Lr := ⟨_, rfl⟩
  rw [hLr] at hL1 ⊢
  have HLR := Lib.hid hLr
  have HS := Lib.hid hside
  clear hs hLr hside
  have k0 : (0 : Int) ≤ k := by omega
  have k1 : (k : Int) < 16 := by omega
  have HD := Lib.hid hD
  have HL1 := Lib.hid hl1
  clear hDD hD hl hl1 h
  go_enter Try.func24, Try.ntmps24
  go_wp2_with fail
  refine hH.mono ?_; rintro e w1 ⟨rfl, rfl⟩
  clear hH
  go_wp2_with fail
  refine HD.out.mono ?_; rintro e w2 ⟨rfl, vs2, h2, c2, n2⟩
  have c0 := h2.top.cell 0
  go_upto_region 2 with fail
  obtain ⟨L, hLL⟩ : ∃ L : World → Prop, ∀ w', L w' ↔ (w'.cell? ⟨c, 0, none⟩ = some (.slice (some ⟨g, 0, none⟩) 16 16)) := ⟨_, fun _ => Iff.rfl⟩
  have hS0 : L (w2.drewN 1) := (hLL _).2 c0
  have hS1 : ∀ y : { w' : World // L w' }, y.1.cell? ⟨c, 0, none⟩ = some (.slice (some ⟨g, 0, none⟩) 16 16) := fun y => (hLL _).1 y.2
  have hSA : Nonempty { w' : World // L w' } := ⟨⟨_, hS0⟩⟩
  clear hLL
  refine wp_region_plan (Cls L) (List.range 11) (.reads [0, 1, 2, 3, 4, 5, 7, 8] (.only 6 (.reads [9, 10] .done))) (by kernel_rfl) (by kernel_rfl) (fun _ _ _ _ _ h => h) ?_
  simp only [Plan.reads, Plan.only, List.foldr_cons, List.foldr_nil]
  iterate 8 (refine wpPlan_readS hS0 (fun K hK => ?_); simp only [List.getD_cons_zero, List.getD_cons_succ]; go_simp; refine hK _ ?_; clear hK K)
  refine wpPlan_only (fun K hK => ?_)
  simp only [List.getD_cons_zero, List.getD_cons_succ]
  go_simp
  refine (HS.out _).mono ?_; rintro e w3 ⟨rfl, rfl⟩
  refine hK _ _ (fun _ => Cls.mk hS0) ?_
  clear hK K
  iterate 2 (refine wpPlan_readS hS0 (fun K hK => ?_); simp only [List.getD_cons_zero, List.getD_cons_succ]; go_simp; refine hK _ ?_; clear hK K)
  refine wpPlan_done ?_
  clear hS0 hS1 hSA
  have h3 := h2.ch ((Ch.refl [] w2).drewN 1)
  obtain ⟨v, hv, hO, hcv⟩ := h3.rows.at i (by rw [h2.vlen]; omega)
  have hf := h3.rows.blk.frozen i
  have hgl := h2.rows.lt
  have hcl := h2.top.lt
  have HV := Lib.hid hv
  have HI := Lib.hid hi
  rw [HLR.out] at hO
  obtain ⟨a, cp, rfl, z1, z2, hrd⟩ := hO.form
  obtain ⟨n, hn⟩ : ∃ n, Lr.length = n := ⟨_, rfl⟩
  rw [hn] at hO hcv hL1 z1 HV
  have HN := Lib.hid hn
  clear hv hn hrd c0
  have hO1 := hO.alloc (.cells #[.int .i64 x] 3)
  go_wp2_with (at_builtin; refine wpList_app rfl (.tmp 29) (.tmp 31) rfl (g + 1) _ Lr rfl hO1 (by simp; omega) _ [x] rfl (srcOne (w2.drewN 1) x) (by rw [HN.out]; simp; omega) ?_)
  intro v' w4 hv' c4 f4
  have hvB := hO.2
  have c14 : Ch (Value.ownBlock (.slice a n cp)).toList (w2.drewN 1) w4 := (((Ch.refl [] (w2.drewN 1)).alloc (.cells #[.int .i64 x] 3)).mono (by simp)).trans c4
  have hb4 := h3.rows.blk.keep c14 (fun hq => by have := hvB g (by simpa using hq); omega)
  have q1 := hb4.frozen i
  have q2 := hb4.cell i
  rw [show vs2.toArray[i]? = some (Value.slice a n cp) by simpa using HV.out] at q2
  have hT := h3.turn HV.out c14 hv' (NewAt.mono f4 (by simp))
  have hT2 := Turned.trans c2 n2 (hT.after ((Ch.refl [] w2).drewN 1))
  obtain ⟨a4, cap4, rfl, _⟩ := hv'.form
  generalize hm : (Lr ++ [x]).length = m at *
  have HM := Lib.hid hm
  clear hm hO1 hO hT hv' hcv hf h3 h2 hb4
  go_wp2
  go_end0
  exact ⟨rfl, hT2⟩
theorem centPut (c g : Nat) (vs : List Value) (Ls : List (List Int)) (k x : Int) (full : Bool) (w : World) (h : CentAt w c g vs Ls) (hl : ∀ i, (gL Ls i).length ≤ 50000) :
    Calls Try.prog 24 #[.pointer (some ⟨c, 0, none⟩), .int .i64 k, .int .i64 x, .bool full] w fun e w' => e = .returned (.tuple #[]) ∧ Turned w c g vs (putC Ls k x full) w' := by
  unfold putC
  by_cases hk : okC k = true
  · rw [if_pos hk]
    have hk' := hk
    simp only [okC, Bool.and_eq_true, decide_eq_true_eq] at hk'
    obtain ⟨j, rfl⟩ : ∃ j : Nat, k = j := ⟨k.toNat, by omega⟩
    rw [Int.toNat_natCast]
    exact centPutYes c g vs Ls j x full w h (by omega) hl
  · rw [if_neg hk]
    refine (centPutNo c g vs Ls k x full w h (by simpa using hk)).mono ?_
    rintro e w' ⟨rfl, rfl⟩
    exact ⟨rfl, Turned.refl h⟩
theorem centTakeNil (k : Int) (w : World) : Calls Try.prog 28 #[.pointer none, .int .i64 k] w fun e w' => e = .returned (.tuple #[.int .i64 0, .bool false, .bool false]) ∧ w' = w := by
  have hH := centHasNil k w
  go_enter Try.func28, Try.ntmps28
  go_wp2_with fail
  refine hH.mono ?_; rintro e w1 ⟨rfl, rfl⟩
  go_wp2
  exact bodyPost_ret (v := .tuple #[.int .i64 0, .bool false, .bool false]) (by simp [results, Try.results28, go_sem]) rfl ⟨rfl, rfl⟩
theorem centTakeNo (c g : Nat) (vs : List Value) (Ls : List (List Int)) (k : Int) (w : World) (h : CentAt w c g vs Ls) (hk : okC k = false) :
    Calls Try.prog 28 #[.pointer (some ⟨c, 0, none⟩), .int .i64 k] w fun e w' => e = .returned (.tuple #[.int .i64 0, .bool false, .bool false]) ∧ w' = w := by
  have hH := centHas c g vs Ls k w h
  rw [hk] at hH
  clear h hk
  go_enter Try.func28, Try.ntmps28
  go_wp2_with fail
  refine hH.mono ?_; rintro e w1 ⟨rfl, rfl⟩
  go_wp2
  exact bodyPost_ret (results_tmp3 rfl _ _ _) rfl ⟨rfl, rfl⟩
/-- The last of row i taken out, or the row is of nobody. -/
theorem centLast0 (c g i : Nat) (vs : List Value) (Ls : List (List Int)) (w : World) (h : CentAt w c g vs Ls) (hi : i < 64) (hL : gL Ls i = []) :
    Calls Try.prog 48 #[.pointer (some ⟨g, i, none⟩)] w fun e w' => e = .returned (.tuple #[.int .i64 0, .bool false]) ∧ w' = w := by
  obtain ⟨v, hv, hO, hcv⟩ := h.rows.at i (by rw [h.vlen]; omega)
  rw [hL] at hO
  obtain ⟨a, cp, rfl, _⟩ := hO.form
  exact lastEmpty g i a cp w hcv
theorem centLast1 (c g i : Nat) (vs : List Value) (Ls : List (List Int)) (p : List Int) (x : Int) (w : World) (h : CentAt w c g vs Ls) (hi : i < 64) (hL : gL Ls i = p ++ [x]) :
    Calls Try.prog 48 #[.pointer (some ⟨g, i, none⟩)] w fun e w' => e = .returned (.tuple #[.int .i64 x, .bool true]) ∧ Turned w c g vs (Ls.set i p) w' := by
  obtain ⟨v, hv, hO, hcv⟩ := h.rows.at i (by rw [h.vlen]; omega)
  rw [hL] at hO
  obtain ⟨a, cp, rfl, _⟩ := hO.form
  have hn : (p ++ [x]).length = p.length + 1 := by simp
  rw [hn] at hO hcv hv
  refine (lastSome g i (g + 1) a cp p.length p x w hcv (h.rows.blk.frozen i) rfl hO).mono ?_
  rintro e w' ⟨rfl, rfl⟩
  exact ⟨rfl, h.turn hv (Ch.refl _ _) (hO.front rfl) (.inl (by cases a <;> rfl))⟩
theorem centTakeEmpty (c g : Nat) (vs : List Value) (Ls : List (List Int)) (k : Nat) (w : World) (h : CentAt w c g vs Ls) (hk : k < 16) (h0 : gL Ls (k * 4) = []) (h1 : gL Ls (k * 4 + 2) = []) :
    Calls Try.prog 28 #[.pointer (some ⟨c, 0, none⟩), .int .i64 k] w fun e w' => e = .returned (.tuple #[.int .i64 0, .bool false, .bool false]) ∧ w' = w := by
  have hH := centHas c g vs Ls k w h
  rw [okC_nat hk] at hH
  have x0 := centLast0 c g (k * 4) vs Ls w h (by omega) h0
  have x1 := centLast0 c g (k * 4 + 2) vs Ls w h (by omega) h1
  have c0 := h.top.cell 0
  have k0 : (0 : Int) ≤ k := by omega
  have k1 : (k : Int) < 16 := by omega
  clear h0 h1 h
  go_enter Try.func28, Try.ntmps28
  go_wp2_with fail
  refine hH.mono ?_; rintro e w1 ⟨rfl, rfl⟩
  clear hH
  go_wp2_with fail
  go_loop [14] (fun s14 => s14 = .int .i64 0 ∨ s14 = .int .i64 1 ∨ s14 = .int .i64 2) (fun s14 => 2 - (intOf s14).toNat)
  case atStart => exact .inl rfl
  case round =>
    rcases hrel with rfl | rfl | rfl
    · go_wp2_with fail
      refine x0.mono ?_; rintro e w2 ⟨rfl, rfl⟩
      go_wp2_with fail
      go_round
      case rel => exact .inr (.inl rfl)
      case measure => simp [intOf]
    · go_wp2_with fail
      refine x1.mono ?_; rintro e w2 ⟨rfl, rfl⟩
      go_wp2_with fail
      go_round
      case rel => exact .inr (.inr rfl)
      case measure => simp [intOf]
    · go_wp2
      exact bodyPost_ret (results_tmp3 rfl _ _ _) rfl ⟨rfl, rfl⟩
theorem centTakeSwept (c g : Nat) (vs : List Value) (Ls : List (List Int)) (k : Nat) (p : List Int) (x : Int) (w : World) (h : CentAt w c g vs Ls) (hk : k < 16) (h0 : gL Ls (k * 4) = p ++ [x]) :
    Calls Try.prog 28 #[.pointer (some ⟨c, 0, none⟩), .int .i64 k] w fun e w' => e = .returned (.tuple #[.int .i64 x, .bool false, .bool true]) ∧ Turned w c g vs (Ls.set (k * 4) p) w' := by
  have hH := centHas c g vs Ls k w h
  rw [okC_nat hk] at hH
  have x0 := centLast1 c g (k * 4) vs Ls p x w h (by omega) h0
  have c0 := h.top.cell 0
  have k0 : (0 : Int) ≤ k := by omega
  have k1 : (k : Int) < 16 := by omega
  clear h0 h
  go_enter Try.func28, Try.ntmps28
  go_wp2_with fail
  refine hH.mono ?_; rintro e w1 ⟨rfl, rfl⟩
  clear hH
  go_wp2_with fail
  go_loop [14] (fun s14 => s14 = .int .i64 0) (fun s14 => 2 - (intOf s14).toNat)
  case atStart => rfl
  case round =>
    obtain rfl := hrel
    go_wp2_with fail
    refine x0.mono ?_; rintro e w2 ⟨rfl, hT⟩
    clear x0 c0
    go_wp2_with fail
    exact bodyPost_ret (results_tmp3 rfl _ _ _) rfl ⟨rfl, hT⟩
theorem centTakeUnswept (c g : Nat) (vs : List Value) (Ls : List (List Int)) (k : Nat) (p : List Int) (x : Int) (w : World) (h : CentAt w c g vs Ls) (hk : k < 16) (h0 : gL Ls (k * 4) = []) (h1 : gL Ls (k * 4 + 2) = p ++ [x]) :
    Calls Try.prog 28 #[.pointer (some ⟨c, 0, none⟩), .int .i64 k] w fun e w' => e = .returned (.tuple #[.int .i64 x, .bool true, .bool true]) ∧ Turned w c g vs (Ls.set (k * 4 + 2) p) w' := by
  have hH := centHas c g vs Ls k w h
  rw [okC_nat hk] at hH
  have x0 := centLast0 c g (k * 4) vs Ls w h (by omega) h0
  have x1 := centLast1 c g (k * 4 + 2) vs Ls p x w h (by omega) h1
  have c0 := h.top.cell 0
  have k0 : (0 : Int) ≤ k := by omega
  have k1 : (k : Int) < 16 := by omega
  clear h0 h1 h
  go_enter Try.func28, Try.ntmps28
  go_wp2_with fail
  refine hH.mono ?_; rintro e w1 ⟨rfl, rfl⟩
  clear hH
  go_wp2_with fail
  go_loop [14] (fun s14 => s14 = .int .i64 0 ∨ s14 = .int .i64 1) (fun s14 => 2 - (intOf s14).toNat)
  case atStart => exact .inl rfl
  case round =>
    rcases hrel with rfl | rfl
    · go_wp2_with fail
      refine x0.mono ?_; rintro e w2 ⟨rfl, rfl⟩
      go_wp2_with fail
      go_round
      case rel => exact .inr rfl
      case measure => simp [intOf]
    · go_wp2_with fail
      refine x1.mono ?_; rintro e w2 ⟨rfl, hT⟩
      clear x1 x0 c0
      go_wp2_with fail
      exact bodyPost_ret (results_tmp3 rfl _ _ _) rfl ⟨rfl, hT⟩
/-- What Take comes to. -/
def takeX (Ls : List (List Int)) (k : Int) : Int := if okC k then (if gL Ls (k.toNat * 4) ≠ [] then (gL Ls (k.toNat * 4)).getLastD 0 else (gL Ls (k.toNat * 4 + 2)).getLastD 0) else 0
def takeU (Ls : List (List Int)) (k : Int) : Bool := okC k && ((gL Ls (k.toNat * 4)).isEmpty && !(gL Ls (k.toNat * 4 + 2)).isEmpty)
def takeB (Ls : List (List Int)) (k : Int) : Bool := okC k && !((gL Ls (k.toNat * 4)).isEmpty && (gL Ls (k.toNat * 4 + 2)).isEmpty)
def takeL (Ls : List (List Int)) (k : Int) : List (List Int) := if okC k then (if gL Ls (k.toNat * 4) ≠ [] then Ls.set (k.toNat * 4) (gL Ls (k.toNat * 4)).dropLast else Ls.set (k.toNat * 4 + 2) (gL Ls (k.toNat * 4 + 2)).dropLast) else Ls
theorem self_set (Ls : List (List Int)) (i : Nat) (h : gL Ls i = []) : Ls.set i [] = Ls := by
  apply List.ext_getElem
  · simp
  · intro n h1 h2
    rw [List.getElem_set]
    split
    · rename_i hi
      subst hi
      rw [← h]
      simp [gL, List.getD_eq_getElem?_getD, h2]
    · rfl
theorem centTake (c g : Nat) (vs : List Value) (Ls : List (List Int)) (k : Int) (w : World) (h : CentAt w c g vs Ls) :
    Calls Try.prog 28 #[.pointer (some ⟨c, 0, none⟩), .int .i64 k] w fun e w' => e = .returned (.tuple #[.int .i64 (takeX Ls k), .bool (takeU Ls k), .bool (takeB Ls k)]) ∧ Turned w c g vs (takeL Ls k) w' := by
  unfold takeX takeU takeB takeL
  by_cases hk : okC k = true
  · have hk' := hk
    simp only [okC, Bool.and_eq_true, decide_eq_true_eq] at hk'
    obtain ⟨j, rfl⟩ : ∃ j : Nat, k = j := ⟨k.toNat, by omega⟩
    simp only [hk, if_true, Int.toNat_natCast, Bool.true_and]
    rcases List.eq_nil_or_concat (gL Ls (j * 4)) with h0 | ⟨p, x, h0⟩
    · rw [h0]
      simp only [ne_eq, not_true_eq_false, if_false, List.isEmpty_nil, Bool.true_and]
      rcases List.eq_nil_or_concat (gL Ls (j * 4 + 2)) with h1 | ⟨p, x, h1⟩
      · rw [h1]
        refine (centTakeEmpty c g vs Ls j w h (by omega) h0 h1).mono ?_
        rintro e w' ⟨rfl, rfl⟩
        rw [List.dropLast_nil, self_set Ls _ h1]
        exact ⟨rfl, Turned.refl h⟩
      · rw [List.concat_eq_append] at h1
        have := centTakeUnswept c g vs Ls j p x w h (by omega) h0 h1
        rw [h1]
        simp only [show (p ++ [x]).isEmpty = false by cases p <;> rfl]
        simpa using this
    · rw [List.concat_eq_append] at h0
      have := centTakeSwept c g vs Ls j p x w h (by omega) h0
      rw [h0]
      simp only [show (p ++ [x]).isEmpty = false by cases p <;> rfl]
      simpa using this
  · have hf : okC k = false := by simpa using hk
    simp only [hf, Bool.false_eq_true, if_false, Bool.false_and]
    refine (centTakeNo c g vs Ls k w h hf).mono ?_
    rintro e w' ⟨rfl, rfl⟩
    exact ⟨rfl, Turned.refl h⟩
def fullX (Ls : List (List Int)) (k : Int) : Int := if okC k then (gL Ls (k.toNat * 4 + 3)).getLastD 0 else 0
def fullB (Ls : List (List Int)) (k : Int) : Bool := okC k && !(gL Ls (k.toNat * 4 + 3)).isEmpty
def fullL (Ls : List (List Int)) (k : Int) : List (List Int) := if okC k then Ls.set (k.toNat * 4 + 3) (gL Ls (k.toNat * 4 + 3)).dropLast else Ls
theorem centTakeFull (c g : Nat) (vs : List Value) (Ls : List (List Int)) (k : Int) (w : World) (h : CentAt w c g vs Ls) :
    Calls Try.prog 30 #[.pointer (some ⟨c, 0, none⟩), .int .i64 k] w fun e w' => e = .returned (.tuple #[.int .i64 (fullX Ls k), .bool (fullB Ls k)]) ∧ Turned w c g vs (fullL Ls k) w' := by
  unfold fullX fullB fullL
  have hH := centHas c g vs Ls k w h
  by_cases hk : okC k = true
  · have hk' := hk
    simp only [okC, Bool.and_eq_true, decide_eq_true_eq] at hk'
    obtain ⟨j, rfl⟩ : ∃ j : Nat, k = j := ⟨k.toNat, by omega⟩
    rw [hk] at hH
    simp only [hk, if_true, Int.toNat_natCast, Bool.true_and]
    have c0 := h.top.cell 0
    have k0 : (0 : Int) ≤ j := by omega
    have k1 : (j : Int) < 16 := by omega
    rcases List.eq_nil_or_concat (gL Ls (j * 4 + 3)) with h0 | ⟨p, x, h0⟩
    · have x0 := centLast0 c g (j * 4 + 3) vs Ls w h (by omega) h0
      rw [h0, List.dropLast_nil, self_set Ls _ h0]
      have hT := Turned.refl h
      simp only [List.getLastD_nil, List.isEmpty_nil, Bool.not_true]
      clear h0 h hk
      go_enter Try.func30, Try.ntmps30
      go_wp2_with fail
      refine hH.mono ?_; rintro e w1 ⟨rfl, rfl⟩
      clear hH
      go_wp2_with fail
      refine x0.mono ?_; rintro e w1 ⟨rfl, rfl⟩
      go_wp2
      go_ret2
      exact ⟨rfl, hT⟩
    · rw [List.concat_eq_append] at h0
      have x0 := centLast1 c g (j * 4 + 3) vs Ls p x w h (by omega) h0
      rw [h0]
      rw [show (p ++ [x]).getLastD 0 = x by simp, show (p ++ [x]).dropLast = p by simp, show (!(p ++ [x]).isEmpty) = true by simp]
      clear h0 h hk
      go_enter Try.func30, Try.ntmps30
      go_wp2_with fail
      refine hH.mono ?_; rintro e w1 ⟨rfl, rfl⟩
      clear hH
      go_wp2_with fail
      refine x0.mono ?_; rintro e w2 ⟨rfl, hT⟩
      clear x0 c0
      go_wp2
      go_ret2
      exact ⟨rfl, hT⟩
  · have hf : okC k = false := by simpa using hk
    rw [hf] at hH
    simp only [hf, Bool.false_eq_true, if_false, Bool.false_and]
    have hT := Turned.refl h
    clear h hk hf
    go_enter Try.func30, Try.ntmps30
    go_wp2_with fail
    refine hH.mono ?_; rintro e w1 ⟨rfl, rfl⟩
    go_wp2
    go_ret2
    exact ⟨rfl, hT⟩
end Go.Proofs.Ytaafdhohiekakaa
