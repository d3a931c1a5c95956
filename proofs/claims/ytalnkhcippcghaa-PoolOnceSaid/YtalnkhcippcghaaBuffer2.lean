/-
  Contracts of package buffer: All and Half. Conditions: none beyond what each theorem names.
-/
import Derived.Test.YtalnkhcippcghaaBuffer
import Derived.Test.YtalnkhcippcghaaClone
import Derived.Laws.CopyOwn
import Derived.LaidEqlPtr
import Derived.RegionTactic
namespace Go.Proofs.Ytalnkhcippcghaa
open Go.RowKit
theorem wpList_copy_Blk {P : Program} {w : World} {ops : Array Oper} {rest : List Oper} {o : Oper} {a : Act} {Q : Exit → Act → World → Prop} (hgd : o.guard = none) (d s : Operand) (dT sT : TypeId)
    (ho : o.op = .call { callee := .builtin .copy, args := #[d, s], argTypes := #[dT, sT] }) (elem : TypeId) (hu : P.underlying dT = some (.slice elem)) (hsz : (P.info? elem).map (·.size) = some 1)
    (dp sp : Option Addr) (dLen dCap sLen sCap : Nat) (hd : a.eval d = .slice dp dLen dCap) (hs : a.eval s = .slice sp sLen sCap)
    (g off : Nat) (cur : List Value) (t : TypeId) (hg : Blk w g cur.toArray t) (cs : List Value) (hn : cs.length = Nat.min sLen dLen)
    (hpos : 0 < cs.length → dp = some ⟨g, off, none⟩ ∧ ∃ ad, sp = some ad ∧ ∀ j v, cs[j]? = some v → w.cell? (ad.add j) = some v)
    (hfit : off + cs.length ≤ cur.length) (h1 : ∀ v ∈ cs, v.oneCell' = true)
    (h : ∀ w', Blk w' g (splice cur off cs).toArray t → Ch [g] w w' → wpList P ops Q rest (a.put o.dst (goInt cs.length)) w') :
    wpList P ops Q (o :: rest) a w := by
  by_cases h0 : cs.length = 0
  · obtain rfl : cs = [] := List.eq_nil_of_length_eq_zero h0
    refine wpList_copy_nothing hgd d s dT sT ho elem hu hsz dp sp dLen dCap sLen sCap hd hs (by simpa using hn.symm) ?_
    exact h w (by simpa [splice] using hg) (Ch.refl _ _)
  · obtain ⟨rfl, ad, rfl, hsrc⟩ := hpos (by omega)
    refine wpList_copy_own hgd d s dT sT ho elem hu hsz g off dLen dCap ad sLen sCap hd hs cur.toArray t hg cs hn hsrc (by simpa using hfit) h1 ?_
    exact h _ (setRow_heap w g _ _ t _ hg) ⟨rfl, rfl, rfl, by simp [World.setRow], fun k _ hk => setRow_other w g k _ (by simpa using hk)⟩
theorem BufAt.rd {w : World} {b : Nat} {xs : List Int} (h : BufAt w b xs) : Rd w (some ⟨b, 0, none⟩) xs := by
  obtain ⟨l, h1, h2, h3, h4⟩ := h
  refine .inr ⟨b, 0, rfl, fun i hi => ?_⟩
  rw [Nat.zero_add, h4.cell, bufCells_i l _ i h1 (by omega)]
  have : gI xs i = gI l i := by
    rw [← h3]
    simp [gI, List.getD_eq_getElem?_getD, List.getElem?_take, hi]
  rw [this]
theorem bufAllNil (w : World) : Calls Try.prog 22 #[.pointer none] w fun e w' => e = .returned (.slice none 0 0) ∧ w' = w := by
  go_enter Try.func22, Try.ntmps22
  go_wp2
  go_ret
  exact ⟨rfl, rfl⟩
theorem bufAll (b : Nat) (xs : List Int) (w : World) (h : BufAt w b xs) : Calls Try.prog 22 #[.pointer (some ⟨b, 0, none⟩)] w fun e w' =>
    ∃ v', e = .returned v' ∧ Own w' 3 1 v' xs.length (xs.map (Value.int .i64)) ∧ (∀ k, v'.ownBlock = some k → w.heap.size ≤ k) ∧ Ch [] w w' := by
  have hrd := h.rd
  obtain ⟨l, h1, h2, h3, h4⟩ := h
  have c := (h4.cell 32).trans (bufCells_n l _ h1)
  have b1 : (xs.length : Int) ≤ 32 := by omega
  have b0 : (0 : Int) ≤ xs.length := by omega
  clear h3
  go_enter Try.func22, Try.ntmps22
  go_wp2
  refine wp_region_tail 8 (by kernel_rfl) (by kernel_rfl) ?_
  simp only [List.take_succ_cons, List.take_zero, List.drop_succ_cons, List.drop_zero]
  repeat still_step
  refine wpStill_nil ?_
  go_wp2_with fail
  refine (cloneInts _ xs _ _ (hrd.drewN 1) (by omega)).mono ?_; rintro e w2 ⟨v', rfl, h5, h6, h7⟩
  go_wp2
  go_ret
  exact ⟨v', rfl, h5, h6, ((Ch.refl [] w).drewN 1).trans h7⟩
theorem Try.infoBuf : ∃ j, Try.prog.info? 71 = some j ∧ j.size ≠ 0 := by
  have h : (Try.prog.info? 71).map (·.size) = some 33 := by kernel_rfl
  obtain ⟨j, hj, hs⟩ := Option.map_eq_some_iff.1 h
  exact ⟨j, hj, by omega⟩
theorem bufNe (b o : Nat) (xs ys : List Int) (w : World) (h : BufAt w b xs) (ho : BufAt w o ys) (hne : b ≠ o) : (binOp .eql 23 (.pointer (some ⟨b, 0, none⟩)) (.pointer (some ⟨o, 0, none⟩))).run Try.prog w = .ok (.bool false) w := by
  obtain ⟨j, hj, hs⟩ := Try.infoBuf
  obtain ⟨l, h1, h2, h3, h4⟩ := h
  obtain ⟨r, r1, r2, r3, r4⟩ := ho
  exact run_eql_ptr_other w Try.underlying23 hj hs (by simp [hne]) h4 r4
/-- Half does nothing: the other one is none or has no room. -/
theorem bufHalfNo (b o : Nat) (xs ys : List Int) (w : World) (h : BufAt w b xs) (ho : BufAt w o ys) (hne : b ≠ o) (hn : 32 - ys.length < xs.length / 2) :
    Calls Try.prog 17 #[.pointer (some ⟨b, 0, none⟩), .pointer (some ⟨o, 0, none⟩)] w fun e w' => e = .returned (.int .i64 0) ∧ w' = w := by
  have hL := bufLen b _ w h
  have hpe := bufNe b o xs ys w h ho hne
  obtain ⟨l, h1, h2, h3, h4⟩ := ho
  have c := (h4.cell 32).trans (bufCells_n l _ h1)
  have hx : xs.length ≤ 32 := h.choose_spec.2.1
  clear h3
  go_enter Try.func17, Try.ntmps17
  go_wp2_with fail
  refine hL.mono ?_; rintro e w1 ⟨rfl, rfl⟩
  clear hL
  go_wp2
  go_ret
  exact ⟨rfl, rfl⟩
theorem bufHalf (b o : Nat) (xs ys : List Int) (w : World) (h : BufAt w b xs) (ho : BufAt w o ys) (hne : b ≠ o) (hn : xs.length / 2 ≤ 32 - ys.length) :
    Calls Try.prog 17 #[.pointer (some ⟨b, 0, none⟩), .pointer (some ⟨o, 0, none⟩)] w fun e w' => e = .returned (.int .i64 (xs.length / 2 : Nat)) ∧
      BufAt w' b (xs.take (xs.length - xs.length / 2)) ∧ BufAt w' o (ys ++ xs.drop (xs.length - xs.length / 2)) ∧ Ch [b, o] w w' := by
  have hL := bufLen b _ w h
  have hrd := h.rd
  have hpe := bufNe b o xs ys w h ho hne
  obtain ⟨l, h1, h2, h3, h4⟩ := h
  obtain ⟨r, r1, r2, r3, r4⟩ := ho
  obtain ⟨n, hnx⟩ : ∃ n, xs.length = n := ⟨_, rfl⟩
  obtain ⟨m, hmy⟩ : ∃ m, ys.length = m := ⟨_, rfl⟩
  obtain ⟨k, hk⟩ : ∃ k, n / 2 = k := ⟨_, rfl⟩
  rw [hnx] at h2 h3 h4 hn hL ⊢
  rw [hmy] at r2 r3 r4 hn
  rw [hk] at hn ⊢
  have c := (h4.cell 32).trans (bufCells_n l _ h1)
  have d := (r4.cell 32).trans (bufCells_n r _ r1)
  have f := h4.frozen 32
  have g := r4.frozen 32
  have hk2 : ((n : Int)) / 2 = (k : Int) := by omega
  have hne' : ¬ o = b := fun e => hne e.symm
  have HX := Lib.hid hnx
  have HY := Lib.hid hmy
  have HK := Lib.hid hk
  have T1 := Lib.hid h3
  have T2 := Lib.hid r3
  clear hnx hmy hk h3 r3
  go_enter Try.func17, Try.ntmps17
  go_wp2_with fail
  refine hL.mono ?_; rintro e w1 ⟨rfl, rfl⟩
  clear hL
  go_upto_region 4 with fail
  clear hpe
  have i0 : (0 : Int) ≤ (m : Int) := by omega
  have i1 : (m : Int) ≤ 32 := by omega
  have i2 : IntKind.i64.wrap ((n : Int) - (k : Int)) = ((n - k : Nat) : Int) := by rw [IntWalk.i64_in _ (by omega)]; omega
  have i3 : (0 : Int) ≤ ((n - k : Nat) : Int) := by omega
  have i4 : ((n - k : Nat) : Int) ≤ (n : Int) := by omega
  have i5 : (n : Int) ≤ 32 := by omega
  refine wp_region_tail 22 (by kernel_rfl) (by kernel_rfl) ?_
  simp only [List.take_succ_cons, List.take_zero, List.drop_succ_cons, List.drop_zero]
  repeat still_step
  refine wpStill_nil ?_
  have h32 : ¬ 32 = n - k := by have := HK.out; omega
  obtain ⟨cs, hcs⟩ : ∃ cs : List Value, (xs.drop (n - k)).map (Value.int .i64) = cs := ⟨_, rfl⟩
  have hcl : cs.length = k := by rw [← hcs, List.length_map, List.length_drop, HX.out]; have := HK.out; omega
  have HCS := Lib.hid hcs
  clear hcs i0 i1 i2 i3 i4 i5
  generalize hP1 : (if 32 = m then (⟨o, 0, none⟩ : Addr) else ⟨o, m, none⟩) = P1
  generalize hP2 : (if 32 = n - k then (⟨b, 0, none⟩ : Addr) else ⟨b, n - k, none⟩) = P2
  have HP1 := Lib.hid hP1
  have HP2 := Lib.hid hP2
  clear hP1 hP2
  refine wpList_copy_Blk rfl _ _ 26 26 rfl 3 Try.underlying26 (by kernel_rfl) _ _ (32 - m) (32 - m) (n - (n - k)) (32 - (n - k)) rfl rfl o m (r.map (Value.int .i64) ++ [Value.int .i64 m]) 71 (r4.drewN 1) cs (by rw [hcl]; have := HK.out; show k = min _ _; omega) ?_ (by simp [r1, hcl]; omega) ?_ ?_
  · intro hp
    rw [hcl] at hp
    refine ⟨by rw [← HP1.out, if_neg (by omega)], _, by rw [← HP2.out, if_neg h32], fun j v hj => ?_⟩
    have hjk : j < k := by rw [← hcl]; exact (List.getElem?_eq_some_iff.1 hj).1
    rw [show (⟨b, n - k, none⟩ : Addr).add j = ⟨b, n - k + j, none⟩ by unfold Addr.add; split <;> simp_all]
    have hr' := hrd.at (i := n - k + j) (by rw [HX.out]; have := HK.out; omega)
    obtain ⟨b', o', he, hc'⟩ := hr'
    simp only [Option.some.injEq, Addr.mk.injEq, and_true] at he
    obtain ⟨rfl, rfl⟩ := he
    have := hc' (n - k + j) (by rw [HX.out]; have := HK.out; omega)
    rw [Nat.zero_add] at this
    rw [← HCS.out] at hj
    rw [World.cell?_drewN, this]
    simp only [List.getElem?_map, List.getElem?_drop] at hj
    rw [List.getElem?_eq_getElem (by rw [HX.out]; have := HK.out; omega)] at hj
    rw [gI_at]
    · exact hj
  · intro u hu
    rw [← HCS.out] at hu
    obtain ⟨q, _, rfl⟩ := List.mem_map.1 hu
    rfl
  intro w2 hb2 hc2
  have e2 : splice (r.map (Value.int .i64) ++ [Value.int .i64 m]) m cs = ((ys ++ xs.drop (n - k) ++ r.drop (m + k)).map (Value.int .i64) ++ [Value.int .i64 m]) := by
    unfold splice
    rw [hcl, ← HCS.out, List.take_append_of_le_length (by simp [r1]; omega), List.drop_append_of_le_length (by simp [r1]; omega), ← List.map_take, ← List.map_drop, T2.out]
    simp
  rw [e2] at hb2
  have hb2' : Blk w2 o (bufCells (ys ++ xs.drop (n - k) ++ r.drop (m + k)) m) 71 := hb2
  have hl2 : (ys ++ xs.drop (n - k) ++ r.drop (m + k)).length = 32 := by
    simp only [List.length_append, List.length_drop, HX.out, HY.out, r1]
    have := HK.out
    omega
  obtain ⟨r', hr'⟩ : ∃ r', ys ++ xs.drop (n - k) ++ r.drop (m + k) = r' := ⟨_, rfl⟩
  rw [hr'] at hb2' hl2
  have HR := Lib.hid hr'
  have h42 : Blk w2 b (bufCells l n) 71 := (h4.drewN 1).keep hc2 (by simp; exact hne)
  clear hr' hb2 e2 c d f g h4 r4 hrd
  have c := (h42.cell 32).trans (bufCells_n l _ h1)
  have d := (hb2'.cell 32).trans (bufCells_n r' _ hl2)
  have f := h42.frozen 32
  have g := hb2'.frozen 32
  simp only [Act.put, List.setIfInBounds_toArray, List.set_cons_zero, List.set_cons_succ]
  go_wp2_with fail
  have e5 : IntKind.i64.wrap ((n : Int) - (k : Int)) = ((n - k : Nat) : Int) := by rw [IntWalk.i64_in _ (by omega)]; have := HK.out; omega
  have e6 : IntKind.i64.wrap ((m : Int) + (k : Int)) = ((m + k : Nat) : Int) := by rw [IntWalk.i64_in _ (by omega)]; omega
  refine wp_named fun W hW => ?_
  have c' : W.cell? ⟨b, 32, none⟩ = some (.int .i64 n) := by rw [hW]; exact c
  have d' : W.cell? ⟨o, 32, none⟩ = some (.int .i64 m) := by rw [hW]; exact d
  have f' : W.frozen? ⟨b, 32, none⟩ = false := by rw [hW]; exact f
  have g' : W.frozen? ⟨o, 32, none⟩ = false := by rw [hW]; exact g
  have HW := Lib.hid hW
  clear hW c d f g
  go_region
  go_wp2
  go_ret
  have hkx := HK.out
  have hdl : (xs.drop (n - k)).length = k := by rw [List.length_drop, HX.out]; omega
  have hW := HW.out
  subst hW
  refine ⟨rfl, ⟨l, h1, by rw [List.length_take, HX.out]; omega, ?_, ?_⟩, ⟨r', hl2, by rw [List.length_append, hdl, HY.out]; omega, ?_, ?_⟩, ?_⟩
  · rw [List.length_take, HX.out, Nat.min_eq_left (by omega), ← T1.out, List.take_take, Nat.min_eq_left (by omega)]
  · rw [List.length_take, HX.out, Nat.min_eq_left (by omega)]
    have := ((h42.set 32 (.int .i64 (n - k : Nat))).setOther (p := ⟨o, 32, none⟩) hne (.int .i64 ((m : Int) + k))).drew
    rwa [bufCells_setN l n (n - k) h1] at this
  · rw [← HR.out, List.length_append, hdl, HY.out]
    rw [List.take_append_of_le_length (by simp only [List.length_append, hdl, HY.out]; omega), List.take_of_length_le (by simp only [List.length_append, hdl, HY.out]; omega)]
  · rw [List.length_append, hdl, HY.out]
    have := ((hb2'.setOther (p := ⟨b, 32, none⟩) (Ne.symm hne) (.int .i64 (n - k : Nat))).set 32 (.int .i64 ((m : Int) + k))).drew
    rwa [show ((m : Int) + (k : Int)) = ((m + k : Nat) : Int) by omega, bufCells_setN r' m (m + k) hl2] at this
  · exact (((((Ch.refl [b, o] w1).drewN 1).trans (hc2.mono (by simp))).setCell (.inl (by simp)) _).setCell (.inl (by simp)) _).drew
end Go.Proofs.Ytalnkhcippcghaa
