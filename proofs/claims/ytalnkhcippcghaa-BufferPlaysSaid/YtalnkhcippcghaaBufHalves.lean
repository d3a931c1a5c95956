/-
  The walk of the statement BufferHalves: the law returns true at every input. Conditions: none.
-/
import Derived.Test.YtalnkhcippcghaaBuffer2
import Derived.Test.YtalnkhcippcghaaInts
import Derived.Deep.LoopGhost

namespace Go.Proofs.Ytalnkhcippcghaa
open Go.RowKit
theorem told17 (w : World) : Calls Try.prog 20 #[] w fun e w' => e = .returned (.bool true) ∧ Ch [] w w' := by
  go_enter Try.func20, Try.ntmps20
  go_wp2_with fail
  refine (bufNew _).mono ?_; rintro e w1 ⟨rfl, h1, c1⟩
  go_wp2_with fail
  refine (bufPut _ _ 1 _ h1 (by decide)).mono ?_; rintro e w2 ⟨rfl, h2, c2⟩
  go_wp2_with fail
  refine (bufPut _ _ 2 _ h2 (by decide)).mono ?_; rintro e w3 ⟨rfl, h3, c3⟩
  go_wp2_with fail
  refine (bufGet _ [1] 2 _ h3).mono ?_; rintro e w4 ⟨rfl, h4, c4⟩
  go_wp2_with fail
  refine (bufLen _ [1] _ h4).mono ?_; rintro e w5 ⟨rfl, rfl⟩
  rw [show (([1] : List Int).length : Int) = 1 from rfl]
  go_wp2_with fail
  refine (bufAll _ [1] _ h4).mono ?_; rintro e w6 ⟨v6, rfl, o6, _, c6⟩
  obtain ⟨a6, cap6, rfl, _, _, _, r6⟩ := o6.rd
  go_wp2_with fail
  have r7 : Rd (w6.alloc (.cells #[.int .i64 1] 3)) (some ⟨w6.heap.size, 0, none⟩) [1] := .inr ⟨_, _, rfl, fun i hi => by
    have : i = 0 := by simp at hi; omega
    subst this
    exact (Blk.new w6 _ _).cell 0⟩
  refine (ints_same _ _ [1] _ _ _ (r6.below (((Ch.refl [] w6).alloc _).below (Nat.le_refl _) (by simp))) r7 (by decide)).mono ?_; rintro e w7 ⟨rfl, nq, rfl⟩
  go_wp2
  go_ret
  exact ⟨rfl, (((c1.mono (T := [w.heap.size]) (by simp)).trans (c2.trans (c3.trans (c4.trans (c6.mono (by simp)))))).mono (by simp)).alloc _ |>.drewN _⟩
/-- 1, 2, .., k. -/
def up1 (k : Nat) : List Int := (List.range k).map fun (i : Nat) => (i : Int) + 1
theorem up1_len (k : Nat) : (up1 k).length = k := by simp [up1]
theorem up1_succ (k : Nat) : up1 (k + 1) = up1 k ++ [(k : Int) + 1] := by simp [up1, List.range_succ]
theorem up1_take (k m : Nat) (h : m ≤ k) : (up1 k).take m = up1 m := by
  simp only [up1, ← List.map_take, List.take_range, Nat.min_eq_left h]
theorem ints_one (xs : List Int) : ∀ u ∈ xs.map (Value.int .i64), u.oneCell' = true := by
  intro u hu
  obtain ⟨q, _, rfl⟩ := List.mem_map.1 hu
  rfl
set_option maxRecDepth 100000 in
set_option maxHeartbeats 2000000 in
theorem halves_walk (a0 : Int) (w0 : (Lit.int .i64 a0).wf = true) (w : World) :
    Calls Try.prog 5 #[.int .i64 a0] w fun e w' => e = .returned (.bool true) ∧ Below w.heap.size w w' := by
  obtain ⟨k, hk, hkl⟩ := umod a0 33 (by decide) (by decide)
  obtain ⟨i0, hi0, hz0, hz1, hz2⟩ := info_parts Try.infoInt
  go_enter Try.func5, Try.ntmps5
  go_wp2_with fail
  refine (bufNew _).mono ?_; rintro e w1 ⟨rfl, h1, c1⟩
  obtain ⟨b, hb⟩ : ∃ b, w.heap.size = b := ⟨_, rfl⟩
  rw [hb] at h1 ⊢
  have HB := Lib.hid hb
  clear hb
  go_wp2_with fail
  rw [hk]
  clear hk
  go_loopw [5, 6] (fun s5 s6 wr => ∃ i : Nat, s6 = .int .i64 ((i : Int) + 1) ∧ i ≤ k ∧ BufAt wr b (up1 i) ∧ Own wr 3 1 s5 i ((up1 i).map (Value.int .i64)) ∧ (∀ q, s5.ownBlock = some q → b < q) ∧ Ch [] w wr) (fun _ s6 _ => k + 1 - (intOf s6).toNat)
  case atStart => exact ⟨0, rfl, by omega, h1, Own.nil _ _ _, by simp [Value.ownBlock], c1⟩
  case round =>
    clear h1 c1
    obtain ⟨i, rfl, hi, hB, hO, hv, hc⟩ := hrel
    by_cases hlt : i < k
    · go_wp2_with fail
      refine (bufPut b (up1 i) ((i : Int) + 1) wr hB (by rw [up1_len]; omega)).mono ?_; rintro e w2 ⟨rfl, h2, c2⟩
      have hO2 := hO.keep c2 (by intro q hq; simp at hq; subst hq; intro hh; have := hv _ hh; omega)
      have hO1 := hO2.alloc (.cells #[.int .i64 ((i : Int) + 1)] 3)
      go_wp2_with (at_builtin; refine wpList_append_Own rfl _ _ 26 26 rfl 3 i0 (.int .i64 0) 1 8 Try.underlying26 hi0 hz0 hz1 hz2 rfl u5 i _ rfl hO1 _ 1 [.int .i64 ((i : Int) + 1)] rfl (Src_lit Try.underlying26 _ [_] 1 1 rfl _ (mem_one rfl)) (by unfold maxLen; omega) (by omega) ?_)
      intro v' w3 hown2 hc2 hf2
      have hcw : Ch [] w w2 := hc.transT c2 (by intro q hq; simp at hq; subst hq; exact .inr (by have := HB.out; omega))
      go_wp2
      go_roundw
      case rel =>
        have hbl : b < w2.heap.size := h2.lt
        refine ⟨i + 1, by go_num, by omega, ?_, by rw [up1_succ]; simpa using hown2, ?_, (hcw.alloc (.cells #[.int .i64 ((i : Int) + 1)] 3)).transT hc2 (fun q hq => .inr (by have := hv q (by simpa using hq); have := HB.out; omega))⟩
        · rw [up1_succ]
          exact (h2.keep ((Ch.refl [] w2).alloc _) (by simp)).keep hc2 (by intro hq; have := hv b (by simpa using hq); omega)
        · intro q hq
          rcases hf2 with h | h
          · exact hv q (by rw [← h]; exact hq)
          · have := h q hq; simp at *; omega
      case measure => simp [intOf]; omega
    · obtain rfl : i = k := by omega
      obtain ⟨ga, gc, rfl, hn1, hn2, hn3, hrd⟩ := hO.rd
      rw [up1_len] at hn2 ⊢
      clear hn1 hlt hi
      go_wp2_with fail
      obtain ⟨wl, hwl⟩ : ∃ wl, wr = wl := ⟨_, rfl⟩
      subst wr
      go_loopg [7] i (fun m s7 wx => ∃ t : List Int, m + t.length = i ∧ BufAt wx b (up1 m) ∧ up1 m ++ t = up1 i ∧ Own wx 3 1 s7 t.length (t.map (Value.int .i64)) ∧ (∀ q, s7.ownBlock = some q → b < q) ∧ Ch [b] wl wx)
      case atStart => exact ⟨[], by simp, hB, by simp, Own.nil _ _ _, by simp [Value.ownBlock], Ch.refl _ _⟩
      case round =>
        clear hB
        obtain ⟨t, hml, hB, hut, hT, hTv, hcx⟩ := hrel
        have hbw : b < wr.heap.size := hB.lt
        have hL := bufLen b (up1 gk) wr hB
        rw [up1_len] at hL
        by_cases hlt : 1 < gk
        · obtain ⟨o, ho⟩ : ∃ o, wr.heap.size = o := ⟨_, rfl⟩
          obtain ⟨h, hh⟩ : ∃ h, gk / 2 = h := ⟨_, rfl⟩
          obtain ⟨m, hm⟩ : ∃ m, gk - h = m := ⟨_, rfl⟩
          have hg : gk ≤ 32 := by omega
          have hdl : ((up1 gk).drop m).length = h := by rw [List.length_drop, up1_len]; omega
          have hblo : b < o := by omega
          have hbo : b ≠ o := by omega
          go_wp2_with fail
          refine hL.mono ?_; rintro e w3 ⟨rfl, rfl⟩
          clear hL
          go_wp2_with fail
          refine (bufNew _).mono ?_; rintro e w4 ⟨rfl, h4, c4⟩
          rw [ho] at h4 ⊢
          have hB4 := hB.keep c4 (by simp)
          have hL4 := bufLen b (up1 gk) w4 hB4
          rw [up1_len] at hL4
          go_wp2_with fail
          refine hL4.mono ?_; rintro e w5 ⟨rfl, rfl⟩
          clear hL4
          have hH := bufHalf b o (up1 gk) [] w5 hB4 h4 hbo (by rw [up1_len]; simp; omega)
          rw [up1_len, hh, hm, up1_take _ _ (by omega), List.nil_append] at hH
          have q1 : (gk : Int) / 2 = (h : Int) := by omega
          have q2 : IntKind.i64.wrap ((gk : Int) - (h : Int)) = (m : Int) := by rw [IntWalk.i64_in _ (by omega)]; omega
          have HH := Lib.hid hh
          have HM := Lib.hid hm
          have HO := Lib.hid ho
          clear hh hm ho hbw
          go_wp2_with fail
          refine hH.mono ?_; rintro e w6 ⟨rfl, h6, h6o, c6⟩
          have hL6 := bufLen b (up1 m) w6 h6
          rw [up1_len] at hL6
          have hL6o := bufLen o _ w6 h6o
          rw [hdl] at hL6o
          clear hH
          go_wp2_with fail
          refine hL6.mono ?_; rintro e w7 ⟨rfl, rfl⟩
          clear hL6
          go_wp2_with fail
          refine hL6o.mono ?_; rintro e w8 ⟨rfl, rfl⟩
          clear hL6o
          go_wp2_with fail
          have hA := (Ch.refl [] w8).alloc (.cells #[] 3)
          refine (bufAll o _ _ (h6o.keep hA (by simp))).mono ?_; rintro e w9 ⟨v9, rfl, o9, hv9, c9⟩
          rw [hdl] at o9
          obtain ⟨E, hE⟩ : ∃ E, w8.heap.size = E := ⟨_, rfl⟩
          have hOE := (Own.empty w8 3 1).keep c9 (by simp)
          rw [hE] at hOE ⊢
          have hoE : o < E := by rw [← hE]; exact h6o.lt
          have cA : Ch [b, o] w3 w9 := ((c4.mono (by simp)).trans c6).trans ((hA.trans c9).mono (by simp))
          have HE := Lib.hid hE
          clear hE
          go_wp2_with (at_builtin; refine wpList_append_Own rfl (.tmp 62) (.tmp 64) 26 26 rfl 3 i0 (.int .i64 0) 1 8 Try.underlying26 hi0 hz0 hz1 hz2 rfl (.slice (some ⟨E, 0, none⟩) 0 0) 0 [] rfl hOE v9 h (((up1 gk).drop m).map (Value.int .i64)) rfl (o9.src Try.underlying26 (ints_one _)) (by unfold maxLen; omega) (by omega) ?_)
          intro v10 w10 o10 c10 f10
          have c10' : Ch [b, o] w3 w10 := cA.transT c10 (by
            intro q hq
            simp only [Value.ownBlock, Option.map_some, Option.toList_some, List.mem_singleton] at hq
            subst hq
            exact .inr (by have := HO.out; omega))
          have hB10 : BufAt w10 b (up1 m) := (h6.keep (hA.trans c9) (by simp)).keep c10 (by simp [Value.ownBlock]; omega)
          have hT10 := hT.keep c10' (by
            intro q hq hh
            simp at hq
            have := hTv q hh
            have := hT.lt q hh
            have := HO.out
            omega)
          try rw [List.nil_append] at o10
          try rw [Nat.zero_add] at o10
          try rw [← List.map_drop] at o10
          have f10' : ∀ q, v10.ownBlock = some q → E ≤ q := by
            intro q hq
            rcases f10 with h | h
            · rw [h] at hq
              simp [Value.ownBlock] at hq
              omega
            · have := h q hq
              have := hOE.lt E rfl
              omega
          clear f10
          go_wp2_with (at_builtin; refine wpList_append_Own rfl (.tmp 65) (.tmp 66) 26 26 rfl 3 i0 (.int .i64 0) 1 8 Try.underlying26 hi0 hz0 hz1 hz2 rfl v10 h (((up1 gk).drop m).map (Value.int .i64)) rfl o10 u7 t.length (t.map (Value.int .i64)) rfl (hT10.src Try.underlying26 (ints_one _)) (by unfold maxLen; omega) (by omega) ?_)
          intro v11 w11 o11 c11 f11
          go_wp2
          go_roundg m
          case measure => have := HH.out; have := HM.out; omega
          case rel => 
            refine ⟨(up1 gk).drop m ++ t, ?_, ?_, ?_, ?_, ?_, ?_⟩
            · rw [List.length_append, hdl]; have := HH.out; have := HM.out; omega
            · exact hB10.keep c11 (by intro hq; have := f10' b (by simpa using hq); omega)
            · rw [← hut, ← List.append_assoc, ← up1_take gk m (by have := HM.out; omega), List.take_append_drop]
            · rw [List.length_append, hdl, List.map_append]; first | exact o11 | simpa using o11
            · intro q hq
              rcases f11 with h | h
              · have := f10' q (by rw [← h]; exact hq)
                omega
              · have := h q hq
                have := hB10.lt
                omega
            · refine hcx.transT (c10'.transT c11 (S := [b, o]) ?_) ?_
              · intro q hq
                have := f10' q (by simpa using hq)
                have := HO.out
                exact .inr (by omega)
              · intro q hq
                simp only [List.mem_cons, List.not_mem_nil, or_false] at hq
                rcases hq with rfl | rfl
                · exact .inl (by simp)
                · exact .inr (by have := HO.out; have := hcx.size; omega)
        · have hh : gk / 2 = 0 := by omega
          obtain ⟨o, ho⟩ : ∃ o, wr.heap.size = o := ⟨_, rfl⟩
          have hblo : b < o := by omega
          go_wp2_with fail
          refine hL.mono ?_; rintro e w3 ⟨rfl, rfl⟩
          clear hL
          go_wp2_with fail
          refine (bufNew _).mono ?_; rintro e w4 ⟨rfl, h4, c4⟩
          rw [ho] at h4 ⊢
          go_wp2_with fail
          refine (told17 _).mono ?_; rintro e w5 ⟨rfl, c5⟩
          have hH := bufHalf b o (up1 gk) [] w5 ((hB.keep c4 (by simp)).keep c5 (by simp)) (h4.keep c5 (by simp)) (by omega) (by rw [up1_len]; simp; omega)
          rw [up1_len, hh, Nat.sub_zero, up1_take _ _ (Nat.le_refl _), List.nil_append] at hH
          have HH := Lib.hid hh
          have HO := Lib.hid ho
          clear hh ho hbw
          go_wp2_with fail
          refine hH.mono ?_; rintro e w6 ⟨rfl, h6, h6o, c6⟩
          clear hH
          go_wp2_with fail
          have hA := (Ch.refl [] w6).alloc (.cells #[] 3)
          refine (bufAll b _ _ (h6.keep hA (by simp))).mono ?_; rintro e w9 ⟨v9, rfl, o9, hv9, c9⟩
          rw [up1_len] at o9
          obtain ⟨E, hE⟩ : ∃ E, w6.heap.size = E := ⟨_, rfl⟩
          have hOE := (Own.empty w6 3 1).keep c9 (by simp)
          rw [hE] at hOE ⊢
          have hoE : o < E := by rw [← hE]; exact h6o.lt
          have cA : Ch [b, o] w3 w9 := (((c4.trans c5).mono (by simp)).trans c6).trans ((hA.trans c9).mono (by simp))
          have HE := Lib.hid hE
          clear hE
          go_wp2_with (at_builtin; refine wpList_append_OwnG rfl (.tmp 81) (.tmp 83) 26 26 rfl 3 i0 (.int .i64 0) 1 8 Try.underlying26 hi0 hz0 hz1 hz2 rfl (.slice (some ⟨E, 0, none⟩) 0 0) 0 [] rfl hOE v9 gk ((up1 gk).map (Value.int .i64)) rfl (o9.src Try.underlying26 (ints_one _)) (by unfold maxLen; omega) (by omega) ?_)
          intro v10 w10 o10 c10 f10
          have c10' : Ch [b, o] w3 w10 := cA.transT c10 (by
            intro q hq
            simp only [Value.ownBlock, Option.map_some, Option.toList_some, List.mem_singleton] at hq
            subst hq
            exact .inr (by have := HO.out; omega))
          have hT10 := hT.keep c10' (by
            intro q hq hh
            simp at hq
            have := hTv q hh
            have := hT.lt q hh
            have := HO.out
            omega)
          try rw [List.nil_append] at o10
          try rw [Nat.zero_add] at o10
          have f10' : ∀ q, v10.ownBlock = some q → E ≤ q := by
            intro q hq
            rcases f10 with h | h
            · rw [h] at hq
              simp [Value.ownBlock] at hq
              omega
            · have := h q hq
              have := hOE.lt E rfl
              omega
          clear f10
          go_wp2_with (at_builtin; refine wpList_append_OwnG rfl (.tmp 84) (.tmp 85) 26 26 rfl 3 i0 (.int .i64 0) 1 8 Try.underlying26 hi0 hz0 hz1 hz2 rfl v10 gk ((up1 gk).map (Value.int .i64)) rfl o10 u7 t.length (t.map (Value.int .i64)) rfl (hT10.src Try.underlying26 (ints_one _)) (by unfold maxLen; omega) (by omega) ?_)
          intro v11 w11 o11 c11 f11
          have hCh : Ch [b] wl w11 := hcx.transT (c10'.transT c11 (S := [b, o]) (by
                intro q hq
                have := f10' q (by simpa using hq)
                have := HO.out
                exact .inr (by omega))) (by
                intro q hq
                simp only [List.mem_cons, List.not_mem_nil, or_false] at hq
                rcases hq with rfl | rfl
                · exact .inl (by simp)
                · exact .inr (by have := HO.out; have := hcx.size; omega))
          have o11' : Own w11 3 1 v11 i ((up1 i).map (Value.int .i64)) := by
            rw [← hut, List.map_append]
            exact o11
          obtain ⟨x11, y11, rfl, e1, e2, e3, hr11⟩ := o11'.rd
          obtain ⟨x, y, he, e4, e5, e6, hr⟩ := (hO.keep hCh (by
            intro q hq hh
            simp at hq
            have := hv q hh
            omega)).rd
          simp only [Value.slice.injEq, true_and] at he
          obtain ⟨rfl, rfl⟩ := he
          have hI := ints_same _ _ (up1 i) y11 gc w11 hr11 hr (by rw [up1_len]; unfold maxLen; omega)
          rw [up1_len] at hI ⊢
          have hCw := hc.transT hCh (by intro q hq; simp at hq; subst hq; exact .inr (by have := HB.out; omega))
          clear e1 e2 e3 e4 e5 e6 o11' o11 o10 hr11 hr hT10 hT hO
          go_wp2_with fail
          refine hI.mono ?_; rintro e w12 ⟨rfl, nq, rfl⟩
          go_wp2
          go_ret
          exact ⟨rfl, (hCw.drewN nq).below (Nat.le_refl _) (by simp)⟩
end Go.Proofs.Ytalnkhcippcghaa
