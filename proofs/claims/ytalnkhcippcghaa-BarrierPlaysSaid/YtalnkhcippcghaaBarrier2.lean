/-
  Contracts of package barrier: All, Flush. Conditions: none beyond what each theorem names.
-/
import Derived.Test.YtalnkhcippcghaaBarrier
import Derived.Test.YtalnkhcippcghaaContains
import Derived.Test.YtalnkhcippcghaaInts
import Derived.WalkSpells
namespace Go.Proofs.Ytalnkhcippcghaa
open Go.RowKit
theorem Try.infoPair : (Try.prog.info? 52).map (fun i => (i.zero, i.size, i.bytes)) = some (some (.agg #[.int .i64 0, .int .i64 0]), 2, 16) := by kernel_rfl
theorem BarAt.lt {w : World} {b n : Nat} {xs : List Int} (h : BarAt w b n xs) : b < w.heap.size := by
  obtain ⟨l, h1, h2, h3, h4, h5⟩ := h
  exact h5.lt
theorem BarAt.rd {w : World} {b n : Nat} {xs : List Int} (h : BarAt w b n xs) : Rd w (some ⟨b, 0, none⟩) xs := by
  obtain ⟨l, h1, h2, h3, h4, h5⟩ := h
  refine .inr ⟨b, 0, rfl, fun i hi => ?_⟩
  have hi2 : i < l.length := by omega
  rw [Nat.zero_add, h5.cell]
  have : gI xs i = l[i] := by
    rw [← h4, gI_at _ _ (by simp; omega)]
    simp
  rw [this]
  simp [barCells, List.getElem?_append_left, hi2]
/-- slices.Clone on pairs, by their numbers. -/
theorem clonePairs (a : Addr) (xs : List Int) (n c : Nat) (w : World) (h : Rd w (some a) xs) (hx : xs.length = 2 * n) (hl : n ≤ 100000) :
    Calls Try.prog 46 #[.slice (some a) n c] w fun e w' =>
      ∃ v', e = .returned v' ∧ Own w' 52 2 v' n (xs.map (Value.int .i64)) ∧ (∀ k, v'.ownBlock = some k → w.heap.size ≤ k) ∧ Ch [] w w' := by
  obtain ⟨i0, hi0, hz0, hz1, hz2⟩ := info_parts Try.infoPair
  have heq := fun (w : World) (a : Option Addr) (n c : Nat) => Lib.run_eql_slice_nil (P := Try.prog) w 43 52 a n c 0 0 Try.underlying43
  have hown0 : Own (w.alloc (.cells #[] 52)) 52 2 (.slice (some ⟨w.heap.size, 0, none⟩) 0 0) 0 [] := Own.empty _ _ _
  have hr2 := h.below (((Ch.refl [] w).alloc (.cells #[] 52)).below (Nat.le_refl _) (by simp))
  have hsrc : Src Try.prog 2 43 (.slice (some a) n c) n (xs.map (Value.int .i64)) (w.alloc (.cells #[] 52)) := by
    refine Src.ofSlice _ Try.underlying43 _ _ _ _ (by rw [List.length_map]; omega) (fun j u hu => ?_) (by intro u hu; obtain ⟨q, _, rfl⟩ := List.mem_map.1 hu; rfl)
    have hj : j < xs.length := by have := (List.getElem?_eq_some_iff.1 hu).1; simpa using this
    obtain ⟨b, o, he, hc⟩ := hr2.at hj
    simp only [Option.some.injEq] at he
    subst he
    rw [show (⟨b, o, none⟩ : Addr).add j = ⟨b, o + j, none⟩ by unfold Addr.add; split <;> simp_all, hc j hj, gI_at xs j hj]
    simpa [hj] using hu
  clear h hr2 hx
  go_enter Try.func46, Try.ntmps46
  go_wp2_with (at_builtin; refine wpList_append_Own rfl (.tmp 5) (.tmp 6) 43 43 rfl 52 i0 (.agg #[.int .i64 0, .int .i64 0]) 2 16 Try.underlying43 hi0 hz0 hz1 hz2 rfl (.slice (some ⟨w.heap.size, 0, none⟩) 0 0) 0 [] rfl hown0 (.slice (some a) n c) n (xs.map (Value.int .i64)) rfl hsrc (by unfold maxLen; omega) (by omega) ?_)
  intro v' w2 hown2 hc2 hf2
  go_wp2
  go_ret
  refine ⟨v', rfl, by simpa using hown2, ?_, ((Ch.refl [] w).alloc (.cells #[] 52)).transT hc2 (by simp [Value.ownBlock])⟩
  intro k hk
  rcases hf2 with h2 | h2
  · rw [h2] at hk
    simp [Value.ownBlock] at hk
    omega
  · have h3 := h2 k hk
    have h4 : (w.alloc (.cells #[] 52)).heap.size = w.heap.size + 1 := by simp
    omega
theorem barAllNil (w : World) : Calls Try.prog 26 #[.pointer none] w fun e w' => e = .returned (.slice none 0 0) ∧ w' = w := by
  go_enter Try.func26, Try.ntmps26
  go_wp2
  go_ret
  exact ⟨rfl, rfl⟩
theorem barAll (b n : Nat) (xs : List Int) (w : World) (h : BarAt w b n xs) : Calls Try.prog 26 #[.pointer (some ⟨b, 0, none⟩)] w fun e w' =>
    ∃ v', e = .returned v' ∧ Own w' 52 2 v' n (xs.map (Value.int .i64)) ∧ (∀ k, v'.ownBlock = some k → w.heap.size ≤ k) ∧ Ch [] w w' := by
  have hrd := h.rd
  obtain ⟨l, h1, h2, h3, h4, h5⟩ := h
  have c := (h5.cell 32).trans (barCells_n l n h1)
  have b1 : (n : Int) ≤ 16 := by omega
  have b0 : (0 : Int) ≤ n := by omega
  have H3 := Lib.hid h3
  clear h4 h3
  go_enter Try.func26, Try.ntmps26
  go_wp2
  refine wp_region_tail 8 (by kernel_rfl) (by kernel_rfl) ?_
  simp only [List.take_succ_cons, List.take_zero, List.drop_succ_cons, List.drop_zero]
  repeat still_step
  refine wpStill_nil ?_
  go_wp2_with fail
  refine (clonePairs _ xs n _ _ (hrd.drewN 1) H3.out (by omega)).mono ?_; rintro e w2 ⟨v', rfl, h5, h6, h7⟩
  go_wp2
  go_ret
  exact ⟨v', rfl, h5, h6, ((Ch.refl [] w).drewN 1).trans h7⟩
/-- What is told, with one more number. -/
def tell (out : List Int) (v : Int) : List Int := if v = 0 ∨ v ∈ out then out else out ++ [v]
theorem tell_len (out : List Int) (v : Int) : (tell out v).length ≤ out.length + 1 := by unfold tell; split <;> simp
theorem tells_len (xs : List Int) : (xs.foldl tell []).length ≤ xs.length := by
  have : ∀ (xs out : List Int), (xs.foldl tell out).length ≤ out.length + xs.length := by
    intro xs
    induction xs with
    | nil => simp
    | cons x xs ih => intro out; have h1 := ih (tell out x); have h2 := tell_len out x; simp only [List.foldl_cons, List.length_cons]; omega
  simpa using this xs []
theorem barFlushNil (w : World) : Calls Try.prog 28 #[.pointer none] w fun e w' => e = .returned (.slice none 0 0) ∧ w' = w := by
  go_enter Try.func28, Try.ntmps28
  go_wp2_with fail
  refine (barAllNil _).mono ?_; rintro e w1 ⟨rfl, rfl⟩
  go_wp2_with fail
  go_loop [3, 11] (fun s t => s = .slice none 0 0 ∧ t = .int .i64 0) (fun _ _ => 0)
  case atStart => exact ⟨rfl, rfl⟩
  case round =>
    obtain ⟨rfl, rfl⟩ := hrel
    go_wp2
    go_ret
    exact ⟨rfl, rfl⟩
set_option maxHeartbeats 2000000 in
theorem barFlush (b n : Nat) (xs : List Int) (w : World) (h : BarAt w b n xs) : Calls Try.prog 28 #[.pointer (some ⟨b, 0, none⟩)] w fun e w' =>
    ∃ v', e = .returned v' ∧ OwI w' w.heap.size v' (xs.foldl tell []) ∧ BarAt w' b 0 [] ∧ Ch [b] w w' := by
  have hA := barAll b n xs w h
  have hbl := h.lt
  have hn : n ≤ 16 := h.choose_spec.2.1
  have hxl : xs.length = 2 * n := h.choose_spec.2.2.1
  obtain ⟨B, hB⟩ : ∃ B, w.heap.size = B := ⟨_, rfl⟩
  have hBw : B ≤ w.heap.size := by omega
  rw [hB] at hbl hA ⊢
  have HB := Lib.hid hB
  have HX := Lib.hid hxl
  clear hB hxl
  go_enter Try.func28, Try.ntmps28
  go_wp2_with fail
  refine hA.mono ?_; rintro e w1 ⟨v1, rfl, o1, f1, c1⟩
  clear hA
  have h1 := h.keep c1 (by simp)
  have hw1 : B ≤ w1.heap.size := by have := c1.size; omega
  have hob : ∀ k, v1.ownBlock = some k → k < w1.heap.size := o1.lt
  obtain ⟨a1, cap1, rfl, hnc, _⟩ := o1.form
  have hob' : ∀ x, a1 = some x → x.block < w1.heap.size := fun x hx => hob x.block (by rw [hx]; rfl)
  have r1 : Rd w1 a1 xs := by
    rcases o1.2 with ⟨he, h0⟩ | ⟨g, off, cap, cur, he, hg, q1, q2, q3, q4⟩
    · exact .inl (List.eq_nil_of_length_eq_zero (by rw [HX.out]; omega))
    · simp only [Value.slice.injEq, true_and] at he
      obtain ⟨rfl, rfl⟩ := he
      exact .inr ⟨g, off, rfl, fun i hi => by rw [hg.cell]; exact q4 i _ (by rw [List.getElem?_map, List.getElem?_eq_getElem hi, gI_at _ i hi]; rfl)⟩
  have c1' : Ch [] w w1 := c1
  obtain ⟨B1, hB1⟩ : ∃ B1, w1.heap.size = B1 := ⟨_, rfl⟩
  have hbB1 : b < B1 := by rw [← hB1]; exact h1.lt
  rw [hB1] at hw1 hob'
  have hsz1 : B1 ≤ w1.heap.size := by omega
  have HOB := Lib.hid hob'
  have HBB := Lib.hid hbB1
  clear h c1 o1 f1 hob hob' hB1
  go_wp2_with fail
  go_loopw [3, 11] (fun s3 s11 wr => ∃ t : Nat, s11 = .int .i64 t ∧ t ≤ n ∧ OwI wr B1 s3 ((xs.take (2 * t)).foldl tell []) ∧ BarAt wr b n xs ∧ Rd wr a1 xs ∧ Ch [] w wr ∧ B1 ≤ wr.heap.size) (fun _ s11 _ => n - (intOf s11).toNat)
  case atStart => exact ⟨0, rfl, by omega, OwI.nil _ _, h1, r1, c1', hsz1⟩
  case round =>
    clear h1 r1 c1' hsz1
    obtain ⟨t, rfl, ht, hO, h1, r1, hc, hsz⟩ := hrel
    by_cases hlt : t < n
    · obtain ⟨ba, oa, rfl, hcell⟩ := r1.at (i := 2 * t) (by rw [HX.out]; omega)
      have d1 := hcell (2 * t) (by rw [HX.out]; omega)
      have d2 := hcell (2 * t + 1) (by rw [HX.out]; omega)
      obtain ⟨u, hu⟩ : ∃ u, gI xs (2 * t) = u := ⟨_, rfl⟩
      obtain ⟨v, hv⟩ : ∃ v, gI xs (2 * t + 1) = v := ⟨_, rfl⟩
      rw [hu, Nat.mul_comm 2 t] at d1
      rw [hv, Nat.mul_comm 2 t, ← Nat.add_assoc] at d2
      have HU := Lib.hid hu
      have HV := Lib.hid hv
      have hO0 : OwI (wr.alloc (.cells #[.int .i64 u, .int .i64 v] 52)) B1 u3 ((xs.take (2 * t + 0)).foldl tell []) := hO.alloc _
      have h10 := h1.keep ((Ch.refl [] wr).alloc (.cells #[.int .i64 u, .int .i64 v] 52)) (by simp)
      have r10 := r1.keep ((Ch.refl [] wr).alloc (.cells #[.int .i64 u, .int .i64 v] 52)) (by simp)
      have hc0 : Ch [] w (wr.alloc (.cells #[.int .i64 u, .int .i64 v] 52)) := hc.alloc _
      clear hcell hu hv
      go_wp2_with fail
      go_loopw [3, 20] (fun s3 s20 wr => ∃ j : Nat, s20 = .int .i64 j ∧ j ≤ 2 ∧ OwI wr B1 s3 ((xs.take (2 * t + j)).foldl tell []) ∧ BarAt wr b n xs ∧ Rd wr (some ⟨ba, oa, none⟩) xs ∧ Ch [] w wr ∧ B1 ≤ wr.heap.size) (fun _ s20 _ => 2 - (intOf s20).toNat)
      case atStart => exact ⟨0, rfl, by omega, hO0, h10, r10, hc0, by simp; omega⟩
      case round =>
        clear hO0 h10 r10 hc0 hO h1 r1 hc hsz d1 d2
        obtain ⟨j, rfl, hj, hO, h1, r1, hc, hsz⟩ := hrel
        have hj' : j = 0 ∨ j = 1 ∨ j = 2 := by omega
        clear hj
        rcases hj' with rfl | rfl | rfl
        · have hx : gI xs (2 * t + 0) = u := by exact HU.out
          have hj2 : 2 * t + 0 < xs.length := by rw [HX.out]; omega
          have htk : (xs.take (2 * t + (0 + 1))).foldl tell [] = tell ((xs.take (2 * t + 0)).foldl tell []) u := by
            rw [show 2 * t + (0 + 1) = 2 * t + 1 by omega, List.take_succ_eq_append_getElem hj2, ← gI_at _ _ hj2, hx, List.foldl_append]
            rfl
          obtain ⟨O, hOO⟩ : ∃ O, (xs.take (2 * t + 0)).foldl tell [] = O := ⟨_, rfl⟩
          have hOl : O.length ≤ 32 := by
            rw [← hOO]
            have := tells_len (xs.take (2 * t + 0))
            rw [List.length_take] at this
            omega
          rw [hOO] at hO htk
          have HTK := Lib.hid htk
          have ix : ∀ w, (Instr.index 77 (.agg #[.int .i64 u, .int .i64 v]) (.int .i64 0)).run Try.prog w = .ok (.int .i64 u) w := fun _ => by kernel_rfl
          clear hx hj2 htk hOO
          by_cases hx0 : u = 0
          · have hx1 : (u == 0) = false ∨ True := .inr trivial
            have ht : tell O u = O := by unfold tell; rw [if_pos (.inl hx0)]
            have HT := Lib.hid ht
            have hx2 : (u != 0) = false := by simp [hx0]
            have hx3 : (u == 0) = true := by simp [hx0]
            clear ht hx0
            go_wp2_with fail
            go_roundw
            case rel => exact ⟨1, by go_num, by omega, by rw [HTK.out, HT.out]; exact hO, h1, r1, hc, hsz⟩
            case measure => simp [intOf]
          · have hx2 : (u != 0) = true := by simp [hx0]
            have hx3 : (u == 0) = false := by simp [hx0]
            obtain ⟨ao, co, rfl, hoc, _, hord⟩ := hO.form
            have hcon := containsAny ao O u O.length co wr hord rfl (by omega)
            by_cases hmem : u ∈ O
            · have ht : tell O u = O := by unfold tell; rw [if_pos (.inr hmem)]
              rw [show O.contains u = true by simpa using hmem] at hcon
              have HT := Lib.hid ht
              have HC := Lib.hid hcon
              clear ht hx0 hmem hcon
              go_wp2_with fail
              refine HC.out.mono ?_; rintro e w2 ⟨rfl, rfl⟩
              go_wp2_with fail
              go_roundw
              case rel => exact ⟨1, by go_num, by omega, by rw [HTK.out, HT.out]; exact hO, h1, r1, hc, hsz⟩
              case measure => simp [intOf]
            · have ht : tell O u = O ++ [u] := by unfold tell; rw [if_neg (by simp [hx0, hmem])]
              rw [show O.contains u = false by simpa using hmem] at hcon
              have HT := Lib.hid ht
              have HC := Lib.hid hcon
              clear ht hx0 hmem hcon
              have hO1 := hO.alloc (.cells #[.int .i64 u] 3)
              go_wp2_with fail
              refine HC.out.mono ?_; rintro e w2 ⟨rfl, rfl⟩
              go_wp2_with (at_builtin; refine wpList_app rfl (.tmp 31) (.tmp 33) rfl B1 (.slice ao O.length co) O rfl hO1 (by simp; omega) _ [u] rfl (srcOne _ u) (by simp; omega) ?_)
              intro v' w3 hv' c3 _
              have hbv : ∀ q ∈ (Value.slice ao O.length co).ownBlock.toList, B1 ≤ q := fun q hq => hO.2 q (by simpa using hq)
              have HBV := Lib.hid hbv
              clear hbv hord
              have hs3 := c3.size
              go_wp2
              go_roundw
              case rel => exact ⟨1, by go_num, by omega, by rw [HTK.out, HT.out]; exact hv', (h1.keep ((Ch.refl [] w2).alloc _) (by simp)).keep c3 (fun hq => by have := HBV.out b hq; omega), (r1.keep ((Ch.refl [] w2).alloc _) (by simp)).keep c3 (fun x hx hq => by have := HBV.out _ hq; have := HOB.out x hx; omega), (hc.alloc _).transT c3 (by intro q hq; have := HBV.out q hq; have := HB.out; exact .inr (by omega)), by simp at hs3; omega⟩
              case measure => simp [intOf]
        · have hx : gI xs (2 * t + 1) = v := by exact HV.out
          have hj2 : 2 * t + 1 < xs.length := by rw [HX.out]; omega
          have htk : (xs.take (2 * t + (1 + 1))).foldl tell [] = tell ((xs.take (2 * t + 1)).foldl tell []) v := by
            rw [show 2 * t + (1 + 1) = 2 * t + 2 by omega, List.take_succ_eq_append_getElem hj2, ← gI_at _ _ hj2, hx, List.foldl_append]
            rfl
          obtain ⟨O, hOO⟩ : ∃ O, (xs.take (2 * t + 1)).foldl tell [] = O := ⟨_, rfl⟩
          have hOl : O.length ≤ 32 := by
            rw [← hOO]
            have := tells_len (xs.take (2 * t + 1))
            rw [List.length_take] at this
            omega
          rw [hOO] at hO htk
          have HTK := Lib.hid htk
          have ix : ∀ w, (Instr.index 77 (.agg #[.int .i64 u, .int .i64 v]) (.int .i64 1)).run Try.prog w = .ok (.int .i64 v) w := fun _ => by kernel_rfl
          clear hx hj2 htk hOO
          by_cases hx0 : v = 0
          · have hx1 : (v == 0) = false ∨ True := .inr trivial
            have ht : tell O v = O := by unfold tell; rw [if_pos (.inl hx0)]
            have HT := Lib.hid ht
            have hx2 : (v != 0) = false := by simp [hx0]
            have hx3 : (v == 0) = true := by simp [hx0]
            clear ht hx0
            go_wp2_with fail
            go_roundw
            case rel => exact ⟨2, by go_num, by omega, by rw [HTK.out, HT.out]; exact hO, h1, r1, hc, hsz⟩
            case measure => simp [intOf]
          · have hx2 : (v != 0) = true := by simp [hx0]
            have hx3 : (v == 0) = false := by simp [hx0]
            obtain ⟨ao, co, rfl, hoc, _, hord⟩ := hO.form
            have hcon := containsAny ao O v O.length co wr hord rfl (by omega)
            by_cases hmem : v ∈ O
            · have ht : tell O v = O := by unfold tell; rw [if_pos (.inr hmem)]
              rw [show O.contains v = true by simpa using hmem] at hcon
              have HT := Lib.hid ht
              have HC := Lib.hid hcon
              clear ht hx0 hmem hcon
              go_wp2_with fail
              refine HC.out.mono ?_; rintro e w2 ⟨rfl, rfl⟩
              go_wp2_with fail
              go_roundw
              case rel => exact ⟨2, by go_num, by omega, by rw [HTK.out, HT.out]; exact hO, h1, r1, hc, hsz⟩
              case measure => simp [intOf]
            · have ht : tell O v = O ++ [v] := by unfold tell; rw [if_neg (by simp [hx0, hmem])]
              rw [show O.contains v = false by simpa using hmem] at hcon
              have HT := Lib.hid ht
              have HC := Lib.hid hcon
              clear ht hx0 hmem hcon
              have hO1 := hO.alloc (.cells #[.int .i64 v] 3)
              go_wp2_with fail
              refine HC.out.mono ?_; rintro e w2 ⟨rfl, rfl⟩
              go_wp2_with (at_builtin; refine wpList_app rfl (.tmp 31) (.tmp 33) rfl B1 (.slice ao O.length co) O rfl hO1 (by simp; omega) _ [v] rfl (srcOne _ v) (by simp; omega) ?_)
              intro v' w3 hv' c3 _
              have hbv : ∀ q ∈ (Value.slice ao O.length co).ownBlock.toList, B1 ≤ q := fun q hq => hO.2 q (by simpa using hq)
              have HBV := Lib.hid hbv
              clear hbv hord
              have hs3 := c3.size
              go_wp2
              go_roundw
              case rel => exact ⟨2, by go_num, by omega, by rw [HTK.out, HT.out]; exact hv', (h1.keep ((Ch.refl [] w2).alloc _) (by simp)).keep c3 (fun hq => by have := HBV.out b hq; omega), (r1.keep ((Ch.refl [] w2).alloc _) (by simp)).keep c3 (fun x hx hq => by have := HBV.out _ hq; have := HOB.out x hx; omega), (hc.alloc _).transT c3 (by intro q hq; have := HBV.out q hq; have := HB.out; exact .inr (by omega)), by simp at hs3; omega⟩
              case measure => simp [intOf]
        · go_wp2_with fail
          go_roundw
          case rel => exact ⟨t + 1, by go_num, by omega, by rw [show 2 * (t + 1) = 2 * t + 2 by omega]; exact hO, h1, r1, hc, hsz⟩
          case measure => simp [intOf]; omega
    · obtain rfl : t = n := by omega
      rw [List.take_of_length_le (by rw [HX.out]; omega)] at hO
      obtain ⟨l, l1, l2, l3, l4, l5⟩ := h1
      have q1 := l5.frozen 32
      have q2 := (l5.cell 32).trans (barCells_n l t l1)
      have HL3 := Lib.hid l3
      have HL4 := Lib.hid l4
      clear hlt ht l3 l4
      go_wp2_with fail
      go_ret
      have cs := (Ch.refl [b] wr).setCell (p := ⟨b, 32, none⟩) (.inl (by simp)) (.int .i64 0)
      refine ⟨_, rfl, (hO.keepLt cs (by intro q hq; simp at hq; subst hq; exact HBB.out)).mono hw1, ⟨l, l1, by omega, rfl, by simp, ?_⟩, (hc.mono (by simp)).trans cs⟩
      have := l5.set 32 (.int .i64 (0 : Nat))
      rw [barCells_setN l t 0 l1] at this
      exact this
end Go.Proofs.Ytalnkhcippcghaa
