/-
  Contracts of package ring: Del, Steal. Conditions: none beyond what each theorem names.
-/
import Derived.Test.YteghenfdncgpeaaRing2
import Derived.LaidEqlPtr
namespace Go.Proofs.Yteghenfdncgpeaa
open Go.RowKit
theorem ringDelNil (g : Int) (w : World) : Calls Try.prog 24 #[.pointer none, .int .i64 g] w fun e w' => e = .returned (.bool false) ∧ w' = w := by
  go_enter Try.func24, Try.ntmps24
  go_wp2
  go_ret
  exact ⟨rfl, rfl⟩
theorem ringDelNext (b : Nat) (nx : Int) (xs : List Int) (w : World) (h : RingAt w b nx true xs) :
    Calls Try.prog 24 #[.pointer (some ⟨b, 0, none⟩), .int .i64 nx] w fun e w' => e = .returned (.bool true) ∧ RingAt w' b nx false xs ∧ Ch [b] w w' := by
  obtain ⟨l, f, h1, h2, h3, h4, h5⟩ := h
  have c1 := (h5.cell 258).trans (ringCells_x l f xs.length nx true h1)
  have c2 := (h5.cell 259).trans (ringCells_h l f xs.length nx true h1)
  have q2 := h5.frozen 259
  have H4 := Lib.hid h4
  clear h4
  go_enter Try.func24, Try.ntmps24
  go_wp2
  go_ret
  refine ⟨rfl, ⟨l, f, h1, h2, h3, H4.out, ?_⟩, (Ch.refl [b] w).setCell (.inl (by simp)) _⟩
  have := h5.set 259 (.bool false)
  rw [ringCells_sh l f _ nx true h1] at this
  exact this
set_option maxRecDepth 100000 in
set_option maxHeartbeats 1000000 in
theorem ringDelNone (b : Nat) (nx : Int) (hs : Bool) (xs : List Int) (g : Int) (w : World) (h : RingAt w b nx hs xs) (hne : hs = true → nx ≠ g) (hg : g ∉ xs) :
    Calls Try.prog 24 #[.pointer (some ⟨b, 0, none⟩), .int .i64 g] w fun e w' => e = .returned (.bool false) ∧ ∃ nq, w' = w.drewN nq := by
  obtain ⟨l, f, h1, h2, h3, h4, h5⟩ := h
  obtain ⟨n, hn⟩ : ∃ n, xs.length = n := ⟨_, rfl⟩
  rw [hn] at h3 h4 h5
  have c0 := (h5.cell 257).trans (ringCells_n l f n nx hs h1)
  have c1 := (h5.cell 258).trans (ringCells_x l f n nx hs h1)
  have c2 := (h5.cell 259).trans (ringCells_h l f n nx hs h1)
  have H4 := Lib.hid h4
  have HN := Lib.hid hn
  have HG := Lib.hid hg
  have hnx : hs = false ∨ (hs = true ∧ (nx == g) = false) := by
    cases hs with
    | false => exact .inl rfl
    | true => exact .inr ⟨rfl, by rw [beq_eq_false_iff_ne]; exact hne rfl⟩
  clear h4 hn hg hne
  rcases hnx with hnx | ⟨hnx, hne⟩
  all_goals
    rw [hnx] at c2
    have HNX := Lib.hid hnx
    clear hnx
    go_enter Try.func24, Try.ntmps24
    go_wp2_with fail
    go_loopw [28] (fun s28 wr => ∃ k : Nat, s28 = .int .i64 k ∧ k ≤ n ∧ ∃ nq, wr = w.drewN nq) (fun s28 _ => n - (intOf s28).toNat)
    case atStart => exact ⟨0, rfl, by omega, 0, rfl⟩
    case round =>
      obtain ⟨k, rfl, hk, nq, rfl⟩ := hrel
      by_cases hlt : k < n
      · obtain ⟨m, hm⟩ : ∃ m : Nat, m = (f + k) % 256 := ⟨_, rfl⟩
        have cf := (h5.cell 256).trans (ringCells_f l f n nx hs h1)
        have hA := ringAt b f k m (w.drewN nq) cf h2 (by omega) hm
        have cm := (h5.cell m).trans (ringCells_i l f n nx hs h1 m (by omega))
        have hgk := H4.out k hlt
        rw [← hm] at hgk
        rw [hgk] at cm
        have hmem : gI xs k ∈ xs := gI_mem (by rw [HN.out]; exact hlt)
        have hneq : (gI xs k == g) = false := by rw [beq_eq_false_iff_ne]; exact fun e => HG.out (by rw [← e]; exact hmem)
        have hneq2 : (gI xs k != g) = true := by rw [bne, hneq]; rfl
        clear hm hgk cf
        generalize gI xs k = u at cm hmem hneq hneq2
        go_wp2_with fail
        refine hA.mono ?_; rintro e w1 ⟨rfl, nq2, rfl⟩
        clear hA
        go_wp2
        go_roundw
        case rel => exact ⟨k + 1, by go_num, by omega, _, rfl⟩
        case measure => simp [intOf]; omega
      · obtain rfl : k = n := by omega
        go_wp2
        go_ret
        exact ⟨rfl, _, rfl⟩
set_option maxRecDepth 100000 in
set_option maxHeartbeats 2000000 in
theorem ringDelRow (b : Nat) (nx : Int) (hs : Bool) (p q : List Int) (g : Int) (w : World) (h : RingAt w b nx hs (p ++ g :: q)) (hne : hs = true → nx ≠ g) (hg : g ∉ p) :
    Calls Try.prog 24 #[.pointer (some ⟨b, 0, none⟩), .int .i64 g] w fun e w' => e = .returned (.bool true) ∧ RingAt w' b nx hs (p ++ q) ∧ Ch [b] w w' := by
  obtain ⟨l, f, h1, h2, h3, h4, h5⟩ := h
  obtain ⟨n, hn⟩ : ∃ n, (p ++ g :: q).length = n := ⟨_, rfl⟩
  obtain ⟨i, hi⟩ : ∃ i, p.length = i := ⟨_, rfl⟩
  rw [hn] at h3 h4 h5
  have hin : i < n := by rw [← hn, ← hi]; simp
  have hgi : gI (p ++ g :: q) i = g := by rw [← hi]; exact gI_app p q g
  have hlow : ∀ j, j < i → gI (p ++ g :: q) j = gI (p ++ q) j := fun j hj => by simp [gI, List.getD_eq_getElem?_getD, List.getElem?_append_left, hi, hj]
  have hhigh : ∀ j, i ≤ j → gI (p ++ g :: q) (j + 1) = gI (p ++ q) j := fun j hj => by
    simp only [gI, List.getD_eq_getElem?_getD]
    rw [List.getElem?_append_right (by omega), List.getElem?_append_right (by omega), show j + 1 - p.length = (j - p.length) + 1 by omega, List.getElem?_cons_succ]
  have hlen : (p ++ q).length = n - 1 := by rw [← hn]; simp
  have c0 := (h5.cell 257).trans (ringCells_n l f n nx hs h1)
  have c1 := (h5.cell 258).trans (ringCells_x l f n nx hs h1)
  have c2 := (h5.cell 259).trans (ringCells_h l f n nx hs h1)
  have H4 := Lib.hid h4
  have HN := Lib.hid hn
  have HI := Lib.hid hi
  have HG := Lib.hid hg
  have HGI := Lib.hid hgi
  have HLO := Lib.hid hlow
  have HHI := Lib.hid hhigh
  have HLE := Lib.hid hlen
  have hnx : hs = false ∨ (hs = true ∧ (nx == g) = false) := by
    cases hs with
    | false => exact .inl rfl
    | true => exact .inr ⟨rfl, by rw [beq_eq_false_iff_ne]; exact hne rfl⟩
  clear h4 hn hg hne hi hgi hlow hhigh hlen
  rcases hnx with hnx | ⟨hnx, hne⟩
  all_goals
    rw [hnx] at c2
    have HNX := Lib.hid hnx
    clear hnx
    go_enter Try.func24, Try.ntmps24
    go_wp2_with fail
    go_loopw [28] (fun s28 wr => ∃ k : Nat, s28 = .int .i64 k ∧ k ≤ i ∧ ∃ nq, wr = w.drewN nq) (fun s28 _ => n - (intOf s28).toNat)
    case atStart => exact ⟨0, rfl, by omega, 0, rfl⟩
    case round =>
      obtain ⟨k, rfl, hk, nq, rfl⟩ := hrel
      obtain ⟨m, hm⟩ : ∃ m : Nat, m = (f + k) % 256 := ⟨_, rfl⟩
      have cf := (h5.cell 256).trans (ringCells_f l f n nx hs h1)
      have hA := ringAt b f k m (w.drewN nq) cf h2 (by omega) hm
      have cm := (h5.cell m).trans (ringCells_i l f n nx hs h1 m (by omega))
      have hgk := H4.out k (by omega)
      rw [← hm] at hgk
      rw [hgk] at cm
      have HM := Lib.hid hm
      clear hm hgk cf
      by_cases hlt : k < i
      · have hneq : (gI (p ++ g :: q) k == g) = false := by rw [beq_eq_false_iff_ne]; exact gI_ne (g :: q) HG.out (by rw [HI.out]; exact hlt)
        have hneq2 : (gI (p ++ g :: q) k != g) = true := by rw [bne, hneq]; rfl
        generalize gI (p ++ g :: q) k = u at cm hneq hneq2
        go_wp2_with fail
        refine hA.mono ?_; rintro e w1 ⟨rfl, nq2, rfl⟩
        clear hA
        go_wp2
        go_roundw
        case rel => exact ⟨k + 1, by go_num, by omega, _, rfl⟩
        case measure => simp [intOf]; omega
      · obtain rfl : k = i := by omega
        rw [HGI.out] at cm
        go_wp2_with fail
        refine hA.mono ?_; rintro e w1 ⟨rfl, nq2, rfl⟩
        clear hA hlt hk
        go_wp2_with fail
        have h0 : ∀ x, x < n → gI l ((f + x) % 256) = if x < k then gI (p ++ q) x else gI (p ++ g :: q) x := fun x hx => by
          rw [H4.out x hx]
          split
          · exact HLO.out x ‹_›
          · rfl
        go_loopw [6] (fun s6 wr => ∃ (j : Nat) (l' : List Int), s6 = .int .i64 j ∧ k ≤ j ∧ j < n ∧ l'.length = 256 ∧ Blk wr b (ringCells l' f n nx hs) 83 ∧ Hid (∀ x, x < n → gI l' ((f + x) % 256) = if x < j then gI (p ++ q) x else gI (p ++ g :: q) x) ∧ Ch [b] w wr) (fun s6 _ => n - (intOf s6).toNat)
        case atStart => exact ⟨k, l, rfl, Nat.le_refl _, hin, h1, h5.drewN _, Lib.hid h0, (Ch.refl _ _).drewN _⟩
        case round =>
          clear h0 h5 c0 c1 c2 cm h1 H4 HM
          obtain ⟨j, l', rfl, hkj, hjn, h1, h5, H0, hc⟩ := hrel
          have c0 := (h5.cell 257).trans (ringCells_n l' f n nx hs h1)
          by_cases hlt : j + 1 < n
          · obtain ⟨m, hm⟩ : ∃ m : Nat, m = (f + j) % 256 := ⟨_, rfl⟩
            obtain ⟨m2, hm2⟩ : ∃ m : Nat, m = (f + (j + 1)) % 256 := ⟨_, rfl⟩
            have hml : m < 256 := by omega
            have hml2 : m2 < 256 := by omega
            have cf := (h5.cell 256).trans (ringCells_f l' f n nx hs h1)
            have hA := ringAt b f j m wr cf h2 (by omega) hm
            have hA2 := fun nq => ringAt b f (j + 1) m2 (wr.drewN nq) cf h2 (by omega) hm2
            have cm := (h5.cell m2).trans (ringCells_i l' f n nx hs h1 m2 hml2)
            have hgk := H0.out (j + 1) hlt
            rw [← hm2, if_neg (by omega), HHI.out j hkj] at hgk
            rw [hgk] at cm
            have ck := (h5.cell m).trans (ringCells_i l' f n nx hs h1 m hml)
            have q1 := h5.frozen m
            obtain ⟨u, hu⟩ : ∃ u, gI (p ++ q) j = u := ⟨_, rfl⟩
            rw [hu] at cm
            have HU := Lib.hid hu
            have HM := Lib.hid hm
            have HA2 := Lib.hid hA2
            clear hu hm hm2 hgk cf hA2
            go_wp2_with fail
            refine hA.mono ?_; rintro e w1 ⟨rfl, nq3, rfl⟩
            clear hA
            go_wp2_with fail
            refine (HA2.out nq3).mono ?_; rintro e w1 ⟨rfl, nq4, rfl⟩
            clear HA2
            go_wp2
            go_roundw
            case rel =>
              refine ⟨j + 1, l'.set m u, by go_num, by omega, hlt, by simpa using h1, ?_, Lib.hid ?_, (hc.drewN _).setCell (.inl (by simp)) _⟩
              · rw [← ringCells_si l' f n nx hs h1 m hml]
                exact (h5.drewN _).set m (.int .i64 u)
              · intro x hx
                by_cases hxj : x = j
                · subst hxj
                  rw [if_pos (by omega), HU.out, ← HM.out]
                  simp [gI, List.getD_eq_getElem?_getD, h1, hml]
                · have hne' : m ≠ (f + x) % 256 := by have := HM.out; omega
                  have h0 := H0.out x hx
                  rw [show gI (l'.set m u) ((f + x) % 256) = gI l' ((f + x) % 256) by simp [gI, List.getD_eq_getElem?_getD, List.getElem?_set_ne hne'], h0]
                  by_cases hxl : x < j
                  · rw [if_pos hxl, if_pos (by omega)]
                  · rw [if_neg hxl, if_neg (by omega)]
            case measure => simp [intOf]; omega
          · obtain rfl : n = j + 1 := by omega
            clear hlt
            have q3 := h5.frozen 257
            go_wp2
            go_ret
            have hj : (p ++ q).length = j := by rw [HLE.out]; omega
            refine ⟨rfl, ⟨l', f, h1, h2, by rw [hj]; omega, ?_, ?_⟩, hc.setCell (.inl (by simp)) _⟩
            · intro x hx
              rw [hj] at hx
              rw [H0.out x (by omega), if_pos hx]
            · have := h5.set 257 (.int .i64 j)
              rw [ringCells_sn _ f _ nx hs h1 j] at this
              rw [hj]
              exact this
theorem ringPtrNe (b o : Nat) (nx nx' : Int) (hs hs' : Bool) (xs ys : List Int) (w : World) (h : RingAt w b nx hs xs) (ho : RingAt w o nx' hs' ys) (hne : b ≠ o) : (binOp .eql 22 (.pointer (some ⟨b, 0, none⟩)) (.pointer (some ⟨o, 0, none⟩))).run Try.prog w = .ok (.bool false) w := by
  obtain ⟨j, hj, hs⟩ : ∃ j, Try.prog.info? 83 = some j ∧ j.size ≠ 0 := by
    have h : (Try.prog.info? 83).map (·.size) = some 260 := by kernel_rfl
    obtain ⟨j, hj, hs⟩ := Option.map_eq_some_iff.1 h
    exact ⟨j, hj, by omega⟩
  obtain ⟨l, f, h1, h2, h3, h4, h5⟩ := h
  obtain ⟨l', f', r1, r2, r3, r4, r5⟩ := ho
  exact run_eql_ptr_other w Try.underlying22 hj hs (by simp [hne]) h5 r5
theorem ringStealNil (b : Nat) (w : World) : Calls Try.prog 23 #[.pointer (some ⟨b, 0, none⟩), .pointer none] w fun e w' => e = .returned (.int .i64 0) ∧ w' = w := by
  go_enter Try.func23, Try.ntmps23
  go_wp2
  go_ret
  exact ⟨rfl, rfl⟩
theorem ringStealSelf (b : Nat) (w : World) : Calls Try.prog 23 #[.pointer (some ⟨b, 0, none⟩), .pointer (some ⟨b, 0, none⟩)] w fun e w' => e = .returned (.int .i64 0) ∧ w' = w := by
  have hpe : (binOp .eql 22 (.pointer (some ⟨b, 0, none⟩)) (.pointer (some ⟨b, 0, none⟩))).run Try.prog w = .ok (.bool true) w := by
    obtain ⟨j, hj⟩ : ∃ j, Try.prog.info? 83 = some j := ⟨_, rfl⟩
    exact run_eql_ptr_same (w := w) _ Try.underlying22 hj
  go_enter Try.func23, Try.ntmps23
  go_wp2
  go_ret
  exact ⟨rfl, rfl⟩
set_option maxRecDepth 100000 in
set_option maxHeartbeats 1000000 in
theorem ringStealOne (b o : Nat) (nx nx' : Int) (hs : Bool) (ys : List Int) (w : World) (h : RingAt w b nx hs ys) (ho : RingAt w o nx' true []) (hne : b ≠ o) (hy : ys.length < 256) :
    Calls Try.prog 23 #[.pointer (some ⟨b, 0, none⟩), .pointer (some ⟨o, 0, none⟩)] w fun e w' => e = .returned (.int .i64 1) ∧ RingAt w' b nx hs (ys ++ [nx']) ∧ RingAt w' o nx' false [] ∧ Ch [b, o] w w' := by
  have hpe := ringPtrNe b o nx nx' hs true ys [] w h ho hne
  obtain ⟨l, f, h1, h2, h3, h4, h5⟩ := h
  obtain ⟨l', f', r1, r2, r3, r4, r5⟩ := ho
  obtain ⟨n, hn⟩ : ∃ n, ys.length = n := ⟨_, rfl⟩
  rw [hn] at h3 h4 h5 hy
  have c0 := (h5.cell 257).trans (ringCells_n l f n nx hs h1)
  have d0 := (r5.cell 257).trans (ringCells_n l' f' 0 nx' true r1)
  have d1 := (r5.cell 258).trans (ringCells_x l' f' 0 nx' true r1)
  have d2 := (r5.cell 259).trans (ringCells_h l' f' 0 nx' true r1)
  have q2 := r5.frozen 259
  have H4 := Lib.hid h4
  have HN := Lib.hid hn
  clear h4 hn r4
  go_enter Try.func23, Try.ntmps23
  go_wp2_with fail
  have k5 : RingAt (w.setCell ⟨o, 259, none⟩ (.bool false)) b nx hs ys := ⟨l, f, h1, h2, by rw [HN.out]; exact h3, by rw [HN.out]; exact H4.out, by rw [HN.out]; exact h5.setOther hne _⟩
  have k6 : RingAt (w.setCell ⟨o, 259, none⟩ (.bool false)) o nx' false [] := ⟨l', f', r1, r2, r3, by simp, by have := r5.set 259 (.bool false); rw [ringCells_sh l' f' _ nx' true r1] at this; exact this⟩
  have kc : Ch [b, o] w (w.setCell ⟨o, 259, none⟩ (.bool false)) := (Ch.refl _ _).setCell (.inl (by simp)) _
  refine (ringBehindRoom b nx hs ys nx' _ k5 (by rw [HN.out]; exact hy)).mono ?_; rintro e w1 ⟨rfl, k7, k8⟩
  go_wp2
  go_ret
  exact ⟨rfl, k7, k6.keep k8 (by simpa using Ne.symm hne), kc.trans (k8.mono (by simp))⟩
set_option maxRecDepth 100000 in
set_option maxHeartbeats 1000000 in
theorem ringStealNone (b o : Nat) (nx nx' : Int) (hs hs' : Bool) (ys : List Int) (w : World) (h : RingAt w b nx hs ys) (ho : RingAt w o nx' hs' []) (hne : b ≠ o) (hA : hs' = false ∨ ys.length = 256) :
    Calls Try.prog 23 #[.pointer (some ⟨b, 0, none⟩), .pointer (some ⟨o, 0, none⟩)] w fun e w' => e = .returned (.int .i64 0) ∧ ∃ nq, w' = w.drewN nq := by
  have hpe := ringPtrNe b o nx nx' hs hs' ys [] w h ho hne
  obtain ⟨l, f, h1, h2, h3, h4, h5⟩ := h
  obtain ⟨l', f', r1, r2, r3, r4, r5⟩ := ho
  obtain ⟨n, hn⟩ : ∃ n, ys.length = n := ⟨_, rfl⟩
  rw [hn] at h3 h4 h5 hA
  have c0 := (h5.cell 257).trans (ringCells_n l f n nx hs h1)
  have d0 := (r5.cell 257).trans (ringCells_n l' f' 0 nx' hs' r1)
  have d2 := (r5.cell 259).trans (ringCells_h l' f' 0 nx' hs' r1)
  have hA' : hs' = false ∨ (hs' = true ∧ ¬ (n : Int) < 256) := by
    cases hs' with
    | false => exact .inl rfl
    | true => exact .inr ⟨rfl, by simp at hA; omega⟩
  have e3 : IntKind.i64.wrap (256 - (n : Int)) = ((256 - n : Nat) : Int) := by rw [IntWalk.i64_in _ (by omega)]; omega
  have e4 : ¬ ((256 - n : Nat) : Int) < 0 := by omega
  clear h4 r4 hn hA h5 r5 h1 h2 r1 r2 r3
  rcases hA' with hA | ⟨hA, hA2⟩
  all_goals
    rw [hA] at d2
    clear hA
    go_enter Try.func23, Try.ntmps23
    go_wp2_with fail
    go_quiet (fail)
    go_wp2_with fail
    go_loopw [61] (fun s61 wr => s61 = .int .i64 0 ∧ ∃ nq, wr = w.drewN nq) (fun s61 _ => 0)
    case atStart => exact ⟨rfl, _, rfl⟩
    case round =>
      obtain ⟨rfl, nq, rfl⟩ := hrel
      go_wp2
      go_ret
      exact ⟨rfl, _, rfl⟩
set_option maxRecDepth 100000 in
set_option maxHeartbeats 2000000 in
theorem ringStealHalf (b o : Nat) (nx nx' : Int) (hs hs' : Bool) (ys xs : List Int) (k : Nat) (w : World) (h : RingAt w b nx hs ys) (ho : RingAt w o nx' hs' xs) (hne : b ≠ o) (hA : xs ≠ []) (hk : k = min (xs.length - xs.length / 2) (256 - ys.length)) :
    Calls Try.prog 23 #[.pointer (some ⟨b, 0, none⟩), .pointer (some ⟨o, 0, none⟩)] w fun e w' => e = .returned (.int .i64 k) ∧ RingAt w' b nx hs (ys ++ xs.take k) ∧ RingAt w' o nx' hs' (xs.drop k) ∧ Ch [b, o] w w' := by
  have hpe := ringPtrNe b o nx nx' hs hs' ys xs w h ho hne
  have h' := h
  have ho' := ho
  obtain ⟨l, f, h1, h2, h3, h4, h5⟩ := h
  obtain ⟨l', f', r1, r2, r3, r4, r5⟩ := ho
  obtain ⟨n, hn⟩ : ∃ n, ys.length = n := ⟨_, rfl⟩
  obtain ⟨m, hm⟩ : ∃ m, xs.length = m := ⟨_, rfl⟩
  obtain ⟨t, ht⟩ : ∃ t : Nat, m / 2 = t := ⟨_, rfl⟩
  have hm0 : m ≠ 0 := by rw [← hm]; exact fun e => hA (List.eq_nil_of_length_eq_zero e)
  rw [hn] at h3 h4 h5 hk
  rw [hm] at r3 r4 r5 hk
  rw [ht] at hk
  have c0 := (h5.cell 257).trans (ringCells_n l f n nx hs h1)
  have d0 := (r5.cell 257).trans (ringCells_n l' f' m nx' hs' r1)
  have d2 := (r5.cell 259).trans (ringCells_h l' f' m nx' hs' r1)
  have hA' : ((m : Int) == 0) = false := by rw [beq_eq_false_iff_ne]; omega
  have e1 : (m : Int) / 2 = (t : Int) := by omega
  obtain ⟨u, hu⟩ : ∃ u : Nat, u = m - t := ⟨_, rfl⟩
  obtain ⟨v, hv⟩ : ∃ v : Nat, v = 256 - n := ⟨_, rfl⟩
  have e2 : IntKind.i64.wrap ((m : Int) - (t : Int)) = (u : Int) := by rw [IntWalk.i64_in _ (by omega)]; omega
  have e3 : IntKind.i64.wrap (256 - (n : Int)) = (v : Int) := by rw [IntWalk.i64_in _ (by omega)]; omega
  have hkm : k ≤ m := by omega
  have hkn : n + k ≤ 256 := by omega
  have hcase : (k = v ∧ (v : Int) < (u : Int)) ∨ (k = u ∧ ¬ (v : Int) < (u : Int)) := by omega
  have HN := Lib.hid hn
  have HM := Lib.hid hm
  clear h4 hn r4 hm hA hk h1 h2 h5 r1 r2 r5 ht hu hv hm0
  rcases hcase with ⟨rfl, e4⟩ | ⟨rfl, e4⟩
  all_goals
    go_enter Try.func23, Try.ntmps23
    go_wp2_with fail
    go_quiet (fail)
    go_wp2_with fail
    go_loopw [61] (fun s61 wr => ∃ j : Nat, s61 = .int .i64 j ∧ j ≤ k ∧ RingAt wr b nx hs (ys ++ xs.take j) ∧ RingAt wr o nx' hs' (xs.drop j) ∧ Ch [b, o] w wr) (fun s61 _ => k - (intOf s61).toNat)
    case atStart => exact ⟨0, rfl, by omega, by rw [List.take_zero, List.append_nil]; exact RingAt.keep h' ((Ch.refl [] w).drewN _) (by simp), RingAt.keep ho' ((Ch.refl [] w).drewN _) (by simp), (Ch.refl _ _).drewN _⟩
    case round =>
      clear h' ho' c0 d0 d2
      obtain ⟨j, rfl, hj, hB, hO, hc⟩ := hrel
      by_cases hlt : j < k
      · have hd : xs.drop j = gI xs j :: xs.drop (j + 1) := by
          rw [gI_at xs j (by rw [HM.out]; omega)]
          exact List.drop_eq_getElem_cons _
        have htk : xs.take (j + 1) = xs.take j ++ [gI xs j] := by
          rw [gI_at xs j (by rw [HM.out]; omega)]
          exact List.take_succ_eq_append_getElem _
        rw [hd] at hO
        have HT := Lib.hid htk
        clear hd htk
        go_wp2_with fail
        refine (ringFirst o nx' hs' _ _ _ hO).mono ?_; rintro e w1 ⟨rfl, k1, c1⟩
        have k2 := hB.keep c1 (by simpa using hne)
        go_wp2_with fail
        refine (ringBehindRoom b nx hs _ _ _ k2 (by rw [List.length_append, HN.out, List.length_take, HM.out]; omega)).mono ?_; rintro e w2 ⟨rfl, k3, c3⟩
        go_wp2
        go_roundw
        case rel => exact ⟨j + 1, by go_num, by omega, by rw [HT.out, ← List.append_assoc]; exact k3, k1.keep c3 (by simpa using Ne.symm hne), (hc.trans (c1.mono (by simp))).trans (c3.mono (by simp))⟩
        case measure => simp [intOf]; omega
      · obtain rfl : j = k := by omega
        go_wp2
        go_ret
        exact ⟨rfl, hB, hO, hc⟩
end Go.Proofs.Yteghenfdncgpeaa
