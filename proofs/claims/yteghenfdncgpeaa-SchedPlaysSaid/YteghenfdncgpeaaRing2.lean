/-
  Contracts of package ring: Put, Get, All, Len. Conditions: none beyond what each theorem names.
-/
import Derived.Test.YteghenfdncgpeaaRing
namespace Go.Proofs.Yteghenfdncgpeaa
open Go.RowKit
theorem ringPutRow (b : Nat) (nx : Int) (hs : Bool) (xs : List Int) (g : Int) (w : World) (h : RingAt w b nx hs xs) :
    Calls Try.prog 17 #[.pointer (some ⟨b, 0, none⟩), .int .i64 g, .bool false] w fun e w' => ∃ v', e = .returned v' ∧ OwI w' w.heap.size v' (ringOver xs g) ∧ RingAt w' b nx hs (ringRow xs g) ∧ Ch [b] w w' := by
  go_enter Try.func17, Try.ntmps17
  go_wp2_with fail
  refine (ringBehind b nx hs xs g _ h).mono ?_; rintro e w1 ⟨v', rfl, h1, h2, h3⟩
  go_wp2
  go_ret
  exact ⟨v', rfl, h1, h2, h3⟩
theorem ringPutNew (b : Nat) (nx : Int) (xs : List Int) (g : Int) (w : World) (h : RingAt w b nx false xs) :
    Calls Try.prog 17 #[.pointer (some ⟨b, 0, none⟩), .int .i64 g, .bool true] w fun e w' => e = .returned (.slice none 0 0) ∧ RingAt w' b g true xs ∧ Ch [b] w w' := by
  obtain ⟨l, f, h1, h2, h3, h4, h5⟩ := h
  have c1 := (h5.cell 258).trans (ringCells_x l f xs.length nx false h1)
  have c2 := (h5.cell 259).trans (ringCells_h l f xs.length nx false h1)
  have q1 := h5.frozen 258
  have q2 := h5.frozen 259
  have H4 := Lib.hid h4
  clear h4
  go_enter Try.func17, Try.ntmps17
  go_wp2
  go_quiet (fail)
  go_wp2
  go_ret
  refine ⟨rfl, ⟨l, f, h1, h2, h3, H4.out, ?_⟩, (((Ch.refl [b] w).drewN _).setCell (.inl (by simp)) _).setCell (.inl (by simp)) _⟩
  have := ((h5.drewN 1).set 258 (.int .i64 g)).set 259 (.bool true)
  rw [ringCells_sx l f _ nx false h1, ringCells_sh l f _ g false h1] at this
  exact this
set_option maxRecDepth 100000 in
theorem ringPutNext (b : Nat) (nx : Int) (xs : List Int) (g : Int) (w : World) (h : RingAt w b nx true xs) :
    Calls Try.prog 17 #[.pointer (some ⟨b, 0, none⟩), .int .i64 g, .bool true] w fun e w' => ∃ v', e = .returned v' ∧ OwI w' w.heap.size v' (ringOver xs nx) ∧ RingAt w' b g true (ringRow xs nx) ∧ Ch [b] w w' := by
  obtain ⟨l, f, h1, h2, h3, h4, h5⟩ := h
  have c1 := (h5.cell 258).trans (ringCells_x l f xs.length nx true h1)
  have c2 := (h5.cell 259).trans (ringCells_h l f xs.length nx true h1)
  have q1 := h5.frozen 258
  have q2 := h5.frozen 259
  have H4 := Lib.hid h4
  clear h4
  go_enter Try.func17, Try.ntmps17
  go_wp2
  go_quiet (fail)
  go_wp2_with fail
  refine (ringBehind b g true xs nx _ ?_).mono ?_
  · refine ⟨l, f, h1, h2, h3, H4.out, ?_⟩
    have := ((h5.drewN nq).set 258 (.int .i64 g)).set 259 (.bool true)
    rw [ringCells_sx l f _ nx true h1, ringCells_sh l f _ g true h1] at this
    exact this
  · rintro e w1 ⟨v', rfl, k1, k2, k3⟩
    go_wp2
    go_ret
    exact ⟨v', rfl, k1.mono (by simp), k2, ((((Ch.refl [b] w).drewN _).setCell (.inl (by simp)) _).setCell (.inl (by simp)) _).trans k3⟩
theorem ringGetNil (w : World) : Calls Try.prog 19 #[.pointer none] w fun e w' => e = .returned (.tuple #[.int .i64 0, .bool false]) ∧ w' = w := by
  go_enter Try.func19, Try.ntmps19
  go_wp2
  go_ret2
  exact ⟨rfl, rfl⟩
theorem ringGetEmpty (b : Nat) (nx : Int) (w : World) (h : RingAt w b nx false []) :
    Calls Try.prog 19 #[.pointer (some ⟨b, 0, none⟩)] w fun e w' => e = .returned (.tuple #[.int .i64 0, .bool false]) ∧ w' = w := by
  obtain ⟨l, f, h1, h2, h3, h4, h5⟩ := h
  have c1 := (h5.cell 257).trans (ringCells_n l f 0 nx false h1)
  have c2 := (h5.cell 259).trans (ringCells_h l f 0 nx false h1)
  clear h4
  go_enter Try.func19, Try.ntmps19
  go_wp2
  go_ret2
  exact ⟨rfl, rfl⟩
theorem ringGetNext (b : Nat) (nx : Int) (xs : List Int) (w : World) (h : RingAt w b nx true xs) :
    Calls Try.prog 19 #[.pointer (some ⟨b, 0, none⟩)] w fun e w' => e = .returned (.tuple #[.int .i64 nx, .bool true]) ∧ RingAt w' b nx false xs ∧ Ch [b] w w' := by
  obtain ⟨l, f, h1, h2, h3, h4, h5⟩ := h
  have c1 := (h5.cell 258).trans (ringCells_x l f xs.length nx true h1)
  have c2 := (h5.cell 259).trans (ringCells_h l f xs.length nx true h1)
  have q2 := h5.frozen 259
  have H4 := Lib.hid h4
  clear h4
  go_enter Try.func19, Try.ntmps19
  go_wp2
  go_ret2
  refine ⟨rfl, ⟨l, f, h1, h2, h3, H4.out, ?_⟩, (Ch.refl [b] w).setCell (.inl (by simp)) _⟩
  have := h5.set 259 (.bool false)
  rw [ringCells_sh l f _ nx true h1] at this
  exact this
theorem ringGetRow (b : Nat) (nx : Int) (x : Int) (t : List Int) (w : World) (h : RingAt w b nx false (x :: t)) :
    Calls Try.prog 19 #[.pointer (some ⟨b, 0, none⟩)] w fun e w' => e = .returned (.tuple #[.int .i64 x, .bool true]) ∧ RingAt w' b nx false t ∧ Ch [b] w w' := by
  have hF := ringFirst b nx false x t w h
  obtain ⟨l, f, h1, h2, h3, h4, h5⟩ := h
  have c1 := (h5.cell 257).trans (ringCells_n l f (t.length + 1) nx false h1)
  have c2 := (h5.cell 259).trans (ringCells_h l f (t.length + 1) nx false h1)
  have e1 : (((t.length + 1 : Nat) : Int) == 0) = false := by rw [beq_eq_false_iff_ne]; omega
  have HF := Lib.hid hF
  clear h4 h3 hF
  go_enter Try.func19, Try.ntmps19
  go_wp2_with fail
  refine HF.out.mono ?_; rintro e w1 ⟨rfl, h6, h7⟩
  go_wp2
  go_ret2
  exact ⟨rfl, h6, h7⟩
/-- All of a ring. -/
def ringList (nx : Int) (hs : Bool) (xs : List Int) : List Int := if hs then nx :: xs else xs
theorem ringAllNil (w : World) : Calls Try.prog 20 #[.pointer none] w fun e w' => e = .returned (.slice none 0 0) ∧ w' = w := by
  go_enter Try.func20, Try.ntmps20
  go_wp2
  go_ret
  exact ⟨rfl, rfl⟩
set_option maxHeartbeats 1000000 in
set_option maxRecDepth 100000 in
theorem ringAll (b : Nat) (nx : Int) (hs : Bool) (xs : List Int) (w : World) (h : RingAt w b nx hs xs) :
    Calls Try.prog 20 #[.pointer (some ⟨b, 0, none⟩)] w fun e w' => ∃ v', e = .returned v' ∧ OwI w' w.heap.size v' (ringList nx hs xs) ∧ Ch [] w w' := by
  obtain ⟨l, f, h1, h2, h3, h4, h5⟩ := h
  obtain ⟨n, hn⟩ : ∃ n, xs.length = n := ⟨_, rfl⟩
  rw [hn] at h3 h4 h5
  have c1 := (h5.cell 257).trans (ringCells_n l f n nx hs h1)
  have c2 := (h5.cell 258).trans (ringCells_x l f n nx hs h1)
  have c3 := (h5.cell 259).trans (ringCells_h l f n nx hs h1)
  obtain ⟨B, hB⟩ : ∃ B, w.heap.size = B := ⟨_, rfl⟩
  have hbB : b < B := by rw [← hB]; exact h5.lt
  have hBw : B ≤ w.heap.size := by omega
  rw [hB]
  have H4 := Lib.hid h4
  have HN := Lib.hid hn
  have HB := Lib.hid hB
  clear h4 hn hB
  cases hs
  · rw [show ringList nx false xs = ([] : List Int) ++ xs from rfl]
    go_enter Try.func20, Try.ntmps20
    go_wp2_with fail
    go_loopw [3, 22] (fun s3 s22 wr => ∃ k : Nat, s22 = .int .i64 k ∧ k ≤ n ∧ OwI wr B s3 (([] : List Int) ++ xs.take k) ∧ Blk wr b (ringCells l f n nx false) 83 ∧ Ch [] w wr) (fun _ s22 _ => n - (intOf s22).toNat)
    case atStart => exact ⟨0, rfl, by omega, OwI.nil _ _, h5, Ch.refl _ _⟩
    case round =>
      obtain ⟨k, rfl, hk, hO, h6, hc⟩ := hrel
      have hsz := hc.size
      by_cases hlt : k < n
      · obtain ⟨m, hm⟩ : ∃ m : Nat, m = (f + k) % 256 := ⟨_, rfl⟩
        have cf := (h6.cell 256).trans (ringCells_f l f n nx false h1)
        have hA := ringAt b f k m wr cf h2 (by omega) hm
        have cm := (h6.cell m).trans (ringCells_i l f n nx false h1 m (by omega))
        have hg := H4.out k hlt
        rw [← hm] at hg
        rw [hg] at cm
        obtain ⟨u, hu⟩ : ∃ u, gI xs k = u := ⟨_, rfl⟩
        rw [hu] at cm
        have HU := Lib.hid hu
        clear hm hg hu cf
        go_wp2_with fail
        refine hA.mono ?_; rintro e w1 ⟨rfl, nq, rfl⟩
        clear hA
        obtain ⟨W, hW⟩ : ∃ W, wr.drewN nq = W := ⟨_, rfl⟩
        have hOW : OwI W B u3 (([] : List Int) ++ xs.take k) := by rw [← hW]; exact hO
        have h6W : Blk W b (ringCells l f n nx false) 83 := by rw [← hW]; exact h6.drewN nq
        have hcW : Ch [] w W := by rw [← hW]; exact hc.drewN nq
        have cm : W.cell? ⟨b, m, none⟩ = some (.int .i64 u) := by rw [← hW]; exact cm
        rw [hW]
        clear hW
        have hO1 := hOW.alloc (.cells #[.int .i64 u] 3)
        have hBs : B ≤ W.heap.size := by have := HB.out; have := hcW.size; omega
        go_wp2_with (at_builtin; refine wpList_app rfl (.tmp 25) (.tmp 31) rfl B u3 (([] : List Int) ++ xs.take k) rfl hO1 (by simp; omega) _ [u] rfl (srcOne _ u) (by simp; omega) ?_)
        intro v' w2 hv' c2 _
        go_wp2
        go_roundw
        case rel =>
          refine ⟨k + 1, by go_num, by omega, ?_, (h6W.alloc _).keep c2 (fun hq => by have := hO.2 b (by simpa using hq); omega), (hcW.alloc _).transT c2 (by intro q hq; have := hO.2 q (by simpa using hq); have := HB.out; exact .inr (by omega))⟩
          rw [List.take_succ_eq_append_getElem (by rw [HN.out]; exact hlt), ← gI_at, HU.out, ← List.append_assoc]
          exact hv'
        case measure => simp [intOf]; omega
      · obtain rfl : k = n := by omega
        go_wp2
        go_ret
        rw [List.take_of_length_le (by rw [HN.out]; omega)] at hO
        exact ⟨_, rfl, hO, hc⟩
  · rw [show ringList nx true xs = [nx] ++ xs from rfl]
    go_enter Try.func20, Try.ntmps20
    go_wp2_with (at_builtin; refine wpList_app rfl (.tmp 11) (.tmp 16) rfl B (.slice none 0 0) [] rfl (OwI.nil _ B) (by simp; omega) _ [nx] rfl (srcOne w nx) (by simp) ?_)
    intro v0 w1 o0 cx _
    have cx : Ch [] w w1 := ((Ch.refl [] w).alloc _).transT cx (by simp [Value.ownBlock])
    have g5 := h5.keep cx (by simp)
    have c1 := (g5.cell 257).trans (ringCells_n l f n nx true h1)
    go_wp2_with fail
    go_loopw [3, 22] (fun s3 s22 wr => ∃ k : Nat, s22 = .int .i64 k ∧ k ≤ n ∧ OwI wr B s3 ([nx] ++ xs.take k) ∧ Blk wr b (ringCells l f n nx true) 83 ∧ Ch [] w wr) (fun _ s22 _ => n - (intOf s22).toNat)
    case atStart => exact ⟨0, rfl, by omega, by simpa using o0, g5, cx⟩
    case round =>
      clear o0 g5 cx
      obtain ⟨k, rfl, hk, hO, h6, hc⟩ := hrel
      have hsz := hc.size
      by_cases hlt : k < n
      · obtain ⟨m, hm⟩ : ∃ m : Nat, m = (f + k) % 256 := ⟨_, rfl⟩
        have cf := (h6.cell 256).trans (ringCells_f l f n nx true h1)
        have hA := ringAt b f k m wr cf h2 (by omega) hm
        have cm := (h6.cell m).trans (ringCells_i l f n nx true h1 m (by omega))
        have hg := H4.out k hlt
        rw [← hm] at hg
        rw [hg] at cm
        obtain ⟨u, hu⟩ : ∃ u, gI xs k = u := ⟨_, rfl⟩
        rw [hu] at cm
        have HU := Lib.hid hu
        clear hm hg hu cf
        go_wp2_with fail
        refine hA.mono ?_; rintro e w1 ⟨rfl, nq, rfl⟩
        clear hA
        obtain ⟨W, hW⟩ : ∃ W, wr.drewN nq = W := ⟨_, rfl⟩
        have hOW : OwI W B u3 ([nx] ++ xs.take k) := by rw [← hW]; exact hO
        have h6W : Blk W b (ringCells l f n nx true) 83 := by rw [← hW]; exact h6.drewN nq
        have hcW : Ch [] w W := by rw [← hW]; exact hc.drewN nq
        have cm : W.cell? ⟨b, m, none⟩ = some (.int .i64 u) := by rw [← hW]; exact cm
        rw [hW]
        clear hW
        have hO1 := hOW.alloc (.cells #[.int .i64 u] 3)
        have hBs : B ≤ W.heap.size := by have := HB.out; have := hcW.size; omega
        go_wp2_with (at_builtin; refine wpList_app rfl (.tmp 25) (.tmp 31) rfl B u3 ([nx] ++ xs.take k) rfl hO1 (by simp; omega) _ [u] rfl (srcOne _ u) (by simp; omega) ?_)
        intro v' w2 hv' c2 _
        go_wp2
        go_roundw
        case rel =>
          refine ⟨k + 1, by go_num, by omega, ?_, (h6W.alloc _).keep c2 (fun hq => by have := hO.2 b (by simpa using hq); omega), (hcW.alloc _).transT c2 (by intro q hq; have := hO.2 q (by simpa using hq); have := HB.out; exact .inr (by omega))⟩
          rw [List.take_succ_eq_append_getElem (by rw [HN.out]; exact hlt), ← gI_at, HU.out, ← List.append_assoc]
          exact hv'
        case measure => simp [intOf]; omega
      · obtain rfl : k = n := by omega
        go_wp2
        go_ret
        rw [List.take_of_length_le (by rw [HN.out]; omega)] at hO
        exact ⟨_, rfl, hO, hc⟩
theorem ringLenNil (w : World) : Calls Try.prog 18 #[.pointer none] w fun e w' => e = .returned (.int .i64 0) ∧ w' = w := by
  go_enter Try.func18, Try.ntmps18
  go_wp2_with fail
  refine (ringAllNil _).mono ?_; rintro e w1 ⟨rfl, rfl⟩
  go_wp2
  go_ret
  exact ⟨rfl, rfl⟩
theorem ringLen (b : Nat) (nx : Int) (hs : Bool) (xs : List Int) (w : World) (h : RingAt w b nx hs xs) :
    Calls Try.prog 18 #[.pointer (some ⟨b, 0, none⟩)] w fun e w' => e = .returned (.int .i64 (ringList nx hs xs).length) ∧ Ch [] w w' := by
  go_enter Try.func18, Try.ntmps18
  go_wp2_with fail
  refine (ringAll b nx hs xs _ h).mono ?_; rintro e w1 ⟨v', rfl, h1, h2⟩
  obtain ⟨a, cap, rfl, _⟩ := h1.form
  go_wp2
  go_ret
  exact ⟨rfl, h2⟩
end Go.Proofs.Yteghenfdncgpeaa
