/-
  A scheduler that a law has made, in the blocks D, beside the world in which the law began; the law's own check. Conditions: none beyond what each theorem names.
-/
import Derived.Test.YteghenfdncgpeaaSch8
namespace Go.Proofs.Yteghenfdncgpeaa
open Go.RowKit
/-- A scheduler of n Ps, made since w0, that lives in the blocks D. -/
def SD (w0 w : World) (D : List Nat) (s n : Nat) (st : SSt) : Prop := ∃ c vs v X, SchedAt w s c vs v X st ∧ X.length = n ∧ Ch [] w0 w ∧ (∀ k ∈ blksS s c vs v X, k ∈ D) ∧ ∀ k ∈ D, w0.heap.size ≤ k ∧ k < w.heap.size
/-- What an operation leaves: the blocks may be more. -/
def SDT (w0 w : World) (D : List Nat) (s n : Nat) (st : SSt) (w' : World) : Prop := ∃ D', SD w0 w' D' s n st ∧ Ch D w w' ∧ ∀ k ∈ D', k ∈ D ∨ w.heap.size ≤ k
section
variable {w0 w w1 w2 : World} {s n i : Nat} {D D' T : List Nat} {st st2 : SSt}
theorem SD.still (h : SD w0 w D s n st) (hc : Ch [] w w2) : SD w0 w2 D s n st := by
  obtain ⟨c, vs, v, X, h1, h2, h3, h4, h5⟩ := h
  exact ⟨c, vs, v, X, h1.ch hc, h2, h3.trans hc, h4, fun k hk => ⟨(h5 k hk).1, Nat.lt_of_lt_of_le (h5 k hk).2 hc.size⟩⟩
/-- What none of its blocks turns keeps it. -/
theorem SD.beside (h : SD w0 w D s n st) (hc : Ch T w w2) (hT : ∀ k ∈ T, k ∉ D) (hT0 : ∀ k ∈ T, w0.heap.size ≤ k) : SD w0 w2 D s n st := by
  obtain ⟨c, vs, v, X, h1, h2, h3, h4, h5⟩ := h
  exact ⟨c, vs, v, X, h1.keep hc (fun k hk hk2 => hT k hk (h4 k hk2)), h2, h3.transT hc (fun k hk => .inr (hT0 k hk)), h4, fun k hk => ⟨(h5 k hk).1, Nat.lt_of_lt_of_le (h5 k hk).2 hc.size⟩⟩
theorem SD.ch (h : SD w0 w D s n st) : Ch [] w0 w := h.choose_spec.choose_spec.choose_spec.choose_spec.2.2.1
theorem SD.bd (h : SD w0 w D s n st) : ∀ k ∈ D, w0.heap.size ≤ k ∧ k < w.heap.size := h.choose_spec.choose_spec.choose_spec.choose_spec.2.2.2.2
theorem SD.rowLe (h : SD w0 w D s n st) (hi : i < n) : (st.row i).length ≤ 256 := by
  obtain ⟨c, vs, v, X, h1, h2, h3, h4, h5⟩ := h
  exact h1.rowLe (by omega)
theorem SD.turn {c : Nat} {vs v : Value} {X : List Nat} (h2 : X.length = n) (h3 : Ch [] w0 w) (h4 : ∀ k ∈ blksS s c vs v X, k ∈ D) (h5 : ∀ k ∈ D, w0.heap.size ≤ k ∧ k < w.heap.size) (hT : SchT w s c vs v X st2 w2) : SDT w0 w D s n st2 w2 := by
  obtain ⟨v', g1, g2, g3⟩ := hT
  have hDc : Ch D w w2 := g2.mono (fun k hk => .inl (h4 k (by
    rcases mem_turnS.1 hk with e | e | e
    · exact mem_blksS.2 (.inr (.inl e))
    · exact mem_blksS.2 (.inr (.inr (.inl e)))
    · exact mem_blksS.2 (.inr (.inr (.inr (.inr e)))))))
  have hnew : ∀ k ∈ D ++ v'.ownBlock.toList, k ∈ D ∨ w.heap.size ≤ k := fun k hk => by
    rcases List.mem_append.1 hk with e | e
    · exact .inl e
    · rcases g3 with f | f
      · exact .inl (h4 k (mem_blksS.2 (.inr (.inr (.inr (.inr (by rw [← f]; simpa using e)))))))
      · exact .inr (f k (by simpa using e))
  refine ⟨D ++ v'.ownBlock.toList, ⟨c, vs, v', X, g1, h2, h3.transT hDc (fun k hk => .inr (h5 k hk).1), fun k hk => ?_, fun k hk => ?_⟩, hDc, hnew⟩
  · rcases mem_blksS.1 hk with e | e | e | e | e
    · exact List.mem_append_left _ (h4 k (mem_blksS.2 (.inl e)))
    · exact List.mem_append_left _ (h4 k (mem_blksS.2 (.inr (.inl e))))
    · exact List.mem_append_left _ (h4 k (mem_blksS.2 (.inr (.inr (.inl e)))))
    · exact List.mem_append_left _ (h4 k (mem_blksS.2 (.inr (.inr (.inr (.inl e))))))
    · exact List.mem_append_right _ (by simp [e])
  · refine ⟨?_, ?_⟩
    · rcases hnew k hk with e | e
      · exact (h5 k e).1
      · exact Nat.le_trans h3.size e
    · rcases List.mem_append.1 hk with e | e
      · exact Nat.lt_of_lt_of_le (h5 k e).2 g2.size
      · exact g1.q.2.lt k (by simpa using e)
def NewSD (w : World) (n : Nat) (e : Ending) (w' : World) : Prop := ∃ s D, e = .returned (.tuple #[.pointer (some ⟨s, 0, none⟩), .int .i64 0]) ∧ SD w w' D s n initS
theorem sdNew (w : World) (n : Nat) (h1 : 1 ≤ n) (h64 : n ≤ 64) : Calls Try.prog 39 #[.int .i64 n] w (NewSD w n) := by
  refine (schNew w n h1 h64).mono ?_
  rintro e w' ⟨s, c, vs, v, X, rfl, g1, g2, g3, g4⟩
  exact ⟨s, blksS s c vs v X, rfl, c, vs, v, X, g1, g2, g3, fun k hk => hk, fun k hk => ⟨g4 k hk, g1.lt k hk⟩⟩
theorem hasP_in (hi : i < n) : hasP n (i : Int) = true := decide_eq_true (by omega)
theorem sdReady (g : Int) (nb : Bool) (h : SD w0 w D s n st) (hi : i < n) (hl : st.com.length ≤ 80000) :
    Calls Try.prog 41 #[.pointer (some ⟨s, 0, none⟩), .int .i64 i, .int .i64 g, .bool nb] w fun e w' => e = .returned (.int .i64 0) ∧ SDT w0 w D s n (readyS st i g nb) w' := by
  obtain ⟨c, vs, v, X, h1, h2, h3, h4, h5⟩ := h
  exact (schReady g nb h1 (List.getElem?_eq_getElem (show i < X.length by omega)) (by omega)).mono fun _ _ ⟨a, b⟩ => ⟨a, SD.turn h2 h3 h4 h5 b⟩
theorem sdReadyNo (j g : Int) (nb : Bool) (h : SD w0 w D s n st) (hj : hasP n j = false) :
    Calls Try.prog 41 #[.pointer (some ⟨s, 0, none⟩), .int .i64 j, .int .i64 g, .bool nb] w fun e w' => e = .returned (.int .i64 1) ∧ w' = w := by
  obtain ⟨c, vs, v, X, h1, h2, h3, h4, h5⟩ := h
  exact schReadyNo j g nb h1 (by rw [h2]; exact hj)
theorem sdGlobal (g : Int) (h : SD w0 w D s n st) (hl : st.com.length ≤ 80000) :
    Calls Try.prog 46 #[.pointer (some ⟨s, 0, none⟩), .int .i64 g] w fun e w' => e = .returned (.tuple #[]) ∧ SDT w0 w D s n (st.setCom (st.com ++ [g])) w' := by
  obtain ⟨c, vs, v, X, h1, h2, h3, h4, h5⟩ := h
  exact (schGlobal g h1 (by omega)).mono fun _ _ ⟨a, b⟩ => ⟨a, SD.turn h2 h3 h4 h5 b⟩
theorem sdPick (tick vic : Int) (h : SD w0 w D s n st) (hi : i < n) (hl : st.com.length ≤ 80000) :
    Calls Try.prog 43 #[.pointer (some ⟨s, 0, none⟩), .int .i64 i, .int .i64 tick, .int .i64 vic] w fun e w' => e = .returned (.tuple #[.int .i64 (pickV st i n tick vic), .bool (pickB st i n tick vic)]) ∧ SDT w0 w D s n (pickS st i n tick vic) w' := by
  obtain ⟨c, vs, v, X, h1, h2, h3, h4, h5⟩ := h
  have := schPick tick vic h1 (List.getElem?_eq_getElem (show i < X.length by omega)) hl
  rw [h2] at this
  exact this.mono fun _ _ ⟨a, b⟩ => ⟨a, SD.turn h2 h3 h4 h5 b⟩
theorem sdPickNo (j tick vic : Int) (h : SD w0 w D s n st) (hj : hasP n j = false) :
    Calls Try.prog 43 #[.pointer (some ⟨s, 0, none⟩), .int .i64 j, .int .i64 tick, .int .i64 vic] w fun e w' => e = .returned (.tuple #[.int .i64 0, .bool false]) ∧ Ch [] w w' := by
  obtain ⟨c, vs, v, X, h1, h2, h3, h4, h5⟩ := h
  exact schPickNo j tick vic h1 (by rw [h2]; exact hj)
theorem sdDrop (h : SD w0 w D s n st) (hi : i < n) (hl : st.com.length ≤ 80000) :
    Calls Try.prog 48 #[.pointer (some ⟨s, 0, none⟩), .int .i64 i] w fun e w' => e = .returned (.int .i64 (allS st i).length) ∧ SDT w0 w D s n (dropS st i) w' := by
  obtain ⟨c, vs, v, X, h1, h2, h3, h4, h5⟩ := h
  exact (schDrop h1 (List.getElem?_eq_getElem (show i < X.length by omega)) (by omega)).mono fun _ _ ⟨a, b⟩ => ⟨a, SD.turn h2 h3 h4 h5 b⟩
theorem sdDropNo (j : Int) (h : SD w0 w D s n st) (hj : hasP n j = false) :
    Calls Try.prog 48 #[.pointer (some ⟨s, 0, none⟩), .int .i64 j] w fun e w' => e = .returned (.int .i64 0) ∧ w' = w := by
  obtain ⟨c, vs, v, X, h1, h2, h3, h4, h5⟩ := h
  exact schDropNo j h1 (by rw [h2]; exact hj)
theorem sdWhere (g : Int) (h : SD w0 w D s n st) (hn : n ≤ 100) (hl : st.com.length ≤ 80000) :
    Calls Try.prog 42 #[.pointer (some ⟨s, 0, none⟩), .int .i64 g] w fun e w' => e = .returned (.tuple #[.int .i64 (whereV st n g), .bool (whereB st n g)]) ∧ Ch [] w w' := by
  obtain ⟨c, vs, v, X, h1, h2, h3, h4, h5⟩ := h
  have := schWhere g h1 (by omega) (by omega)
  rw [h2] at this
  exact this
theorem sdLen (h : SD w0 w D s n st) (hn : n ≤ 100) (hl : st.com.length ≤ 80000) :
    Calls Try.prog 44 #[.pointer (some ⟨s, 0, none⟩)] w fun e w' => e = .returned (.int .i64 (totS st n : Nat)) ∧ Ch [] w w' := by
  obtain ⟨c, vs, v, X, h1, h2, h3, h4, h5⟩ := h
  have := schLen h1 (by omega) (by omega)
  rw [h2] at this
  exact this
theorem sdLocal (h : SD w0 w D s n st) (hi : i < n) :
    Calls Try.prog 47 #[.pointer (some ⟨s, 0, none⟩), .int .i64 i] w fun e w' => ∃ v', e = .returned v' ∧ OwI w' w.heap.size v' (allS st i) ∧ Ch [] w w' := by
  obtain ⟨c, vs, v, X, h1, h2, h3, h4, h5⟩ := h
  exact schLocal h1 (List.getElem?_eq_getElem (show i < X.length by omega))
theorem sdLocalNo (j : Int) (h : SD w0 w D s n st) (hj : hasP n j = false) :
    Calls Try.prog 47 #[.pointer (some ⟨s, 0, none⟩), .int .i64 j] w fun e w' => e = .returned (.slice none 0 0) ∧ w' = w := by
  obtain ⟨c, vs, v, X, h1, h2, h3, h4, h5⟩ := h
  exact schLocalNo j h1 (by rw [h2]; exact hj)
theorem sdCommon (h : SD w0 w D s n st) (hl : st.com.length ≤ 80000) :
    Calls Try.prog 49 #[.pointer (some ⟨s, 0, none⟩)] w fun e w' => ∃ v', e = .returned v' ∧ Own w' 3 1 v' st.com.length (st.com.map (Value.int .i64)) ∧ Ch [] w w' := by
  obtain ⟨c, vs, v, X, h1, h2, h3, h4, h5⟩ := h
  exact schCommon h1 (by omega)
end
def R1 : SSt := readyS initS 0 5 true
def R2 : SSt := pickS R1 1 2 1 0
set_option maxHeartbeats 1000000 in
theorem told27 (w : World) : Calls Try.prog 45 #[] w fun e w' => e = .returned (.bool true) ∧ Ch [] w w' := by
  go_enter Try.func45, Try.ntmps45
  go_wp2_with fail
  refine (sdNew w 2 (by omega) (by omega)).mono ?_; rintro e w1 hn
  obtain ⟨s, D, rfl, h0⟩ := hn
  go_wp2_with fail
  refine (schNewArg w1 0 (.inl (by omega))).mono ?_; rintro e w2 ⟨rfl, rfl⟩
  go_wp2_with fail
  refine (sdReady (i := 0) 5 true h0 (by omega) (by decide)).mono ?_; rintro e w3 ⟨rfl, D1, h1, -, -⟩
  replace h1 : SD w w3 D1 s 2 R1 := h1
  clear h0
  go_wp2_with fail
  refine (sdWhere 5 h1 (by omega) (by decide)).mono ?_; rintro e w4 ⟨rfl, c4⟩
  rw [show whereV R1 2 5 = 0 by decide +kernel, show whereB R1 2 5 = true by decide +kernel]
  replace h1 := h1.still c4
  go_wp2_with fail
  refine (sdPick (i := 1) 1 0 h1 (by omega) (by decide)).mono ?_; rintro e w5 ⟨rfl, D2, h2, -, -⟩
  rw [show pickV R1 1 2 1 0 = 5 by decide +kernel, show pickB R1 1 2 1 0 = true by decide +kernel]
  replace h2 : SD w w5 D2 s 2 R2 := h2
  clear h1
  go_wp2_with fail
  refine (sdWhere 5 h2 (by omega) (by decide +kernel)).mono ?_; rintro e w6 ⟨rfl, c6⟩
  rw [show whereV R2 2 5 = 0 by decide +kernel, show whereB R2 2 5 = false by decide +kernel]
  replace h2 := h2.still c6
  go_wp2_with fail
  refine (sdLen h2 (by omega) (by decide +kernel)).mono ?_; rintro e w7 ⟨rfl, c7⟩
  rw [show totS R2 2 = 0 by decide +kernel]
  have hend := (h2.still c7).ch
  clear h2
  go_wp2_with fail
  go_ret
  exact ⟨rfl, hend⟩
end Go.Proofs.Yteghenfdncgpeaa
