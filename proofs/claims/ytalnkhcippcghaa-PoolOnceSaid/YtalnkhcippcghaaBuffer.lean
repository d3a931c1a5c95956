/-
  Contracts of package buffer: a few grey objects as a list. Conditions: none beyond what each theorem names.
-/
import Derived.Test.YtalnkhcippcghaaChecked
import Derived.Test.YtalnkhcippcghaaMem
import Derived.Test.YtalnkhcippcghaaInfo
import Derived.Test.YtalnkhcippcghaaMix
import Derived.ProofKit
import Derived.OpenShut
import Derived.Deep.DeepCutAuto
namespace Go.Proofs.Ytalnkhcippcghaa
open Go.RowKit
def bufCells (l : List Int) (n : Nat) : Array Value := (l.map (Value.int .i64) ++ [Value.int .i64 n]).toArray
/-- b is a buffer with the objects xs. -/
def BufAt (w : World) (b : Nat) (xs : List Int) : Prop := ∃ l : List Int, l.length = 32 ∧ xs.length ≤ 32 ∧ l.take xs.length = xs ∧ Blk w b (bufCells l xs.length) 71
theorem BufAt.keep {S : List Nat} {w w' : World} {b : Nat} {xs : List Int} (h : BufAt w b xs) (hc : Ch S w w') (hb : b ∉ S) : BufAt w' b xs := by
  obtain ⟨l, h1, h2, h3, h4⟩ := h
  exact ⟨l, h1, h2, h3, h4.keep hc hb⟩
theorem BufAt.lt {w : World} {b : Nat} {xs : List Int} (h : BufAt w b xs) : b < w.heap.size := by
  obtain ⟨l, h1, h2, h3, h4⟩ := h
  exact h4.lt
theorem bufCells_n (l : List Int) (n : Nat) (h : l.length = 32) : (bufCells l n)[32]? = some (.int .i64 n) := by
  simp [bufCells, List.getElem?_append_right, h]
theorem bufCells_i (l : List Int) (n i : Nat) (h : l.length = 32) (hi : i < 32) : (bufCells l n)[i]? = some (.int .i64 (gI l i)) := by
  have : i < l.length := by omega
  simp [bufCells, List.getElem?_append_left, this, gI_at l i this]
theorem bufCells_set (l : List Int) (n i : Nat) (h : l.length = 32) (hi : i < 32) (v : Int) : (bufCells l n).setIfInBounds i (.int .i64 v) = bufCells (l.set i v) n := by
  simp [bufCells, List.set_append_left, h, hi, List.map_set]
theorem bufCells_setN (l : List Int) (n m : Nat) (h : l.length = 32) : (bufCells l n).setIfInBounds 32 (.int .i64 m) = bufCells l m := by
  simp [bufCells, List.set_append_right, h]
theorem bufNew (w : World) : Calls Try.prog 12 #[] w fun e w' => e = .returned (.pointer (some ⟨w.heap.size, 0, none⟩)) ∧ BufAt w' w.heap.size [] ∧ Ch [] w w' := by
  go_enter Try.func12, Try.ntmps12
  go_wp2
  go_ret
  exact ⟨rfl, ⟨List.replicate 32 0, rfl, by decide, rfl, Blk.new _ _ _⟩, (Ch.refl _ _).alloc _⟩
theorem bufLenNil (w : World) : Calls Try.prog 19 #[.pointer none] w fun e w' => e = .returned (.int .i64 0) ∧ w' = w := by
  go_enter Try.func19, Try.ntmps19
  go_wp2
  go_ret
  exact ⟨rfl, rfl⟩
theorem bufLen (b : Nat) (xs : List Int) (w : World) (h : BufAt w b xs) : Calls Try.prog 19 #[.pointer (some ⟨b, 0, none⟩)] w fun e w' => e = .returned (.int .i64 xs.length) ∧ w' = w := by
  obtain ⟨l, h1, h2, h3, h4⟩ := h
  have c := (h4.cell 32).trans (bufCells_n l _ h1)
  go_enter Try.func19, Try.ntmps19
  go_wp2
  go_ret
  exact ⟨rfl, rfl⟩
theorem bufPutNil (v : Int) (w : World) : Calls Try.prog 13 #[.pointer none, .int .i64 v] w fun e w' => e = .returned (.bool false) ∧ w' = w := by
  go_enter Try.func13, Try.ntmps13
  go_wp2
  go_ret
  exact ⟨rfl, rfl⟩
theorem bufPutFull (b : Nat) (xs : List Int) (v : Int) (w : World) (h : BufAt w b xs) (hf : xs.length = 32) : Calls Try.prog 13 #[.pointer (some ⟨b, 0, none⟩), .int .i64 v] w fun e w' => e = .returned (.bool false) ∧ w' = w := by
  obtain ⟨l, h1, h2, h3, h4⟩ := h
  have c := (h4.cell 32).trans (bufCells_n l _ h1)
  rw [hf] at c
  clear hf h2 h3 h4
  go_enter Try.func13, Try.ntmps13
  go_wp2
  go_ret
  exact ⟨rfl, rfl⟩
theorem bufPut (b : Nat) (xs : List Int) (v : Int) (w : World) (h : BufAt w b xs) (hf : xs.length < 32) : Calls Try.prog 13 #[.pointer (some ⟨b, 0, none⟩), .int .i64 v] w fun e w' =>
    e = .returned (.bool true) ∧ BufAt w' b (xs ++ [v]) ∧ Ch [b] w w' := by
  obtain ⟨l, h1, h2, h3, h4⟩ := h
  obtain ⟨n, hn⟩ : ∃ n, xs.length = n := ⟨_, rfl⟩
  rw [hn] at h2 h3 h4 hf
  have c := (h4.cell 32).trans (bufCells_n l _ h1)
  have c2 := (h4.cell n).trans (bufCells_i l _ n h1 hf)
  have f1 := h4.frozen n
  have f2 := h4.frozen 32
  have hne : ((n : Int) == 32) = false := by rw [beq_eq_false_iff_ne]; omega
  have HN := Lib.hid hn
  have HT := Lib.hid h3
  clear hn h3
  go_enter Try.func13, Try.ntmps13
  go_wp2
  refine wp_region_tail 9 (by kernel_rfl) (by kernel_rfl) ?_
  simp only [List.take_succ_cons, List.take_zero, List.drop_succ_cons, List.drop_zero]
  have b1 : (n : Int) < 32 := by omega
  have b0 : (0 : Int) ≤ n := by omega
  repeat still_step
  refine wpStill_nil ?_
  go_wp2
  go_ret
  refine ⟨rfl, ⟨l.set n v, by simpa using h1, by simp [HN.out]; omega, ?_, ?_⟩, (((Ch.refl [b] w).drewN 1).setCell (.inl (by simp)) _).setCell (.inl (by simp)) _⟩
  · rw [List.length_append, HN.out, List.length_singleton, List.take_succ_eq_append_getElem (by simp; omega), List.take_set_of_le (by omega), HT.out]
    simp
  · have h5 := ((h4.drewN 1).set n (.int .i64 v)).set 32 (.int .i64 (n + 1))
    rw [bufCells_set l n n h1 hf, show ((n : Int) + 1) = ((n + 1 : Nat) : Int) by omega, bufCells_setN _ n (n + 1) (by simpa using h1)] at h5
    rw [List.length_append, HN.out]
    exact h5
theorem bufGetNil (w : World) : Calls Try.prog 15 #[.pointer none] w fun e w' => e = .returned (.tuple #[.int .i64 0, .bool false]) ∧ w' = w := by
  go_enter Try.func15, Try.ntmps15
  go_wp2_with fail
  refine (bufLenNil _).mono ?_; rintro e w1 ⟨rfl, rfl⟩
  go_wp2
  go_ret2
  exact ⟨rfl, rfl⟩
theorem bufGetEmpty (b : Nat) (w : World) (h : BufAt w b []) : Calls Try.prog 15 #[.pointer (some ⟨b, 0, none⟩)] w fun e w' => e = .returned (.tuple #[.int .i64 0, .bool false]) ∧ w' = w := by
  go_enter Try.func15, Try.ntmps15
  go_wp2_with fail
  refine (bufLen b [] _ h).mono ?_; rintro e w1 ⟨rfl, rfl⟩
  go_wp2
  go_ret2
  exact ⟨rfl, rfl⟩
theorem bufGet (b : Nat) (xs : List Int) (v : Int) (w : World) (h : BufAt w b (xs ++ [v])) : Calls Try.prog 15 #[.pointer (some ⟨b, 0, none⟩)] w fun e w' =>
    e = .returned (.tuple #[.int .i64 v, .bool true]) ∧ BufAt w' b xs ∧ Ch [b] w w' := by
  have hL := bufLen b _ w h
  obtain ⟨l, h1, h2, h3, h4⟩ := h
  obtain ⟨n, hn⟩ : ∃ n, xs.length = n := ⟨_, rfl⟩
  rw [List.length_append, hn, List.length_singleton] at h2 h3 h4 hL
  have c := (h4.cell 32).trans (bufCells_n l _ h1)
  have c2 := (h4.cell n).trans (bufCells_i l _ n h1 (by omega))
  have hv : gI l n = v := by
    rw [List.take_succ_eq_append_getElem (by omega)] at h3
    have := List.append_inj_right' h3 rfl
    simp only [List.cons.injEq, and_true] at this
    rw [gI_at l n (by omega), this]
  have ht : l.take n = xs := by
    rw [List.take_succ_eq_append_getElem (by omega)] at h3
    exact List.append_inj_left' h3 rfl
  rw [hv] at c2
  have f2 := h4.frozen 32
  have HN := Lib.hid hn
  have HT := Lib.hid ht
  clear hn h3 hv ht
  have b1 : (n : Int) < 32 := by omega
  have b0 : (0 : Int) ≤ n := by omega
  go_enter Try.func15, Try.ntmps15
  go_wp2_with fail
  refine hL.mono ?_; rintro e w1 ⟨rfl, rfl⟩
  clear hL
  go_wp2
  refine wp_named fun W hW => ?_
  have g4 : Blk W b (bufCells l n) 71 := by
    rw [hW, ← bufCells_setN l (n + 1) n h1]
    exact h4.set 32 (.int .i64 n)
  have hc : Ch [b] w1 W := by rw [hW]; exact (Ch.refl _ _).setCell (.inl (by simp)) _
  clear hW
  have k1 := (g4.cell 32).trans (bufCells_n l _ h1)
  have k2 := (g4.cell n).trans (bufCells_i l _ n h1 (by omega))
  have k3 : W.cell? ⟨b, n, none⟩ = some (.int .i64 v) := by
    have e := (h4.cell n).trans (bufCells_i l _ n h1 (by omega))
    rw [k2, ← e, c2]
  clear c c2 f2 k2
  go_quiet (fail)
  go_wp2
  go_ret2
  exact ⟨rfl, ⟨l, h1, by rw [HN.out]; omega, by rw [HN.out]; exact HT.out, by rw [HN.out]; exact g4⟩, hc.drewN _⟩
end Go.Proofs.Ytalnkhcippcghaa
