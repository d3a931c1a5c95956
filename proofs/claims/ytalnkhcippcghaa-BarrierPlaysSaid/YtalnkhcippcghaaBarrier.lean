/-
  Contracts of package barrier: pairs that are noted, as a flat list of numbers (two to a pair). Conditions: none beyond what each theorem names.
-/
import Derived.Test.YtalnkhcippcghaaChecked
import Derived.Test.YtalnkhcippcghaaMem
import Derived.Test.YtalnkhcippcghaaInfo
import Derived.ProofKit
import Derived.OpenShut
import Derived.Deep.DeepCutAuto
namespace Go.Proofs.Ytalnkhcippcghaa
open Go.RowKit
def barCells (l : List Int) (n : Nat) : Array Value := (l.map (Value.int .i64) ++ [Value.int .i64 n]).toArray
/-- b is a barrier with n pairs; their numbers, one behind the other, are xs. -/
def BarAt (w : World) (b : Nat) (n : Nat) (xs : List Int) : Prop := ∃ l : List Int, l.length = 32 ∧ n ≤ 16 ∧ xs.length = 2 * n ∧ l.take (2 * n) = xs ∧ Blk w b (barCells l n) 75
theorem BarAt.keep {S : List Nat} {w w' : World} {b n : Nat} {xs : List Int} (h : BarAt w b n xs) (hc : Ch S w w') (hb : b ∉ S) : BarAt w' b n xs := by
  obtain ⟨l, h1, h2, h3, h4, h5⟩ := h
  exact ⟨l, h1, h2, h3, h4, h5.keep hc hb⟩
theorem barCells_n (l : List Int) (n : Nat) (h : l.length = 32) : (barCells l n)[32]? = some (.int .i64 n) := by
  simp [barCells, List.getElem?_append_right, h]
theorem barCells_set (l : List Int) (n i : Nat) (h : l.length = 32) (hi : i < 32) (v : Int) : (barCells l n).setIfInBounds i (.int .i64 v) = barCells (l.set i v) n := by
  simp [barCells, List.set_append_left, h, hi, List.map_set]
theorem barCells_setN (l : List Int) (n m : Nat) (h : l.length = 32) : (barCells l n).setIfInBounds 32 (.int .i64 m) = barCells l m := by
  simp [barCells, List.set_append_right, h]
theorem barNew (w : World) : Calls Try.prog 23 #[] w fun e w' => e = .returned (.pointer (some ⟨w.heap.size, 0, none⟩)) ∧ BarAt w' w.heap.size 0 [] ∧ Ch [] w w' := by
  go_enter Try.func23, Try.ntmps23
  go_wp2
  go_ret
  exact ⟨rfl, ⟨List.replicate 32 0, rfl, by decide, rfl, rfl, Blk.new _ _ _⟩, (Ch.refl _ _).alloc _⟩
theorem barLenNil (w : World) : Calls Try.prog 27 #[.pointer none] w fun e w' => e = .returned (.int .i64 0) ∧ w' = w := by
  go_enter Try.func27, Try.ntmps27
  go_wp2
  go_ret
  exact ⟨rfl, rfl⟩
theorem barLen (b n : Nat) (xs : List Int) (w : World) (h : BarAt w b n xs) : Calls Try.prog 27 #[.pointer (some ⟨b, 0, none⟩)] w fun e w' => e = .returned (.int .i64 n) ∧ w' = w := by
  obtain ⟨l, h1, h2, h3, h4, h5⟩ := h
  have c := (h5.cell 32).trans (barCells_n l n h1)
  clear h3 h4
  go_enter Try.func27, Try.ntmps27
  go_wp2
  go_ret
  exact ⟨rfl, rfl⟩
theorem barPutFull (b : Nat) (xs : List Int) (u v : Int) (w : World) (h : BarAt w b 16 xs) : Calls Try.prog 24 #[.pointer (some ⟨b, 0, none⟩), .int .i64 u, .int .i64 v] w fun e w' => e = .returned (.bool false) ∧ w' = w := by
  obtain ⟨l, h1, h2, h3, h4, h5⟩ := h
  have c := (h5.cell 32).trans (barCells_n l 16 h1)
  clear h3 h4
  go_enter Try.func24, Try.ntmps24
  go_wp2
  go_ret
  exact ⟨rfl, rfl⟩
theorem barPutZero (b n : Nat) (xs : List Int) (w : World) (h : BarAt w b n xs) (hn : n < 16) : Calls Try.prog 24 #[.pointer (some ⟨b, 0, none⟩), .int .i64 0, .int .i64 0] w fun e w' => e = .returned (.bool true) ∧ Ch [] w w' := by
  obtain ⟨l, h1, h2, h3, h4, h5⟩ := h
  have c := (h5.cell 32).trans (barCells_n l n h1)
  have hne : ((n : Int) == 16) = false := by rw [beq_eq_false_iff_ne]; omega
  clear h3 h4
  go_enter Try.func24, Try.ntmps24
  go_wp2
  go_ret
  exact ⟨rfl, (Ch.refl _ _).alloc _⟩
theorem barPut (b n : Nat) (xs : List Int) (u v : Int) (w : World) (h : BarAt w b n xs) (hn : n < 16) (hu : ¬ u = 0) : Calls Try.prog 24 #[.pointer (some ⟨b, 0, none⟩), .int .i64 u, .int .i64 v] w fun e w' =>
    e = .returned (.bool true) ∧ BarAt w' b (n + 1) (xs ++ [u, v]) ∧ Ch [b] w w' := by
  obtain ⟨l, h1, h2, h3, h4, h5⟩ := h
  have c := (h5.cell 32).trans (barCells_n l n h1)
  have f1 := h5.frozen (2 * n)
  have f3 := h5.frozen (2 * n + 1)
  have f2 := h5.frozen 32
  have hne : ((n : Int) == 16) = false := by rw [beq_eq_false_iff_ne]; omega
  have hu' : (u == 0) = false := by rw [beq_eq_false_iff_ne]; exact hu
  have hlt := h5.lt
  have H3 := Lib.hid h3
  have H4 := Lib.hid h4
  clear h3 h4
  go_enter Try.func24, Try.ntmps24
  go_upto_region 5 with fail
  have b1 : (n : Int) < 16 := by omega
  have b0 : (0 : Int) ≤ n := by omega
  refine wp_region_tail 9 (by kernel_rfl) (by kernel_rfl) ?_
  simp only [List.take_succ_cons, List.take_zero, List.drop_succ_cons, List.drop_zero]
  repeat still_step
  refine wpStill_nil ?_
  obtain ⟨W, hW⟩ : ∃ W, (w.alloc (.cells #[.int .i64 u, .int .i64 v] 52)).drewN 1 = W := ⟨_, rfl⟩
  rw [hW]
  have g : Blk W b (barCells l n) 75 := by rw [← hW]; exact (h5.alloc _).drewN 1
  have hc : Ch [b] w W := by rw [← hW]; exact ((Ch.refl [b] w).alloc _).drewN 1
  clear hW c f1 f2 f3 hne hu'
  have k1 := (g.cell 32).trans (barCells_n l n h1)
  have q1 := g.frozen (n * 2)
  have q2 := g.frozen (n * 2 + 1)
  have q3 := g.frozen 32
  have z1 : W.cell? ⟨b, n * 2, none⟩ = some (.int .i64 l[n * 2]) := by rw [g.cell]; simp [barCells, List.getElem?_append_left, h1, show n * 2 < 32 by omega]
  have z2 : W.cell? ⟨b, n * 2 + 1, none⟩ = some (.int .i64 l[n * 2 + 1]) := by rw [g.cell]; simp [barCells, List.getElem?_append_left, h1, show n * 2 + 1 < 32 by omega]
  go_wp2
  go_ret
  refine ⟨rfl, ⟨(l.set (n * 2) u).set (n * 2 + 1) v, by simp [h1], by omega, ?_, ?_, ?_⟩, ((hc.setCell (.inl (by simp)) _).setCell (.inl (by simp)) _).setCell (.inl (by simp)) _⟩
  · rw [List.length_append, H3.out, List.length_cons, List.length_singleton]
    omega
  · rw [show 2 * (n + 1) = n * 2 + 1 + 1 by omega, List.take_succ_eq_append_getElem (by simp; omega), List.take_succ_eq_append_getElem (by simp; omega), ← H4.out, show 2 * n = n * 2 by omega]
    simp [List.take_set_of_le]
  · have := ((g.set (n * 2) (.int .i64 u)).set (n * 2 + 1) (.int .i64 v)).set 32 (.int .i64 ((n : Int) + 1))
    rw [barCells_set l n _ h1 (by omega), barCells_set _ n _ (by simpa using h1) (by omega), show ((n : Int) + 1) = ((n + 1 : Nat) : Int) by omega, barCells_setN _ n (n + 1) (by simpa using h1)] at this
    exact this
theorem barPut0 (b n : Nat) (xs : List Int) (v : Int) (w : World) (h : BarAt w b n xs) (hn : n < 16) (hu : ¬ v = 0) : Calls Try.prog 24 #[.pointer (some ⟨b, 0, none⟩), .int .i64 0, .int .i64 v] w fun e w' =>
    e = .returned (.bool true) ∧ BarAt w' b (n + 1) (xs ++ [0, v]) ∧ Ch [b] w w' := by
  obtain ⟨l, h1, h2, h3, h4, h5⟩ := h
  have c := (h5.cell 32).trans (barCells_n l n h1)
  have f1 := h5.frozen (2 * n)
  have f3 := h5.frozen (2 * n + 1)
  have f2 := h5.frozen 32
  have hne : ((n : Int) == 16) = false := by rw [beq_eq_false_iff_ne]; omega
  have hu' : (v == 0) = false := by rw [beq_eq_false_iff_ne]; exact hu
  have hlt := h5.lt
  have H3 := Lib.hid h3
  have H4 := Lib.hid h4
  clear h3 h4
  go_enter Try.func24, Try.ntmps24
  go_upto_region 5 with fail
  have b1 : (n : Int) < 16 := by omega
  have b0 : (0 : Int) ≤ n := by omega
  refine wp_region_tail 9 (by kernel_rfl) (by kernel_rfl) ?_
  simp only [List.take_succ_cons, List.take_zero, List.drop_succ_cons, List.drop_zero]
  repeat still_step
  refine wpStill_nil ?_
  obtain ⟨W, hW⟩ : ∃ W, (w.alloc (.cells #[.int .i64 0, .int .i64 v] 52)).drewN 1 = W := ⟨_, rfl⟩
  rw [hW]
  have g : Blk W b (barCells l n) 75 := by rw [← hW]; exact (h5.alloc _).drewN 1
  have hc : Ch [b] w W := by rw [← hW]; exact ((Ch.refl [b] w).alloc _).drewN 1
  clear hW c f1 f2 f3 hne hu'
  have k1 := (g.cell 32).trans (barCells_n l n h1)
  have q1 := g.frozen (n * 2)
  have q2 := g.frozen (n * 2 + 1)
  have q3 := g.frozen 32
  have z1 : W.cell? ⟨b, n * 2, none⟩ = some (.int .i64 l[n * 2]) := by rw [g.cell]; simp [barCells, List.getElem?_append_left, h1, show n * 2 < 32 by omega]
  have z2 : W.cell? ⟨b, n * 2 + 1, none⟩ = some (.int .i64 l[n * 2 + 1]) := by rw [g.cell]; simp [barCells, List.getElem?_append_left, h1, show n * 2 + 1 < 32 by omega]
  go_wp2
  go_ret
  refine ⟨rfl, ⟨(l.set (n * 2) 0).set (n * 2 + 1) v, by simp [h1], by omega, ?_, ?_, ?_⟩, ((hc.setCell (.inl (by simp)) _).setCell (.inl (by simp)) _).setCell (.inl (by simp)) _⟩
  · rw [List.length_append, H3.out, List.length_cons, List.length_singleton]
    omega
  · rw [show 2 * (n + 1) = n * 2 + 1 + 1 by omega, List.take_succ_eq_append_getElem (by simp; omega), List.take_succ_eq_append_getElem (by simp; omega), ← H4.out, show 2 * n = n * 2 by omega]
    simp [List.take_set_of_le]
  · have := ((g.set (n * 2) (.int .i64 0)).set (n * 2 + 1) (.int .i64 v)).set 32 (.int .i64 ((n : Int) + 1))
    rw [barCells_set l n _ h1 (by omega), barCells_set _ n _ (by simpa using h1) (by omega), show ((n : Int) + 1) = ((n + 1 : Nat) : Int) by omega, barCells_setN _ n (n + 1) (by simpa using h1)] at this
    exact this
end Go.Proofs.Ytalnkhcippcghaa
