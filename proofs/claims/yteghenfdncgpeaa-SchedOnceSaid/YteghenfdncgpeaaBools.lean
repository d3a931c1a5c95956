/-
  A row of bools in memory; make of one. Conditions: none beyond what each theorem names.
-/
import Derived.Test.YteghenfdncgpeaaMem
import Derived.Test.YteghenfdncgpeaaInfo
import Derived.Laws.MakeOwn
namespace Go.Proofs.Yteghenfdncgpeaa
open Go.RowKit
def updB (f : Nat → Bool) (i : Nat) (v : Bool) : Nat → Bool := fun k => if k = i then v else f k
def noneB : Nat → Bool := fun _ => false
def bools (U : Nat → Bool) (n : Nat) : Array Value := ((List.range n).map fun i => Value.bool (U i)).toArray
theorem bools_at {U : Nat → Bool} {n i : Nat} (h : i < n) : (bools U n)[i]? = some (.bool (U i)) := by
  unfold bools
  simp [h]
theorem bools_set (U : Nat → Bool) (n i : Nat) (v : Bool) : (bools U n).setIfInBounds i (.bool v) = bools (updB U i v) n := by
  unfold bools
  apply Array.ext'
  apply List.ext_getElem
  · simp
  · intro m h1 h2
    simp only [List.setIfInBounds_toArray, List.getElem_set, List.getElem_map, List.getElem_range]
    unfold updB
    by_cases h : i = m
    · rw [if_pos h, if_pos h.symm]
    · rw [if_neg h, if_neg (fun e => h e.symm)]
theorem Try.infoBoolB : (Try.prog.info? 4).map (fun i => (i.zero, i.size, i.bytes)) = some (some (.bool false), 1, 1) := by kernel_rfl
theorem run_makeBools (w : World) (k : Nat) (h : k ≤ 1000000) : (Instr.makeSlice 64 (.int .i64 (k : Int)) (.int .i64 (k : Int))).run Try.prog w =
    .ok (.slice (some ⟨w.heap.size, 0, none⟩) k k) (w.alloc (.cells (bools noneB k) 4)) := by
  obtain ⟨i0, hi0, hz0, hz1, hz2⟩ := info_parts Try.infoBoolB
  have hr := run_makeSlice (P := Try.prog) w 64 4 i0 (.bool false) Try.underlying64 hi0 hz0 .i64 .i64 (k : Int) (k : Int) (by omega) (Int.le_refl _) (by rw [hz1]; omega) (by rw [hz2]; omega) (by omega)
  rw [hr, hz1]
  congr 1
  have : madeCells (Value.bool false).cells (((k : Int).toNat) * 1) = bools noneB k := by
    apply Array.ext'
    apply List.ext_getElem
    · simp [madeCells, bools]
    · intro n h1 h2
      simp [madeCells, Value.cells, Nat.mod_one, bools, noneB]
  rw [this]
end Go.Proofs.Yteghenfdncgpeaa
