/-
  A block that is a row of integers, all of it, and make of one. Conditions: none beyond what each theorem names.
-/
import Derived.Test.YteghenfdncgpeaaOwI
import Derived.Laws.MakeOwn
namespace Go.Proofs.Yteghenfdncgpeaa
open Go.RowKit
/-- Block g is the integers S, all of it. -/
def Row (w : World) (g : Nat) (S : List Int) : Prop := Blk w g (S.map (Value.int .i64)).toArray 3
theorem Row.keep {T : List Nat} {w w' : World} {g : Nat} {S : List Int} (h : Row w g S) (hc : Ch T w w') (hb : g ∉ T) : Row w' g S := Blk.keep h hc hb
theorem Row.cell {w : World} {g : Nat} {S : List Int} (h : Row w g S) (i : Nat) (hi : i < S.length) : w.cell? ⟨g, i, none⟩ = some (.int .i64 (gI S i)) := by
  rw [Blk.cell h, gI_at S i hi]
  simp [hi]
theorem Row.set {w : World} {g : Nat} {S : List Int} (h : Row w g S) (i : Nat) (v : Int) : Row (w.setCell ⟨g, i, none⟩ (.int .i64 v)) g (S.set i v) := by
  have := Blk.set h i (.int .i64 v)
  unfold Row
  simpa [List.map_set] using this
theorem Row.frozen {w : World} {g : Nat} {S : List Int} (h : Row w g S) (i : Nat) : w.frozen? ⟨g, i, none⟩ = false := Blk.frozen h i
theorem gI_set (S : List Int) (i x : Nat) (v : Int) (hi : i < S.length) : gI (S.set i v) x = if x = i then v else gI S x := by
  simp only [gI, List.getD_eq_getElem?_getD, List.getElem?_set]
  by_cases h : i = x
  · subst h; simp [hi]
  · rw [if_neg h, if_neg (fun e => h e.symm)]
theorem run_makeInts (w : World) (k : Nat) (h : k ≤ 1000000) : (Instr.makeSlice 25 (.int .i64 (k : Int)) (.int .i64 (k : Int))).run Try.prog w =
    .ok (.slice (some ⟨w.heap.size, 0, none⟩) k k) (w.alloc (.cells ((List.replicate k (0 : Int)).map (Value.int .i64)).toArray 3)) := by
  obtain ⟨i0, hi0, hz0, hz1, hz2⟩ := info_parts Try.infoInt
  have hr := run_makeSlice (P := Try.prog) w 25 3 i0 (.int .i64 0) Try.underlying25 hi0 hz0 .i64 .i64 (k : Int) (k : Int) (by omega) (Int.le_refl _) (by rw [hz1]; omega) (by rw [hz2]; omega) (by omega)
  rw [hr, hz1]
  congr 1
  have : madeCells (Value.int IntKind.i64 0).cells (((k : Int).toNat) * 1) = ((List.replicate k (0 : Int)).map (Value.int .i64)).toArray := by
    apply Array.ext'
    apply List.ext_getElem
    · simp [madeCells]
    · intro n h1 h2
      simp [madeCells, Value.cells, Nat.mod_one]
  rw [this]
end Go.Proofs.Yteghenfdncgpeaa
