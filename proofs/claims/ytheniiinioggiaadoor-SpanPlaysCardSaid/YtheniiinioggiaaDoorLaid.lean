/-
  What the row's condition gives the walks: the library's table in its cells; a start that meets it. Conditions: none beyond what each theorem names.
-/
import Derived.Test.YtheniiinioggiaaDoorRows
import Derived.Test.YtheniiinioggiaaDoorBits
import Derived.ProofKit
import Derived.LaidMore
import Derived.OpenShut
import Derived.Stop.Joined
namespace Go.Proofs.YtheniiinioggiaaDoor
open Go.ChangeShapes Go.WideShapes Go.ChangeAt Go.RowKit
def laidTab : List (String × DataW Unit) := [("math/bits.deBruijn64tab", Rows.laid_math_bits_deBruijn64tab)]
theorem gTab : Tryd.prog.globalNamed "math/bits.deBruijn64tab" = some 0 := by kernel_rfl
theorem tTab : (Tryd.prog.globals[0]?).map (·.type) = some 73 := by kernel_rfl
/-- The door's own heap meets the condition. -/
theorem door_met (os : Os) (args : Array Value) : laidMetH Tryd.prog laidTab ((World.doorLaid Tryd.prog 400 os).forCall (fun _ _ => 0) ⟨#[], args, []⟩).memory :=
  laidMetH_of_parts3 (fuel := 8) (laidMet_of_run' 8 (by kernel_rfl) (by kernel_rfl)) (by kernel_rfl) (by kernel_rfl)
theorem tab_lits : (Rows.laid_math_bits_deBruijn64tab : DataW Unit) = .agg (Lib.deBruijn64tab.map fun (x : Nat) => DataW.lit (.int .u8 (x : Int))) := by kernel_rfl
theorem of_laid {W : World} (h : laidMetH Tryd.prog laidTab W) : TabW W := by
  rw [MakeChecks.laidMetH_plain _ _ _ (by kernel_rfl)] at h
  obtain ⟨ps, ⟨g0, t0, cs0, f0, p0, q0, hg0, ht0, hv0, hd0, _⟩, _⟩ := h
  obtain rfl := Option.some.inj (gTab.symm.trans hg0)
  obtain rfl := Option.some.inj (tTab.symm.trans ht0)
  rw [tab_lits] at hd0
  obtain ⟨xs, m1, rfl, hx1, hlen, hn, hel⟩ := DataW.trod_array Tryd.underlying73 hd0
  have c1 : Tryd.prog.cellsOf 5 = 1 := by kernel_rfl
  have c64 : Tryd.prog.cellsOf 73 = 64 := by kernel_rfl
  simp only [Prod.mk.injEq, DataW.agg.injEq] at hx1
  have hcell := fun j => World.var?_cell gTab hv0 j
  have key : ∀ j, j < Lib.deBruijn64tab.length → W.cell? ⟨0, j, none⟩ = some (.int .u8 ((Lib.deBruijn64tab.getD j 0 : Nat) : Int)) := by
    intro j hj
    have hj64 : j < 64 := hj
    have h0 := hel j hj64
    rw [c1, Nat.mul_one] at h0
    have hxl : j < xs.length := by omega
    rw [List.getElem?_eq_getElem hxl] at h0
    have hx2 : (xs.map (·.1))[j]? = some (DataW.lit (.int .u8 ((Lib.deBruijn64tab.getD j 0 : Nat) : Int))) := by
      rw [← hx1.1, List.getElem?_map, List.getElem?_eq_getElem hj]
      simp [List.getD_eq_getElem?_getD, hj]
    rw [List.getElem?_map, List.getElem?_eq_getElem hxl] at hx2
    simp only [Option.map_some, Option.some.injEq] at hx2
    obtain ⟨k, e1, e2, _⟩ := DataW.trod_int Tryd.underlying5 h0
    rw [e2] at hx2
    simp only [DataW.lit.injEq, Lit.int.injEq, true_and] at hx2
    rw [hcell j, ← hx2]
    have h9 := congrArg (fun l => l[0]?) e1
    simpa using h9
  refine ⟨?_, key⟩
  have := key 0 (by decide)
  by_cases h : 0 < W.heap.size
  · exact h
  · have h2 : W.heap[0]? = none := Array.getElem?_eq_none (by omega)
    simp [World.cell?, h2] at this
end Go.Proofs.YtheniiinioggiaaDoor
