/-
  No cell of these rows narrows 'for every input' (looked for: loops, veiled, ifaces, maps, wideKeys, modest, calm, conditions, laid).
  DERIVED. THE GIVEN ROWS OF THIS SEAT. 9 by the template 'for every input the law returns true; each argument reads behind the call as it read before'; 0 by the template 'total and deterministic' (their statements: YtebibdoekcophaaTotals.lean).
  GIVEN WITH THE SEED: the statements are not yours to turn. If you find one false, say at which input.
  Laid BY PROGRAM, IN A SANDBOX (cutbox-rows.mjs): the forced cells as the released guide's own fill.sh prints them over the translation ff0b581e8361ef08… (all of the seat's roots in one cut). By AI agents, Wed Nov 11 2026. No macro, syntax, notation, axiom, sorry.
-/
import Derived.Test.YtebibdoekcophaaChecked
import GoSem.Claim
import GoSem.ClaimJoined
import GoSem.ClaimMapViews
import Derived.JoinedTies
import Derived.KernelRfl
namespace Go.Proofs.Ytebibdoekcophaa
/- THE CELL 'sum', in the pinned program and in every row, IS THE sha256 OF THE DUMP (.gsa) THAT YtebibdoekcophaaProg.lean LOADS. Nothing in Lean hashes anything: it is a label: what it is worth is what the hold of that sum in a sandbox is worth. -/
noncomputable def Try.pinned : Pinned := { name := "ytebibdoekcophaa", sum := "ff0b581e8361ef08455ef97a9b21fe1a9e735c33125a4116ec1a83b960407489", checked := Try.checked }
namespace Rows
def none {H : Type} : Left H := { results := [], args := [] }

/-- 'treadmilllaw20.ScanChunks': WHATEVER THE INPUT: true; the input reads as it did. -/
def scanChunksSpec : ChangeSpec := { name := "scanChunks", fn := fun _ => fun
  | [d1, d2] => { results := [.lit (.bool true)], args := [d1, d2] }
  | _ => none }
def scanChunksRow : OpenClaim := { program := "ytebibdoekcophaa", sum := "ff0b581e8361ef08455ef97a9b21fe1a9e735c33125a4116ec1a83b960407489", func := "treadmill/treadmilllaw20.ScanChunks", spec := "scanChunks", unfollowed := true, recurses := true, apart := false }
def ScanChunksSaid : Prop := scanChunksRow.holds Try.pinned (OpenSpec.ofChange scanChunksSpec)

/-- ITS FALSE NEIGHBOUR: 'it returns false'. Refute it at one input. -/
def scanChunksWrong : ChangeSpec := { name := "scanChunks", fn := fun _ => fun
  | [d1, d2] => { results := [.lit (.bool false)], args := [d1, d2] }
  | _ => none }
def ScanChunksWrongFalsely : Prop := scanChunksRow.holds Try.pinned (OpenSpec.ofChange scanChunksWrong)

/-- 'treadmilllaw20.ScanNobody': WHATEVER THE INPUT: true; the input reads as it did. -/
def scanNobodySpec : ChangeSpec := { name := "scanNobody", fn := fun _ => fun
  | [d1, d2] => { results := [.lit (.bool true)], args := [d1, d2] }
  | _ => none }
def scanNobodyRow : OpenClaim := { program := "ytebibdoekcophaa", sum := "ff0b581e8361ef08455ef97a9b21fe1a9e735c33125a4116ec1a83b960407489", func := "treadmill/treadmilllaw20.ScanNobody", spec := "scanNobody", unfollowed := true, recurses := true, apart := false }
def ScanNobodySaid : Prop := scanNobodyRow.holds Try.pinned (OpenSpec.ofChange scanNobodySpec)

/-- ITS FALSE NEIGHBOUR: 'it returns false'. Refute it at one input. -/
def scanNobodyWrong : ChangeSpec := { name := "scanNobody", fn := fun _ => fun
  | [d1, d2] => { results := [.lit (.bool false)], args := [d1, d2] }
  | _ => none }
def ScanNobodyWrongFalsely : Prop := scanNobodyRow.holds Try.pinned (OpenSpec.ofChange scanNobodyWrong)

/-- 'treadmilllaw20.ScanApart': WHATEVER THE INPUT: true; the input reads as it did. -/
def scanApartSpec : ChangeSpec := { name := "scanApart", fn := fun _ => fun
  | [d1, d2, d3] => { results := [.lit (.bool true)], args := [d1, d2, d3] }
  | _ => none }
def scanApartRow : OpenClaim := { program := "ytebibdoekcophaa", sum := "ff0b581e8361ef08455ef97a9b21fe1a9e735c33125a4116ec1a83b960407489", func := "treadmill/treadmilllaw20.ScanApart", spec := "scanApart", unfollowed := true, recurses := true, apart := false }
def ScanApartSaid : Prop := scanApartRow.holds Try.pinned (OpenSpec.ofChange scanApartSpec)

/-- ITS FALSE NEIGHBOUR: 'it returns false'. Refute it at one input. -/
def scanApartWrong : ChangeSpec := { name := "scanApart", fn := fun _ => fun
  | [d1, d2, d3] => { results := [.lit (.bool false)], args := [d1, d2, d3] }
  | _ => none }
def ScanApartWrongFalsely : Prop := scanApartRow.holds Try.pinned (OpenSpec.ofChange scanApartWrong)

/-- 'treadmilllaw21.RootsEach': WHATEVER THE INPUT: true; the input reads as it did. -/
def rootsEachSpec : ChangeSpec := { name := "rootsEach", fn := fun _ => fun
  | [d1, d2] => { results := [.lit (.bool true)], args := [d1, d2] }
  | _ => none }
def rootsEachRow : OpenClaim := { program := "ytebibdoekcophaa", sum := "ff0b581e8361ef08455ef97a9b21fe1a9e735c33125a4116ec1a83b960407489", func := "treadmill/treadmilllaw21.RootsEach", spec := "rootsEach", apart := false }
def RootsEachSaid : Prop := rootsEachRow.holds Try.pinned (OpenSpec.ofChange rootsEachSpec)

/-- ITS FALSE NEIGHBOUR: 'it returns false'. Refute it at one input. -/
def rootsEachWrong : ChangeSpec := { name := "rootsEach", fn := fun _ => fun
  | [d1, d2] => { results := [.lit (.bool false)], args := [d1, d2] }
  | _ => none }
def RootsEachWrongFalsely : Prop := rootsEachRow.holds Try.pinned (OpenSpec.ofChange rootsEachWrong)

/-- 'treadmilllaw4.ClassTable': WHATEVER THE INPUT: true; the input reads as it did. -/
def classTableSpec : ChangeSpec := { name := "classTable", fn := fun _ => fun
  | [d1, d2] => { results := [.lit (.bool true)], args := [d1, d2] }
  | _ => none }
def classTableRow : OpenClaim := { program := "ytebibdoekcophaa", sum := "ff0b581e8361ef08455ef97a9b21fe1a9e735c33125a4116ec1a83b960407489", func := "treadmill/treadmilllaw4.ClassTable", spec := "classTable", apart := false }
def ClassTableSaid : Prop := classTableRow.holds Try.pinned (OpenSpec.ofChange classTableSpec)

/-- ITS FALSE NEIGHBOUR: 'it returns false'. Refute it at one input. -/
def classTableWrong : ChangeSpec := { name := "classTable", fn := fun _ => fun
  | [d1, d2] => { results := [.lit (.bool false)], args := [d1, d2] }
  | _ => none }
def ClassTableWrongFalsely : Prop := classTableRow.holds Try.pinned (OpenSpec.ofChange classTableWrong)

/-- 'treadmilllaw4.ClassLeast': WHATEVER THE INPUT: true; the input reads as it did. -/
def classLeastSpec : ChangeSpec := { name := "classLeast", fn := fun _ => fun
  | [d] => { results := [.lit (.bool true)], args := [d] }
  | _ => none }
def classLeastRow : OpenClaim := { program := "ytebibdoekcophaa", sum := "ff0b581e8361ef08455ef97a9b21fe1a9e735c33125a4116ec1a83b960407489", func := "treadmill/treadmilllaw4.ClassLeast", spec := "classLeast", apart := false }
def ClassLeastSaid : Prop := classLeastRow.holds Try.pinned (OpenSpec.ofChange classLeastSpec)

/-- ITS FALSE NEIGHBOUR: 'it returns false'. Refute it at one input. -/
def classLeastWrong : ChangeSpec := { name := "classLeast", fn := fun _ => fun
  | [d] => { results := [.lit (.bool false)], args := [d] }
  | _ => none }
def ClassLeastWrongFalsely : Prop := classLeastRow.holds Try.pinned (OpenSpec.ofChange classLeastWrong)

/-- 'treadmilllaw4.ClassRises': WHATEVER THE INPUT: true; the input reads as it did. -/
def classRisesSpec : ChangeSpec := { name := "classRises", fn := fun _ => fun
  | [d1, d2] => { results := [.lit (.bool true)], args := [d1, d2] }
  | _ => none }
def classRisesRow : OpenClaim := { program := "ytebibdoekcophaa", sum := "ff0b581e8361ef08455ef97a9b21fe1a9e735c33125a4116ec1a83b960407489", func := "treadmill/treadmilllaw4.ClassRises", spec := "classRises", apart := false }
def ClassRisesSaid : Prop := classRisesRow.holds Try.pinned (OpenSpec.ofChange classRisesSpec)

/-- ITS FALSE NEIGHBOUR: 'it returns false'. Refute it at one input. -/
def classRisesWrong : ChangeSpec := { name := "classRises", fn := fun _ => fun
  | [d1, d2] => { results := [.lit (.bool false)], args := [d1, d2] }
  | _ => none }
def ClassRisesWrongFalsely : Prop := classRisesRow.holds Try.pinned (OpenSpec.ofChange classRisesWrong)

/-- 'treadmilllaw21.RootsPlays': WHATEVER THE INPUT: true; the input reads as it did. -/
def rootsPlaysSpec : ChangeSpec := { name := "rootsPlays", fn := fun _ => fun
  | [d1, d2, d3] => { results := [.lit (.bool true)], args := [d1, d2, d3] }
  | _ => none }
def rootsPlaysRow : OpenClaim := { program := "ytebibdoekcophaa", sum := "ff0b581e8361ef08455ef97a9b21fe1a9e735c33125a4116ec1a83b960407489", func := "treadmill/treadmilllaw21.RootsPlays", spec := "rootsPlays", unfollowed := true, recurses := true, apart := false }
def RootsPlaysSaid : Prop := rootsPlaysRow.holds Try.pinned (OpenSpec.ofChange rootsPlaysSpec)

/-- ITS FALSE NEIGHBOUR: 'it returns false'. Refute it at one input. -/
def rootsPlaysWrong : ChangeSpec := { name := "rootsPlays", fn := fun _ => fun
  | [d1, d2, d3] => { results := [.lit (.bool false)], args := [d1, d2, d3] }
  | _ => none }
def RootsPlaysWrongFalsely : Prop := rootsPlaysRow.holds Try.pinned (OpenSpec.ofChange rootsPlaysWrong)

/-- 'treadmilllaw21.RootsAdds': WHATEVER THE INPUT: true; the input reads as it did. -/
def rootsAddsSpec : ChangeSpec := { name := "rootsAdds", fn := fun _ => fun
  | [d1, d2] => { results := [.lit (.bool true)], args := [d1, d2] }
  | _ => none }
def rootsAddsRow : OpenClaim := { program := "ytebibdoekcophaa", sum := "ff0b581e8361ef08455ef97a9b21fe1a9e735c33125a4116ec1a83b960407489", func := "treadmill/treadmilllaw21.RootsAdds", spec := "rootsAdds", unfollowed := true, recurses := true, apart := false }
def RootsAddsSaid : Prop := rootsAddsRow.holds Try.pinned (OpenSpec.ofChange rootsAddsSpec)

/-- ITS FALSE NEIGHBOUR: 'it returns false'. Refute it at one input. -/
def rootsAddsWrong : ChangeSpec := { name := "rootsAdds", fn := fun _ => fun
  | [d1, d2] => { results := [.lit (.bool false)], args := [d1, d2] }
  | _ => none }
def RootsAddsWrongFalsely : Prop := rootsAddsRow.holds Try.pinned (OpenSpec.ofChange rootsAddsWrong)

/- THE SECOND FORM. 'bulk': how many values and letters a reading holds, each counted each time it is reached (what is shared counts as often as it is met; a slice's spare places count too). A statement '..UptoSaid' is the law's where the arguments, and the package variables that the reading takes, are together of bulk at most 1048576: NARROWER than '..Said'. Prove '..Said' where nothing that the law and all that it calls make is longer than what came in: it says more and counts as full. Else prove '..UptoSaid'. A law counts once. -/
mutual
def uptoBulk {H : Type} : DataW H → Nat
  | .lit (.string bytes) => bytes.length + 1
  | .lit _ => 1
  | .nil => 1
  | .ptr d => uptoBulk d + 1
  | .slice elems spare => uptoBulkAll elems + uptoBulkAll spare + 1
  | .agg parts => uptoBulkAll parts + 1
  | .iface _ d => uptoBulk d + 1
  | .map entries => uptoBulkEntries entries + 1
  | .held _ => 1
def uptoBulkAll {H : Type} : List (DataW H) → Nat
  | [] => 0
  | d :: r => uptoBulk d + uptoBulkAll r
def uptoBulkEntries {H : Type} : List (Lit × DataW H) → Nat
  | [] => 0
  | x :: r => uptoBulkEntry x + uptoBulkEntries r
def uptoBulkEntry {H : Type} : Lit × DataW H → Nat
  | (.string bytes, d) => bytes.length + uptoBulk d + 1
  | (_, d) => uptoBulk d + 1
 end
def uptoSmall : (H : Type) → List (DataW H) → Bool := fun _ ds => decide (uptoBulkAll ds ≤ 1048576)
def OpenSpec.upto (s : _root_.Go.ChangeSpec) : _root_.Go.OpenSpec := { _root_.Go.OpenSpec.ofChange s with cond := some uptoSmall }

/-- 'treadmilllaw20.ScanChunks', WHERE WHAT IT READS IS OF BULK AT MOST 1048576: true; the input reads as it did. -/
def scanChunksUptoRow : OpenClaim := { program := "ytebibdoekcophaa", sum := "ff0b581e8361ef08455ef97a9b21fe1a9e735c33125a4116ec1a83b960407489", func := "treadmill/treadmilllaw20.ScanChunks", spec := "scanChunks", unfollowed := true, recurses := true, apart := false, narrowed := true }
def ScanChunksUptoSaid : Prop := scanChunksUptoRow.holds Try.pinned (OpenSpec.upto scanChunksSpec)

/-- 'treadmilllaw20.ScanNobody', WHERE WHAT IT READS IS OF BULK AT MOST 1048576: true; the input reads as it did. -/
def scanNobodyUptoRow : OpenClaim := { program := "ytebibdoekcophaa", sum := "ff0b581e8361ef08455ef97a9b21fe1a9e735c33125a4116ec1a83b960407489", func := "treadmill/treadmilllaw20.ScanNobody", spec := "scanNobody", unfollowed := true, recurses := true, apart := false, narrowed := true }
def ScanNobodyUptoSaid : Prop := scanNobodyUptoRow.holds Try.pinned (OpenSpec.upto scanNobodySpec)

/-- 'treadmilllaw20.ScanApart', WHERE WHAT IT READS IS OF BULK AT MOST 1048576: true; the input reads as it did. -/
def scanApartUptoRow : OpenClaim := { program := "ytebibdoekcophaa", sum := "ff0b581e8361ef08455ef97a9b21fe1a9e735c33125a4116ec1a83b960407489", func := "treadmill/treadmilllaw20.ScanApart", spec := "scanApart", unfollowed := true, recurses := true, apart := false, narrowed := true }
def ScanApartUptoSaid : Prop := scanApartUptoRow.holds Try.pinned (OpenSpec.upto scanApartSpec)

/-- 'treadmilllaw21.RootsEach', WHERE WHAT IT READS IS OF BULK AT MOST 1048576: true; the input reads as it did. -/
def rootsEachUptoRow : OpenClaim := { program := "ytebibdoekcophaa", sum := "ff0b581e8361ef08455ef97a9b21fe1a9e735c33125a4116ec1a83b960407489", func := "treadmill/treadmilllaw21.RootsEach", spec := "rootsEach", apart := false, narrowed := true }
def RootsEachUptoSaid : Prop := rootsEachUptoRow.holds Try.pinned (OpenSpec.upto rootsEachSpec)

/-- 'treadmilllaw4.ClassTable', WHERE WHAT IT READS IS OF BULK AT MOST 1048576: true; the input reads as it did. -/
def classTableUptoRow : OpenClaim := { program := "ytebibdoekcophaa", sum := "ff0b581e8361ef08455ef97a9b21fe1a9e735c33125a4116ec1a83b960407489", func := "treadmill/treadmilllaw4.ClassTable", spec := "classTable", apart := false, narrowed := true }
def ClassTableUptoSaid : Prop := classTableUptoRow.holds Try.pinned (OpenSpec.upto classTableSpec)

/-- 'treadmilllaw4.ClassLeast', WHERE WHAT IT READS IS OF BULK AT MOST 1048576: true; the input reads as it did. -/
def classLeastUptoRow : OpenClaim := { program := "ytebibdoekcophaa", sum := "ff0b581e8361ef08455ef97a9b21fe1a9e735c33125a4116ec1a83b960407489", func := "treadmill/treadmilllaw4.ClassLeast", spec := "classLeast", apart := false, narrowed := true }
def ClassLeastUptoSaid : Prop := classLeastUptoRow.holds Try.pinned (OpenSpec.upto classLeastSpec)

/-- 'treadmilllaw4.ClassRises', WHERE WHAT IT READS IS OF BULK AT MOST 1048576: true; the input reads as it did. -/
def classRisesUptoRow : OpenClaim := { program := "ytebibdoekcophaa", sum := "ff0b581e8361ef08455ef97a9b21fe1a9e735c33125a4116ec1a83b960407489", func := "treadmill/treadmilllaw4.ClassRises", spec := "classRises", apart := false, narrowed := true }
def ClassRisesUptoSaid : Prop := classRisesUptoRow.holds Try.pinned (OpenSpec.upto classRisesSpec)

/-- 'treadmilllaw21.RootsPlays', WHERE WHAT IT READS IS OF BULK AT MOST 1048576: true; the input reads as it did. -/
def rootsPlaysUptoRow : OpenClaim := { program := "ytebibdoekcophaa", sum := "ff0b581e8361ef08455ef97a9b21fe1a9e735c33125a4116ec1a83b960407489", func := "treadmill/treadmilllaw21.RootsPlays", spec := "rootsPlays", unfollowed := true, recurses := true, apart := false, narrowed := true }
def RootsPlaysUptoSaid : Prop := rootsPlaysUptoRow.holds Try.pinned (OpenSpec.upto rootsPlaysSpec)

/-- 'treadmilllaw21.RootsAdds', WHERE WHAT IT READS IS OF BULK AT MOST 1048576: true; the input reads as it did. -/
def rootsAddsUptoRow : OpenClaim := { program := "ytebibdoekcophaa", sum := "ff0b581e8361ef08455ef97a9b21fe1a9e735c33125a4116ec1a83b960407489", func := "treadmill/treadmilllaw21.RootsAdds", spec := "rootsAdds", unfollowed := true, recurses := true, apart := false, narrowed := true }
def RootsAddsUptoSaid : Prop := rootsAddsUptoRow.holds Try.pinned (OpenSpec.upto rootsAddsSpec)

end Rows
end Go.Proofs.Ytebibdoekcophaa
