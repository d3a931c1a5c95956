/-
  No cell of these rows narrows 'for every input' (looked for: loops, veiled, ifaces, maps, wideKeys, modest, calm, conditions, laid).
  DERIVED. THE GIVEN ROWS OF THIS SEAT. 13 by the template 'for every input the law returns true; each argument reads behind the call as it read before'; 0 by the template 'total and deterministic' (their statements: YteghenfdncgpeaaTotals.lean).
  GIVEN WITH THE SEED: the statements are not yours to turn. If you find one false, say at which input.
  Laid BY PROGRAM, IN A SANDBOX (cutbox-rows.mjs): the forced cells as the released guide's own fill.sh prints them over the translation 06cbdc5835203046… (all of the seat's roots in one cut). By AI agents, Wed Nov 11 2026. No macro, syntax, notation, axiom, sorry.
-/
import Derived.Test.YteghenfdncgpeaaChecked
import GoSem.Claim
import GoSem.ClaimJoined
import GoSem.ClaimMapViews
import Derived.JoinedTies
import Derived.KernelRfl
namespace Go.Proofs.Yteghenfdncgpeaa
/- THE CELL 'sum', in the pinned program and in every row, IS THE sha256 OF THE DUMP (.gsa) THAT YteghenfdncgpeaaProg.lean LOADS. Nothing in Lean hashes anything: it is a label: what it is worth is what the hold of that sum in a sandbox is worth. -/
noncomputable def Try.pinned : Pinned := { name := "yteghenfdncgpeaa", sum := "06cbdc5835203046c408083b05747912dac472545306d56b68080511dc29ee34", checked := Try.checked }
namespace Rows
def none {H : Type} : Left H := { results := [], args := [] }

/-- 'treadmilllaw10.RingKeeps': WHATEVER THE INPUT: true; the input reads as it did. -/
def ringKeepsSpec : ChangeSpec := { name := "ringKeeps", fn := fun _ => fun
  | [d1, d2] => { results := [.lit (.bool true)], args := [d1, d2] }
  | _ => none }
def ringKeepsRow : OpenClaim := { program := "yteghenfdncgpeaa", sum := "06cbdc5835203046c408083b05747912dac472545306d56b68080511dc29ee34", func := "treadmill/treadmilllaw10.RingKeeps", spec := "ringKeeps", apart := false }
def RingKeepsSaid : Prop := ringKeepsRow.holds Try.pinned (OpenSpec.ofChange ringKeepsSpec)

/-- ITS FALSE NEIGHBOUR: 'it returns false'. Refute it at one input. -/
def ringKeepsWrong : ChangeSpec := { name := "ringKeeps", fn := fun _ => fun
  | [d1, d2] => { results := [.lit (.bool false)], args := [d1, d2] }
  | _ => none }
def RingKeepsWrongFalsely : Prop := ringKeepsRow.holds Try.pinned (OpenSpec.ofChange ringKeepsWrong)

/-- 'treadmilllaw10.RingNexts': WHATEVER THE INPUT: true; the input reads as it did. -/
def ringNextsSpec : ChangeSpec := { name := "ringNexts", fn := fun _ => fun
  | [d1, d2] => { results := [.lit (.bool true)], args := [d1, d2] }
  | _ => none }
def ringNextsRow : OpenClaim := { program := "yteghenfdncgpeaa", sum := "06cbdc5835203046c408083b05747912dac472545306d56b68080511dc29ee34", func := "treadmill/treadmilllaw10.RingNexts", spec := "ringNexts", apart := false }
def RingNextsSaid : Prop := ringNextsRow.holds Try.pinned (OpenSpec.ofChange ringNextsSpec)

/-- ITS FALSE NEIGHBOUR: 'it returns false'. Refute it at one input. -/
def ringNextsWrong : ChangeSpec := { name := "ringNexts", fn := fun _ => fun
  | [d1, d2] => { results := [.lit (.bool false)], args := [d1, d2] }
  | _ => none }
def RingNextsWrongFalsely : Prop := ringNextsRow.holds Try.pinned (OpenSpec.ofChange ringNextsWrong)

/-- 'treadmilllaw10.RingSteals': WHATEVER THE INPUT: true; the input reads as it did. -/
def ringStealsSpec : ChangeSpec := { name := "ringSteals", fn := fun _ => fun
  | [d1, d2, d3] => { results := [.lit (.bool true)], args := [d1, d2, d3] }
  | _ => none }
def ringStealsRow : OpenClaim := { program := "yteghenfdncgpeaa", sum := "06cbdc5835203046c408083b05747912dac472545306d56b68080511dc29ee34", func := "treadmill/treadmilllaw10.RingSteals", spec := "ringSteals", apart := false }
def RingStealsSaid : Prop := ringStealsRow.holds Try.pinned (OpenSpec.ofChange ringStealsSpec)

/-- ITS FALSE NEIGHBOUR: 'it returns false'. Refute it at one input. -/
def ringStealsWrong : ChangeSpec := { name := "ringSteals", fn := fun _ => fun
  | [d1, d2, d3] => { results := [.lit (.bool false)], args := [d1, d2, d3] }
  | _ => none }
def RingStealsWrongFalsely : Prop := ringStealsRow.holds Try.pinned (OpenSpec.ofChange ringStealsWrong)

/-- 'treadmilllaw10.RingDels': WHATEVER THE INPUT: true; the input reads as it did. -/
def ringDelsSpec : ChangeSpec := { name := "ringDels", fn := fun _ => fun
  | [d1, d2] => { results := [.lit (.bool true)], args := [d1, d2] }
  | _ => none }
def ringDelsRow : OpenClaim := { program := "yteghenfdncgpeaa", sum := "06cbdc5835203046c408083b05747912dac472545306d56b68080511dc29ee34", func := "treadmill/treadmilllaw10.RingDels", spec := "ringDels", apart := false }
def RingDelsSaid : Prop := ringDelsRow.holds Try.pinned (OpenSpec.ofChange ringDelsSpec)

/-- ITS FALSE NEIGHBOUR: 'it returns false'. Refute it at one input. -/
def ringDelsWrong : ChangeSpec := { name := "ringDels", fn := fun _ => fun
  | [d1, d2] => { results := [.lit (.bool false)], args := [d1, d2] }
  | _ => none }
def RingDelsWrongFalsely : Prop := ringDelsRow.holds Try.pinned (OpenSpec.ofChange ringDelsWrong)

/-- 'treadmilllaw10.RingPlays': WHATEVER THE INPUT: true; the input reads as it did. -/
def ringPlaysSpec : ChangeSpec := { name := "ringPlays", fn := fun _ => fun
  | [d] => { results := [.lit (.bool true)], args := [d] }
  | _ => none }
def ringPlaysRow : OpenClaim := { program := "yteghenfdncgpeaa", sum := "06cbdc5835203046c408083b05747912dac472545306d56b68080511dc29ee34", func := "treadmill/treadmilllaw10.RingPlays", spec := "ringPlays", apart := false }
def RingPlaysSaid : Prop := ringPlaysRow.holds Try.pinned (OpenSpec.ofChange ringPlaysSpec)

/-- ITS FALSE NEIGHBOUR: 'it returns false'. Refute it at one input. -/
def ringPlaysWrong : ChangeSpec := { name := "ringPlays", fn := fun _ => fun
  | [d] => { results := [.lit (.bool false)], args := [d] }
  | _ => none }
def RingPlaysWrongFalsely : Prop := ringPlaysRow.holds Try.pinned (OpenSpec.ofChange ringPlaysWrong)

/-- 'treadmilllaw11.QueueFair': WHATEVER THE INPUT: true; the input reads as it did. -/
def queueFairSpec : ChangeSpec := { name := "queueFair", fn := fun _ => fun
  | [d1, d2, d3] => { results := [.lit (.bool true)], args := [d1, d2, d3] }
  | _ => none }
def queueFairRow : OpenClaim := { program := "yteghenfdncgpeaa", sum := "06cbdc5835203046c408083b05747912dac472545306d56b68080511dc29ee34", func := "treadmill/treadmilllaw11.QueueFair", spec := "queueFair", apart := false }
def QueueFairSaid : Prop := queueFairRow.holds Try.pinned (OpenSpec.ofChange queueFairSpec)

/-- ITS FALSE NEIGHBOUR: 'it returns false'. Refute it at one input. -/
def queueFairWrong : ChangeSpec := { name := "queueFair", fn := fun _ => fun
  | [d1, d2, d3] => { results := [.lit (.bool false)], args := [d1, d2, d3] }
  | _ => none }
def QueueFairWrongFalsely : Prop := queueFairRow.holds Try.pinned (OpenSpec.ofChange queueFairWrong)

/-- 'treadmilllaw11.QueuePlays': WHATEVER THE INPUT: true; the input reads as it did. -/
def queuePlaysSpec : ChangeSpec := { name := "queuePlays", fn := fun _ => fun
  | [d] => { results := [.lit (.bool true)], args := [d] }
  | _ => none }
def queuePlaysRow : OpenClaim := { program := "yteghenfdncgpeaa", sum := "06cbdc5835203046c408083b05747912dac472545306d56b68080511dc29ee34", func := "treadmill/treadmilllaw11.QueuePlays", spec := "queuePlays", apart := false }
def QueuePlaysSaid : Prop := queuePlaysRow.holds Try.pinned (OpenSpec.ofChange queuePlaysSpec)

/-- ITS FALSE NEIGHBOUR: 'it returns false'. Refute it at one input. -/
def queuePlaysWrong : ChangeSpec := { name := "queuePlays", fn := fun _ => fun
  | [d] => { results := [.lit (.bool false)], args := [d] }
  | _ => none }
def QueuePlaysWrongFalsely : Prop := queuePlaysRow.holds Try.pinned (OpenSpec.ofChange queuePlaysWrong)

/-- 'treadmilllaw11.QueueDels': WHATEVER THE INPUT: true; the input reads as it did. -/
def queueDelsSpec : ChangeSpec := { name := "queueDels", fn := fun _ => fun
  | [d1, d2] => { results := [.lit (.bool true)], args := [d1, d2] }
  | _ => none }
def queueDelsRow : OpenClaim := { program := "yteghenfdncgpeaa", sum := "06cbdc5835203046c408083b05747912dac472545306d56b68080511dc29ee34", func := "treadmill/treadmilllaw11.QueueDels", spec := "queueDels", apart := false }
def QueueDelsSaid : Prop := queueDelsRow.holds Try.pinned (OpenSpec.ofChange queueDelsSpec)

/-- ITS FALSE NEIGHBOUR: 'it returns false'. Refute it at one input. -/
def queueDelsWrong : ChangeSpec := { name := "queueDels", fn := fun _ => fun
  | [d1, d2] => { results := [.lit (.bool false)], args := [d1, d2] }
  | _ => none }
def QueueDelsWrongFalsely : Prop := queueDelsRow.holds Try.pinned (OpenSpec.ofChange queueDelsWrong)

/-- 'treadmilllaw27.SchedOnce': WHATEVER THE INPUT: true; the input reads as it did. -/
def schedOnceSpec : ChangeSpec := { name := "schedOnce", fn := fun _ => fun
  | [d1, d2, d3] => { results := [.lit (.bool true)], args := [d1, d2, d3] }
  | _ => none }
def schedOnceRow : OpenClaim := { program := "yteghenfdncgpeaa", sum := "06cbdc5835203046c408083b05747912dac472545306d56b68080511dc29ee34", func := "treadmill/treadmilllaw27.SchedOnce", spec := "schedOnce", unfollowed := true, recurses := true, apart := false }
def SchedOnceSaid : Prop := schedOnceRow.holds Try.pinned (OpenSpec.ofChange schedOnceSpec)

/-- ITS FALSE NEIGHBOUR: 'it returns false'. Refute it at one input. -/
def schedOnceWrong : ChangeSpec := { name := "schedOnce", fn := fun _ => fun
  | [d1, d2, d3] => { results := [.lit (.bool false)], args := [d1, d2, d3] }
  | _ => none }
def SchedOnceWrongFalsely : Prop := schedOnceRow.holds Try.pinned (OpenSpec.ofChange schedOnceWrong)

/-- 'treadmilllaw27.SchedCommon': WHATEVER THE INPUT: true; the input reads as it did. -/
def schedCommonSpec : ChangeSpec := { name := "schedCommon", fn := fun _ => fun
  | [d1, d2] => { results := [.lit (.bool true)], args := [d1, d2] }
  | _ => none }
def schedCommonRow : OpenClaim := { program := "yteghenfdncgpeaa", sum := "06cbdc5835203046c408083b05747912dac472545306d56b68080511dc29ee34", func := "treadmill/treadmilllaw27.SchedCommon", spec := "schedCommon", unfollowed := true, recurses := true, apart := false }
def SchedCommonSaid : Prop := schedCommonRow.holds Try.pinned (OpenSpec.ofChange schedCommonSpec)

/-- ITS FALSE NEIGHBOUR: 'it returns false'. Refute it at one input. -/
def schedCommonWrong : ChangeSpec := { name := "schedCommon", fn := fun _ => fun
  | [d1, d2] => { results := [.lit (.bool false)], args := [d1, d2] }
  | _ => none }
def SchedCommonWrongFalsely : Prop := schedCommonRow.holds Try.pinned (OpenSpec.ofChange schedCommonWrong)

/-- 'treadmilllaw27.SchedSteals': WHATEVER THE INPUT: true; the input reads as it did. -/
def schedStealsSpec : ChangeSpec := { name := "schedSteals", fn := fun _ => fun
  | [d1, d2] => { results := [.lit (.bool true)], args := [d1, d2] }
  | _ => none }
def schedStealsRow : OpenClaim := { program := "yteghenfdncgpeaa", sum := "06cbdc5835203046c408083b05747912dac472545306d56b68080511dc29ee34", func := "treadmill/treadmilllaw27.SchedSteals", spec := "schedSteals", unfollowed := true, recurses := true, apart := false }
def SchedStealsSaid : Prop := schedStealsRow.holds Try.pinned (OpenSpec.ofChange schedStealsSpec)

/-- ITS FALSE NEIGHBOUR: 'it returns false'. Refute it at one input. -/
def schedStealsWrong : ChangeSpec := { name := "schedSteals", fn := fun _ => fun
  | [d1, d2] => { results := [.lit (.bool false)], args := [d1, d2] }
  | _ => none }
def SchedStealsWrongFalsely : Prop := schedStealsRow.holds Try.pinned (OpenSpec.ofChange schedStealsWrong)

/-- 'treadmilllaw27.SchedDrops': WHATEVER THE INPUT: true; the input reads as it did. -/
def schedDropsSpec : ChangeSpec := { name := "schedDrops", fn := fun _ => fun
  | [d1, d2] => { results := [.lit (.bool true)], args := [d1, d2] }
  | _ => none }
def schedDropsRow : OpenClaim := { program := "yteghenfdncgpeaa", sum := "06cbdc5835203046c408083b05747912dac472545306d56b68080511dc29ee34", func := "treadmill/treadmilllaw27.SchedDrops", spec := "schedDrops", unfollowed := true, recurses := true, apart := false }
def SchedDropsSaid : Prop := schedDropsRow.holds Try.pinned (OpenSpec.ofChange schedDropsSpec)

/-- ITS FALSE NEIGHBOUR: 'it returns false'. Refute it at one input. -/
def schedDropsWrong : ChangeSpec := { name := "schedDrops", fn := fun _ => fun
  | [d1, d2] => { results := [.lit (.bool false)], args := [d1, d2] }
  | _ => none }
def SchedDropsWrongFalsely : Prop := schedDropsRow.holds Try.pinned (OpenSpec.ofChange schedDropsWrong)

/-- 'treadmilllaw27.SchedPlays': WHATEVER THE INPUT: true; the input reads as it did. -/
def schedPlaysSpec : ChangeSpec := { name := "schedPlays", fn := fun _ => fun
  | [d1, d2] => { results := [.lit (.bool true)], args := [d1, d2] }
  | _ => none }
def schedPlaysRow : OpenClaim := { program := "yteghenfdncgpeaa", sum := "06cbdc5835203046c408083b05747912dac472545306d56b68080511dc29ee34", func := "treadmill/treadmilllaw27.SchedPlays", spec := "schedPlays", unfollowed := true, recurses := true, apart := false }
def SchedPlaysSaid : Prop := schedPlaysRow.holds Try.pinned (OpenSpec.ofChange schedPlaysSpec)

/-- ITS FALSE NEIGHBOUR: 'it returns false'. Refute it at one input. -/
def schedPlaysWrong : ChangeSpec := { name := "schedPlays", fn := fun _ => fun
  | [d1, d2] => { results := [.lit (.bool false)], args := [d1, d2] }
  | _ => none }
def SchedPlaysWrongFalsely : Prop := schedPlaysRow.holds Try.pinned (OpenSpec.ofChange schedPlaysWrong)

/- THE SECOND FORM. 'bulk': how many values and letters a reading holds, each counted each time it is reached (what is shared counts as often as it is met; a slice's spare places count too). A statement '..UptoSaid' is the law's where the arguments, and the package variables that the reading takes, are together of bulk at most 1048576: NARROWER than '..Said'. Prove '..Said' where nothing that the law and all that it calls make is longer than what came in: it says more and counts as full. Else prove '..UptoSaid'. A law counts once. -/
mutual
def uptoBulk {H : Type} : DataW H → Nat
  | .lit (.string bytes) => bytes.length + 1
  | .lit _ => 1
  | .nil => 1
  | .ptr d => uptoBulk d + 1
  | .slice elems spare => uptoBulkAll elems + uptoBulkAll spare + 1
  | .agg parts => uptoBulkAll parts + 1
  | .iface _ d => uptoBulk d + 1
  | .map entries => uptoBulkEntries entries + 1
  | .held _ => 1
def uptoBulkAll {H : Type} : List (DataW H) → Nat
  | [] => 0
  | d :: r => uptoBulk d + uptoBulkAll r
def uptoBulkEntries {H : Type} : List (Lit × DataW H) → Nat
  | [] => 0
  | x :: r => uptoBulkEntry x + uptoBulkEntries r
def uptoBulkEntry {H : Type} : Lit × DataW H → Nat
  | (.string bytes, d) => bytes.length + uptoBulk d + 1
  | (_, d) => uptoBulk d + 1
 end
def uptoSmall : (H : Type) → List (DataW H) → Bool := fun _ ds => decide (uptoBulkAll ds ≤ 1048576)
def OpenSpec.upto (s : _root_.Go.ChangeSpec) : _root_.Go.OpenSpec := { _root_.Go.OpenSpec.ofChange s with cond := some uptoSmall }

/-- 'treadmilllaw10.RingKeeps', WHERE WHAT IT READS IS OF BULK AT MOST 1048576: true; the input reads as it did. -/
def ringKeepsUptoRow : OpenClaim := { program := "yteghenfdncgpeaa", sum := "06cbdc5835203046c408083b05747912dac472545306d56b68080511dc29ee34", func := "treadmill/treadmilllaw10.RingKeeps", spec := "ringKeeps", apart := false, narrowed := true }
def RingKeepsUptoSaid : Prop := ringKeepsUptoRow.holds Try.pinned (OpenSpec.upto ringKeepsSpec)

/-- 'treadmilllaw10.RingNexts', WHERE WHAT IT READS IS OF BULK AT MOST 1048576: true; the input reads as it did. -/
def ringNextsUptoRow : OpenClaim := { program := "yteghenfdncgpeaa", sum := "06cbdc5835203046c408083b05747912dac472545306d56b68080511dc29ee34", func := "treadmill/treadmilllaw10.RingNexts", spec := "ringNexts", apart := false, narrowed := true }
def RingNextsUptoSaid : Prop := ringNextsUptoRow.holds Try.pinned (OpenSpec.upto ringNextsSpec)

/-- 'treadmilllaw10.RingSteals', WHERE WHAT IT READS IS OF BULK AT MOST 1048576: true; the input reads as it did. -/
def ringStealsUptoRow : OpenClaim := { program := "yteghenfdncgpeaa", sum := "06cbdc5835203046c408083b05747912dac472545306d56b68080511dc29ee34", func := "treadmill/treadmilllaw10.RingSteals", spec := "ringSteals", apart := false, narrowed := true }
def RingStealsUptoSaid : Prop := ringStealsUptoRow.holds Try.pinned (OpenSpec.upto ringStealsSpec)

/-- 'treadmilllaw10.RingDels', WHERE WHAT IT READS IS OF BULK AT MOST 1048576: true; the input reads as it did. -/
def ringDelsUptoRow : OpenClaim := { program := "yteghenfdncgpeaa", sum := "06cbdc5835203046c408083b05747912dac472545306d56b68080511dc29ee34", func := "treadmill/treadmilllaw10.RingDels", spec := "ringDels", apart := false, narrowed := true }
def RingDelsUptoSaid : Prop := ringDelsUptoRow.holds Try.pinned (OpenSpec.upto ringDelsSpec)

/-- 'treadmilllaw10.RingPlays', WHERE WHAT IT READS IS OF BULK AT MOST 1048576: true; the input reads as it did. -/
def ringPlaysUptoRow : OpenClaim := { program := "yteghenfdncgpeaa", sum := "06cbdc5835203046c408083b05747912dac472545306d56b68080511dc29ee34", func := "treadmill/treadmilllaw10.RingPlays", spec := "ringPlays", apart := false, narrowed := true }
def RingPlaysUptoSaid : Prop := ringPlaysUptoRow.holds Try.pinned (OpenSpec.upto ringPlaysSpec)

/-- 'treadmilllaw11.QueueFair', WHERE WHAT IT READS IS OF BULK AT MOST 1048576: true; the input reads as it did. -/
def queueFairUptoRow : OpenClaim := { program := "yteghenfdncgpeaa", sum := "06cbdc5835203046c408083b05747912dac472545306d56b68080511dc29ee34", func := "treadmill/treadmilllaw11.QueueFair", spec := "queueFair", apart := false, narrowed := true }
def QueueFairUptoSaid : Prop := queueFairUptoRow.holds Try.pinned (OpenSpec.upto queueFairSpec)

/-- 'treadmilllaw11.QueuePlays', WHERE WHAT IT READS IS OF BULK AT MOST 1048576: true; the input reads as it did. -/
def queuePlaysUptoRow : OpenClaim := { program := "yteghenfdncgpeaa", sum := "06cbdc5835203046c408083b05747912dac472545306d56b68080511dc29ee34", func := "treadmill/treadmilllaw11.QueuePlays", spec := "queuePlays", apart := false, narrowed := true }
def QueuePlaysUptoSaid : Prop := queuePlaysUptoRow.holds Try.pinned (OpenSpec.upto queuePlaysSpec)

/-- 'treadmilllaw11.QueueDels', WHERE WHAT IT READS IS OF BULK AT MOST 1048576: true; the input reads as it did. -/
def queueDelsUptoRow : OpenClaim := { program := "yteghenfdncgpeaa", sum := "06cbdc5835203046c408083b05747912dac472545306d56b68080511dc29ee34", func := "treadmill/treadmilllaw11.QueueDels", spec := "queueDels", apart := false, narrowed := true }
def QueueDelsUptoSaid : Prop := queueDelsUptoRow.holds Try.pinned (OpenSpec.upto queueDelsSpec)

/-- 'treadmilllaw27.SchedOnce', WHERE WHAT IT READS IS OF BULK AT MOST 1048576: true; the input reads as it did. -/
def schedOnceUptoRow : OpenClaim := { program := "yteghenfdncgpeaa", sum := "06cbdc5835203046c408083b05747912dac472545306d56b68080511dc29ee34", func := "treadmill/treadmilllaw27.SchedOnce", spec := "schedOnce", unfollowed := true, recurses := true, apart := false, narrowed := true }
def SchedOnceUptoSaid : Prop := schedOnceUptoRow.holds Try.pinned (OpenSpec.upto schedOnceSpec)

/-- 'treadmilllaw27.SchedCommon', WHERE WHAT IT READS IS OF BULK AT MOST 1048576: true; the input reads as it did. -/
def schedCommonUptoRow : OpenClaim := { program := "yteghenfdncgpeaa", sum := "06cbdc5835203046c408083b05747912dac472545306d56b68080511dc29ee34", func := "treadmill/treadmilllaw27.SchedCommon", spec := "schedCommon", unfollowed := true, recurses := true, apart := false, narrowed := true }
def SchedCommonUptoSaid : Prop := schedCommonUptoRow.holds Try.pinned (OpenSpec.upto schedCommonSpec)

/-- 'treadmilllaw27.SchedSteals', WHERE WHAT IT READS IS OF BULK AT MOST 1048576: true; the input reads as it did. -/
def schedStealsUptoRow : OpenClaim := { program := "yteghenfdncgpeaa", sum := "06cbdc5835203046c408083b05747912dac472545306d56b68080511dc29ee34", func := "treadmill/treadmilllaw27.SchedSteals", spec := "schedSteals", unfollowed := true, recurses := true, apart := false, narrowed := true }
def SchedStealsUptoSaid : Prop := schedStealsUptoRow.holds Try.pinned (OpenSpec.upto schedStealsSpec)

/-- 'treadmilllaw27.SchedDrops', WHERE WHAT IT READS IS OF BULK AT MOST 1048576: true; the input reads as it did. -/
def schedDropsUptoRow : OpenClaim := { program := "yteghenfdncgpeaa", sum := "06cbdc5835203046c408083b05747912dac472545306d56b68080511dc29ee34", func := "treadmill/treadmilllaw27.SchedDrops", spec := "schedDrops", unfollowed := true, recurses := true, apart := false, narrowed := true }
def SchedDropsUptoSaid : Prop := schedDropsUptoRow.holds Try.pinned (OpenSpec.upto schedDropsSpec)

/-- 'treadmilllaw27.SchedPlays', WHERE WHAT IT READS IS OF BULK AT MOST 1048576: true; the input reads as it did. -/
def schedPlaysUptoRow : OpenClaim := { program := "yteghenfdncgpeaa", sum := "06cbdc5835203046c408083b05747912dac472545306d56b68080511dc29ee34", func := "treadmill/treadmilllaw27.SchedPlays", spec := "schedPlays", unfollowed := true, recurses := true, apart := false, narrowed := true }
def SchedPlaysUptoSaid : Prop := schedPlaysUptoRow.holds Try.pinned (OpenSpec.upto schedPlaysSpec)

end Rows
end Go.Proofs.Yteghenfdncgpeaa
