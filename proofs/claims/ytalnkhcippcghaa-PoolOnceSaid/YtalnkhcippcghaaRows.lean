/-
  No cell of these rows narrows 'for every input' (looked for: loops, veiled, ifaces, maps, wideKeys, modest, calm, conditions, laid).
  DERIVED. THE GIVEN ROWS OF THIS SEAT. 9 by the template 'for every input the law returns true; each argument reads behind the call as it read before'; 0 by the template 'total and deterministic' (their statements: YtalnkhcippcghaaTotals.lean).
  GIVEN WITH THE SEED: the statements are not yours to turn. If you find one false, say at which input.
  Laid BY PROGRAM, IN A SANDBOX (cutbox-rows.mjs): the forced cells as the released guide's own fill.sh prints them over the translation 6f65d79033745da6… (all of the seat's roots in one cut). By AI agents, Wed Nov 11 2026. No macro, syntax, notation, axiom, sorry.
-/
import Derived.Test.YtalnkhcippcghaaChecked
import GoSem.Claim
import GoSem.ClaimJoined
import GoSem.ClaimMapViews
import Derived.JoinedTies
import Derived.KernelRfl
namespace Go.Proofs.Ytalnkhcippcghaa
/- THE CELL 'sum', in the pinned program and in every row, IS THE sha256 OF THE DUMP (.gsa) THAT YtalnkhcippcghaaProg.lean LOADS. Nothing in Lean hashes anything: it is a label: what it is worth is what the hold of that sum in a sandbox is worth. -/
noncomputable def Try.pinned : Pinned := { name := "ytalnkhcippcghaa", sum := "6f65d79033745da6c38d3b370860cd73bb5ce25823dbbcd449344e0d240070af", checked := Try.checked }
namespace Rows
def none {H : Type} : Left H := { results := [], args := [] }

/-- 'treadmilllaw17.BufferPlays': WHATEVER THE INPUT: true; the input reads as it did. -/
def bufferPlaysSpec : ChangeSpec := { name := "bufferPlays", fn := fun _ => fun
  | [d] => { results := [.lit (.bool true)], args := [d] }
  | _ => none }
def bufferPlaysRow : OpenClaim := { program := "ytalnkhcippcghaa", sum := "6f65d79033745da6c38d3b370860cd73bb5ce25823dbbcd449344e0d240070af", func := "treadmill/treadmilllaw17.BufferPlays", spec := "bufferPlays", apart := false }
def BufferPlaysSaid : Prop := bufferPlaysRow.holds Try.pinned (OpenSpec.ofChange bufferPlaysSpec)

/-- ITS FALSE NEIGHBOUR: 'it returns false'. Refute it at one input. -/
def bufferPlaysWrong : ChangeSpec := { name := "bufferPlays", fn := fun _ => fun
  | [d] => { results := [.lit (.bool false)], args := [d] }
  | _ => none }
def BufferPlaysWrongFalsely : Prop := bufferPlaysRow.holds Try.pinned (OpenSpec.ofChange bufferPlaysWrong)

/-- 'treadmilllaw17.BufferStack': WHATEVER THE INPUT: true; the input reads as it did. -/
def bufferStackSpec : ChangeSpec := { name := "bufferStack", fn := fun _ => fun
  | [d1, d2] => { results := [.lit (.bool true)], args := [d1, d2] }
  | _ => none }
def bufferStackRow : OpenClaim := { program := "ytalnkhcippcghaa", sum := "6f65d79033745da6c38d3b370860cd73bb5ce25823dbbcd449344e0d240070af", func := "treadmill/treadmilllaw17.BufferStack", spec := "bufferStack", apart := false }
def BufferStackSaid : Prop := bufferStackRow.holds Try.pinned (OpenSpec.ofChange bufferStackSpec)

/-- ITS FALSE NEIGHBOUR: 'it returns false'. Refute it at one input. -/
def bufferStackWrong : ChangeSpec := { name := "bufferStack", fn := fun _ => fun
  | [d1, d2] => { results := [.lit (.bool false)], args := [d1, d2] }
  | _ => none }
def BufferStackWrongFalsely : Prop := bufferStackRow.holds Try.pinned (OpenSpec.ofChange bufferStackWrong)

/-- 'treadmilllaw17.BufferHalves': WHATEVER THE INPUT: true; the input reads as it did. -/
def bufferHalvesSpec : ChangeSpec := { name := "bufferHalves", fn := fun _ => fun
  | [d] => { results := [.lit (.bool true)], args := [d] }
  | _ => none }
def bufferHalvesRow : OpenClaim := { program := "ytalnkhcippcghaa", sum := "6f65d79033745da6c38d3b370860cd73bb5ce25823dbbcd449344e0d240070af", func := "treadmill/treadmilllaw17.BufferHalves", spec := "bufferHalves", apart := false }
def BufferHalvesSaid : Prop := bufferHalvesRow.holds Try.pinned (OpenSpec.ofChange bufferHalvesSpec)

/-- ITS FALSE NEIGHBOUR: 'it returns false'. Refute it at one input. -/
def bufferHalvesWrong : ChangeSpec := { name := "bufferHalves", fn := fun _ => fun
  | [d] => { results := [.lit (.bool false)], args := [d] }
  | _ => none }
def BufferHalvesWrongFalsely : Prop := bufferHalvesRow.holds Try.pinned (OpenSpec.ofChange bufferHalvesWrong)

/-- 'treadmilllaw19.BarrierPlays': WHATEVER THE INPUT: true; the input reads as it did. -/
def barrierPlaysSpec : ChangeSpec := { name := "barrierPlays", fn := fun _ => fun
  | [d1, d2] => { results := [.lit (.bool true)], args := [d1, d2] }
  | _ => none }
def barrierPlaysRow : OpenClaim := { program := "ytalnkhcippcghaa", sum := "6f65d79033745da6c38d3b370860cd73bb5ce25823dbbcd449344e0d240070af", func := "treadmill/treadmilllaw19.BarrierPlays", spec := "barrierPlays", apart := false }
def BarrierPlaysSaid : Prop := barrierPlaysRow.holds Try.pinned (OpenSpec.ofChange barrierPlaysSpec)

/-- ITS FALSE NEIGHBOUR: 'it returns false'. Refute it at one input. -/
def barrierPlaysWrong : ChangeSpec := { name := "barrierPlays", fn := fun _ => fun
  | [d1, d2] => { results := [.lit (.bool false)], args := [d1, d2] }
  | _ => none }
def BarrierPlaysWrongFalsely : Prop := barrierPlaysRow.holds Try.pinned (OpenSpec.ofChange barrierPlaysWrong)

/-- 'treadmilllaw19.BarrierTells': WHATEVER THE INPUT: true; the input reads as it did. -/
def barrierTellsSpec : ChangeSpec := { name := "barrierTells", fn := fun _ => fun
  | [d] => { results := [.lit (.bool true)], args := [d] }
  | _ => none }
def barrierTellsRow : OpenClaim := { program := "ytalnkhcippcghaa", sum := "6f65d79033745da6c38d3b370860cd73bb5ce25823dbbcd449344e0d240070af", func := "treadmill/treadmilllaw19.BarrierTells", spec := "barrierTells", apart := false }
def BarrierTellsSaid : Prop := barrierTellsRow.holds Try.pinned (OpenSpec.ofChange barrierTellsSpec)

/-- ITS FALSE NEIGHBOUR: 'it returns false'. Refute it at one input. -/
def barrierTellsWrong : ChangeSpec := { name := "barrierTells", fn := fun _ => fun
  | [d] => { results := [.lit (.bool false)], args := [d] }
  | _ => none }
def BarrierTellsWrongFalsely : Prop := barrierTellsRow.holds Try.pinned (OpenSpec.ofChange barrierTellsWrong)

/-- 'treadmilllaw19.BarrierFulls': WHATEVER THE INPUT: true; the input reads as it did. -/
def barrierFullsSpec : ChangeSpec := { name := "barrierFulls", fn := fun _ => fun
  | [d] => { results := [.lit (.bool true)], args := [d] }
  | _ => none }
def barrierFullsRow : OpenClaim := { program := "ytalnkhcippcghaa", sum := "6f65d79033745da6c38d3b370860cd73bb5ce25823dbbcd449344e0d240070af", func := "treadmill/treadmilllaw19.BarrierFulls", spec := "barrierFulls", apart := false }
def BarrierFullsSaid : Prop := barrierFullsRow.holds Try.pinned (OpenSpec.ofChange barrierFullsSpec)

/-- ITS FALSE NEIGHBOUR: 'it returns false'. Refute it at one input. -/
def barrierFullsWrong : ChangeSpec := { name := "barrierFulls", fn := fun _ => fun
  | [d] => { results := [.lit (.bool false)], args := [d] }
  | _ => none }
def BarrierFullsWrongFalsely : Prop := barrierFullsRow.holds Try.pinned (OpenSpec.ofChange barrierFullsWrong)

/-- 'treadmilllaw18.PoolFlags': WHATEVER THE INPUT: true; the input reads as it did. -/
def poolFlagsSpec : ChangeSpec := { name := "poolFlags", fn := fun _ => fun
  | [d] => { results := [.lit (.bool true)], args := [d] }
  | _ => none }
def poolFlagsRow : OpenClaim := { program := "ytalnkhcippcghaa", sum := "6f65d79033745da6c38d3b370860cd73bb5ce25823dbbcd449344e0d240070af", func := "treadmill/treadmilllaw18.PoolFlags", spec := "poolFlags", apart := false }
def PoolFlagsSaid : Prop := poolFlagsRow.holds Try.pinned (OpenSpec.ofChange poolFlagsSpec)

/-- ITS FALSE NEIGHBOUR: 'it returns false'. Refute it at one input. -/
def poolFlagsWrong : ChangeSpec := { name := "poolFlags", fn := fun _ => fun
  | [d] => { results := [.lit (.bool false)], args := [d] }
  | _ => none }
def PoolFlagsWrongFalsely : Prop := poolFlagsRow.holds Try.pinned (OpenSpec.ofChange poolFlagsWrong)

/-- 'treadmilllaw18.PoolOnce': WHATEVER THE INPUT: true; the input reads as it did. -/
def poolOnceSpec : ChangeSpec := { name := "poolOnce", fn := fun _ => fun
  | [d1, d2, d3] => { results := [.lit (.bool true)], args := [d1, d2, d3] }
  | _ => none }
def poolOnceRow : OpenClaim := { program := "ytalnkhcippcghaa", sum := "6f65d79033745da6c38d3b370860cd73bb5ce25823dbbcd449344e0d240070af", func := "treadmill/treadmilllaw18.PoolOnce", spec := "poolOnce", apart := false }
def PoolOnceSaid : Prop := poolOnceRow.holds Try.pinned (OpenSpec.ofChange poolOnceSpec)

/-- ITS FALSE NEIGHBOUR: 'it returns false'. Refute it at one input. -/
def poolOnceWrong : ChangeSpec := { name := "poolOnce", fn := fun _ => fun
  | [d1, d2, d3] => { results := [.lit (.bool false)], args := [d1, d2, d3] }
  | _ => none }
def PoolOnceWrongFalsely : Prop := poolOnceRow.holds Try.pinned (OpenSpec.ofChange poolOnceWrong)

/-- 'treadmilllaw18.PoolLists': WHATEVER THE INPUT: true; the input reads as it did. -/
def poolListsSpec : ChangeSpec := { name := "poolLists", fn := fun _ => fun
  | [d] => { results := [.lit (.bool true)], args := [d] }
  | _ => none }
def poolListsRow : OpenClaim := { program := "ytalnkhcippcghaa", sum := "6f65d79033745da6c38d3b370860cd73bb5ce25823dbbcd449344e0d240070af", func := "treadmill/treadmilllaw18.PoolLists", spec := "poolLists", apart := false }
def PoolListsSaid : Prop := poolListsRow.holds Try.pinned (OpenSpec.ofChange poolListsSpec)

/-- ITS FALSE NEIGHBOUR: 'it returns false'. Refute it at one input. -/
def poolListsWrong : ChangeSpec := { name := "poolLists", fn := fun _ => fun
  | [d] => { results := [.lit (.bool false)], args := [d] }
  | _ => none }
def PoolListsWrongFalsely : Prop := poolListsRow.holds Try.pinned (OpenSpec.ofChange poolListsWrong)

/- THE SECOND FORM. 'bulk': how many values and letters a reading holds, each counted each time it is reached (what is shared counts as often as it is met; a slice's spare places count too). A statement '..UptoSaid' is the law's where the arguments, and the package variables that the reading takes, are together of bulk at most 1048576: NARROWER than '..Said'. Prove '..Said' where nothing that the law and all that it calls make is longer than what came in: it says more and counts as full. Else prove '..UptoSaid'. A law counts once. -/
mutual
def uptoBulk {H : Type} : DataW H → Nat
  | .lit (.string bytes) => bytes.length + 1
  | .lit _ => 1
  | .nil => 1
  | .ptr d => uptoBulk d + 1
  | .slice elems spare => uptoBulkAll elems + uptoBulkAll spare + 1
  | .agg parts => uptoBulkAll parts + 1
  | .iface _ d => uptoBulk d + 1
  | .map entries => uptoBulkEntries entries + 1
  | .held _ => 1
def uptoBulkAll {H : Type} : List (DataW H) → Nat
  | [] => 0
  | d :: r => uptoBulk d + uptoBulkAll r
def uptoBulkEntries {H : Type} : List (Lit × DataW H) → Nat
  | [] => 0
  | x :: r => uptoBulkEntry x + uptoBulkEntries r
def uptoBulkEntry {H : Type} : Lit × DataW H → Nat
  | (.string bytes, d) => bytes.length + uptoBulk d + 1
  | (_, d) => uptoBulk d + 1
 end
def uptoSmall : (H : Type) → List (DataW H) → Bool := fun _ ds => decide (uptoBulkAll ds ≤ 1048576)
def OpenSpec.upto (s : _root_.Go.ChangeSpec) : _root_.Go.OpenSpec := { _root_.Go.OpenSpec.ofChange s with cond := some uptoSmall }

/-- 'treadmilllaw17.BufferPlays', WHERE WHAT IT READS IS OF BULK AT MOST 1048576: true; the input reads as it did. -/
def bufferPlaysUptoRow : OpenClaim := { program := "ytalnkhcippcghaa", sum := "6f65d79033745da6c38d3b370860cd73bb5ce25823dbbcd449344e0d240070af", func := "treadmill/treadmilllaw17.BufferPlays", spec := "bufferPlays", apart := false, narrowed := true }
def BufferPlaysUptoSaid : Prop := bufferPlaysUptoRow.holds Try.pinned (OpenSpec.upto bufferPlaysSpec)

/-- 'treadmilllaw17.BufferStack', WHERE WHAT IT READS IS OF BULK AT MOST 1048576: true; the input reads as it did. -/
def bufferStackUptoRow : OpenClaim := { program := "ytalnkhcippcghaa", sum := "6f65d79033745da6c38d3b370860cd73bb5ce25823dbbcd449344e0d240070af", func := "treadmill/treadmilllaw17.BufferStack", spec := "bufferStack", apart := false, narrowed := true }
def BufferStackUptoSaid : Prop := bufferStackUptoRow.holds Try.pinned (OpenSpec.upto bufferStackSpec)

/-- 'treadmilllaw17.BufferHalves', WHERE WHAT IT READS IS OF BULK AT MOST 1048576: true; the input reads as it did. -/
def bufferHalvesUptoRow : OpenClaim := { program := "ytalnkhcippcghaa", sum := "6f65d79033745da6c38d3b370860cd73bb5ce25823dbbcd449344e0d240070af", func := "treadmill/treadmilllaw17.BufferHalves", spec := "bufferHalves", apart := false, narrowed := true }
def BufferHalvesUptoSaid : Prop := bufferHalvesUptoRow.holds Try.pinned (OpenSpec.upto bufferHalvesSpec)

/-- 'treadmilllaw19.BarrierPlays', WHERE WHAT IT READS IS OF BULK AT MOST 1048576: true; the input reads as it did. -/
def barrierPlaysUptoRow : OpenClaim := { program := "ytalnkhcippcghaa", sum := "6f65d79033745da6c38d3b370860cd73bb5ce25823dbbcd449344e0d240070af", func := "treadmill/treadmilllaw19.BarrierPlays", spec := "barrierPlays", apart := false, narrowed := true }
def BarrierPlaysUptoSaid : Prop := barrierPlaysUptoRow.holds Try.pinned (OpenSpec.upto barrierPlaysSpec)

/-- 'treadmilllaw19.BarrierTells', WHERE WHAT IT READS IS OF BULK AT MOST 1048576: true; the input reads as it did. -/
def barrierTellsUptoRow : OpenClaim := { program := "ytalnkhcippcghaa", sum := "6f65d79033745da6c38d3b370860cd73bb5ce25823dbbcd449344e0d240070af", func := "treadmill/treadmilllaw19.BarrierTells", spec := "barrierTells", apart := false, narrowed := true }
def BarrierTellsUptoSaid : Prop := barrierTellsUptoRow.holds Try.pinned (OpenSpec.upto barrierTellsSpec)

/-- 'treadmilllaw19.BarrierFulls', WHERE WHAT IT READS IS OF BULK AT MOST 1048576: true; the input reads as it did. -/
def barrierFullsUptoRow : OpenClaim := { program := "ytalnkhcippcghaa", sum := "6f65d79033745da6c38d3b370860cd73bb5ce25823dbbcd449344e0d240070af", func := "treadmill/treadmilllaw19.BarrierFulls", spec := "barrierFulls", apart := false, narrowed := true }
def BarrierFullsUptoSaid : Prop := barrierFullsUptoRow.holds Try.pinned (OpenSpec.upto barrierFullsSpec)

/-- 'treadmilllaw18.PoolFlags', WHERE WHAT IT READS IS OF BULK AT MOST 1048576: true; the input reads as it did. -/
def poolFlagsUptoRow : OpenClaim := { program := "ytalnkhcippcghaa", sum := "6f65d79033745da6c38d3b370860cd73bb5ce25823dbbcd449344e0d240070af", func := "treadmill/treadmilllaw18.PoolFlags", spec := "poolFlags", apart := false, narrowed := true }
def PoolFlagsUptoSaid : Prop := poolFlagsUptoRow.holds Try.pinned (OpenSpec.upto poolFlagsSpec)

/-- 'treadmilllaw18.PoolOnce', WHERE WHAT IT READS IS OF BULK AT MOST 1048576: true; the input reads as it did. -/
def poolOnceUptoRow : OpenClaim := { program := "ytalnkhcippcghaa", sum := "6f65d79033745da6c38d3b370860cd73bb5ce25823dbbcd449344e0d240070af", func := "treadmill/treadmilllaw18.PoolOnce", spec := "poolOnce", apart := false, narrowed := true }
def PoolOnceUptoSaid : Prop := poolOnceUptoRow.holds Try.pinned (OpenSpec.upto poolOnceSpec)

/-- 'treadmilllaw18.PoolLists', WHERE WHAT IT READS IS OF BULK AT MOST 1048576: true; the input reads as it did. -/
def poolListsUptoRow : OpenClaim := { program := "ytalnkhcippcghaa", sum := "6f65d79033745da6c38d3b370860cd73bb5ce25823dbbcd449344e0d240070af", func := "treadmill/treadmilllaw18.PoolLists", spec := "poolLists", apart := false, narrowed := true }
def PoolListsUptoSaid : Prop := poolListsUptoRow.holds Try.pinned (OpenSpec.upto poolListsSpec)

end Rows
end Go.Proofs.Ytalnkhcippcghaa
