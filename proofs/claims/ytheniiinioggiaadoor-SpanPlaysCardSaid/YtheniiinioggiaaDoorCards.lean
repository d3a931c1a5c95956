/-
  DERIVED. GIVEN WITH THE SEED: THE CARDS: each row of YtheniiinioggiaaDoorRows.lean that lists a variable, with what it lists TIED to the program's text (the seventh form; the later family's looks); each row that meets fmt, with fmt's text TOLD by the authors' own Lean function (tested against real Go, not proved from fmt's source: count such statements apart). THE CARD IS WHAT COUNTS. Prove the row's statement (the work); the ties are given (YtheniiinioggiaaDoorTie.lean); close each card by the builder's one call (the guide's Derived/Test/ToyasCard.lean, 'card_holds'). Laid BY PROGRAM, IN A SANDBOX (cutbox-door.mjs). By AI agents, Wed Nov 11 2026. No macro, syntax, notation, axiom, sorry.
-/
import Derived.Test.YtheniiinioggiaaDoorRows
import GoSem.ClaimSeven
namespace Go.Proofs.YtheniiinioggiaaDoor
namespace Rows

/-- THE TIED CARD OF 'treadmilllaw3.BitsWalk'. -/
def bitsWalkCard : Claim7 := { stood := { row := bitsWalkRow, standIns := [], harness := (true, "2b02a60dfbfdf3dfc294f3248dd699218a7eb27df379a80cb6e01cd475cb8e31"), looks := false }, kinds := [], alts := [], laidByText := true, laidKinds := [.data], laidTests := true, laidLooks := .later }
def BitsWalkCardSaid : Prop := Claim7.holds Tryd.pinned (.plain (OpenSpec.ofChange bitsWalkSpec)) bitsWalkCard

/-- THE TIED CARD OF 'treadmilllaw3.BitsFills'. -/
def bitsFillsCard : Claim7 := { stood := { row := bitsFillsRow, standIns := [], harness := (true, "2b02a60dfbfdf3dfc294f3248dd699218a7eb27df379a80cb6e01cd475cb8e31"), looks := false }, kinds := [], alts := [], laidByText := true, laidKinds := [.data], laidTests := true, laidLooks := .later }
def BitsFillsCardSaid : Prop := Claim7.holds Tryd.pinned (.plain (OpenSpec.ofChange bitsFillsSpec)) bitsFillsCard

/-- THE TIED CARD OF 'treadmilllaw3.BitsNobody'. -/
def bitsNobodyCard : Claim7 := { stood := { row := bitsNobodyRow, standIns := [], harness := (true, "2b02a60dfbfdf3dfc294f3248dd699218a7eb27df379a80cb6e01cd475cb8e31"), looks := false }, kinds := [], alts := [], laidByText := true, laidKinds := [.data], laidTests := true, laidLooks := .later }
def BitsNobodyCardSaid : Prop := Claim7.holds Tryd.pinned (.plain (OpenSpec.ofChange bitsNobodySpec)) bitsNobodyCard

/-- THE TIED CARD OF 'treadmilllaw3.BitsPlays'. -/
def bitsPlaysCard : Claim7 := { stood := { row := bitsPlaysRow, standIns := [], harness := (true, "2b02a60dfbfdf3dfc294f3248dd699218a7eb27df379a80cb6e01cd475cb8e31"), looks := false }, kinds := [], alts := [], laidByText := true, laidKinds := [.data], laidTests := true, laidLooks := .later }
def BitsPlaysCardSaid : Prop := Claim7.holds Tryd.pinned (.plain (OpenSpec.ofChange bitsPlaysSpec)) bitsPlaysCard

/-- THE TIED CARD OF 'treadmilllaw3.BitsCopies'. -/
def bitsCopiesCard : Claim7 := { stood := { row := bitsCopiesRow, standIns := [], harness := (true, "2b02a60dfbfdf3dfc294f3248dd699218a7eb27df379a80cb6e01cd475cb8e31"), looks := false }, kinds := [], alts := [], laidByText := true, laidKinds := [.data], laidTests := true, laidLooks := .later }
def BitsCopiesCardSaid : Prop := Claim7.holds Tryd.pinned (.plain (OpenSpec.ofChange bitsCopiesSpec)) bitsCopiesCard

/-- THE TIED CARD OF 'treadmilllaw6.SpanCycles'. -/
def spanCyclesCard : Claim7 := { stood := { row := spanCyclesRow, standIns := [], harness := (true, "2b02a60dfbfdf3dfc294f3248dd699218a7eb27df379a80cb6e01cd475cb8e31"), looks := false }, kinds := [], alts := [], laidByText := true, laidKinds := [.data], laidTests := true, laidLooks := .later }
def SpanCyclesCardSaid : Prop := Claim7.holds Tryd.pinned (.plain (OpenSpec.ofChange spanCyclesSpec)) spanCyclesCard

/-- THE TIED CARD OF 'treadmilllaw6.SpanKeeps'. -/
def spanKeepsCard : Claim7 := { stood := { row := spanKeepsRow, standIns := [], harness := (true, "2b02a60dfbfdf3dfc294f3248dd699218a7eb27df379a80cb6e01cd475cb8e31"), looks := false }, kinds := [], alts := [], laidByText := true, laidKinds := [.data], laidTests := true, laidLooks := .later }
def SpanKeepsCardSaid : Prop := Claim7.holds Tryd.pinned (.plain (OpenSpec.ofChange spanKeepsSpec)) spanKeepsCard

/-- THE TIED CARD OF 'treadmilllaw6.SpanFree'. -/
def spanFreeCard : Claim7 := { stood := { row := spanFreeRow, standIns := [], harness := (true, "2b02a60dfbfdf3dfc294f3248dd699218a7eb27df379a80cb6e01cd475cb8e31"), looks := false }, kinds := [], alts := [], laidByText := true, laidKinds := [.data], laidTests := true, laidLooks := .later }
def SpanFreeCardSaid : Prop := Claim7.holds Tryd.pinned (.plain (OpenSpec.ofChange spanFreeSpec)) spanFreeCard

/-- THE TIED CARD OF 'treadmilllaw6.SpanAddrs'. -/
def spanAddrsCard : Claim7 := { stood := { row := spanAddrsRow, standIns := [], harness := (true, "2b02a60dfbfdf3dfc294f3248dd699218a7eb27df379a80cb6e01cd475cb8e31"), looks := false }, kinds := [], alts := [], laidByText := true, laidKinds := [.data], laidTests := true, laidLooks := .later }
def SpanAddrsCardSaid : Prop := Claim7.holds Tryd.pinned (.plain (OpenSpec.ofChange spanAddrsSpec)) spanAddrsCard

/-- THE TIED CARD OF 'treadmilllaw6.SpanPlays'. -/
def spanPlaysCard : Claim7 := { stood := { row := spanPlaysRow, standIns := [], harness := (true, "2b02a60dfbfdf3dfc294f3248dd699218a7eb27df379a80cb6e01cd475cb8e31"), looks := false }, kinds := [], alts := [], laidByText := true, laidKinds := [.data], laidTests := true, laidLooks := .later }
def SpanPlaysCardSaid : Prop := Claim7.holds Tryd.pinned (.plain (OpenSpec.ofChange spanPlaysSpec)) spanPlaysCard

/-- THE SECOND FORM's CARD OF 'treadmilllaw3.BitsWalk'. -/
def bitsWalkUptoCard : Claim7 := { stood := { row := bitsWalkUptoRow, standIns := [], harness := (true, "2b02a60dfbfdf3dfc294f3248dd699218a7eb27df379a80cb6e01cd475cb8e31"), looks := false }, kinds := [], alts := [], laidByText := true, laidKinds := [.data], laidTests := true, laidLooks := .later }
def BitsWalkUptoCardSaid : Prop := Claim7.holds Tryd.pinned (.plain (OpenSpec.upto bitsWalkSpec)) bitsWalkUptoCard

/-- THE SECOND FORM's CARD OF 'treadmilllaw3.BitsFills'. -/
def bitsFillsUptoCard : Claim7 := { stood := { row := bitsFillsUptoRow, standIns := [], harness := (true, "2b02a60dfbfdf3dfc294f3248dd699218a7eb27df379a80cb6e01cd475cb8e31"), looks := false }, kinds := [], alts := [], laidByText := true, laidKinds := [.data], laidTests := true, laidLooks := .later }
def BitsFillsUptoCardSaid : Prop := Claim7.holds Tryd.pinned (.plain (OpenSpec.upto bitsFillsSpec)) bitsFillsUptoCard

/-- THE SECOND FORM's CARD OF 'treadmilllaw3.BitsNobody'. -/
def bitsNobodyUptoCard : Claim7 := { stood := { row := bitsNobodyUptoRow, standIns := [], harness := (true, "2b02a60dfbfdf3dfc294f3248dd699218a7eb27df379a80cb6e01cd475cb8e31"), looks := false }, kinds := [], alts := [], laidByText := true, laidKinds := [.data], laidTests := true, laidLooks := .later }
def BitsNobodyUptoCardSaid : Prop := Claim7.holds Tryd.pinned (.plain (OpenSpec.upto bitsNobodySpec)) bitsNobodyUptoCard

/-- THE SECOND FORM's CARD OF 'treadmilllaw3.BitsPlays'. -/
def bitsPlaysUptoCard : Claim7 := { stood := { row := bitsPlaysUptoRow, standIns := [], harness := (true, "2b02a60dfbfdf3dfc294f3248dd699218a7eb27df379a80cb6e01cd475cb8e31"), looks := false }, kinds := [], alts := [], laidByText := true, laidKinds := [.data], laidTests := true, laidLooks := .later }
def BitsPlaysUptoCardSaid : Prop := Claim7.holds Tryd.pinned (.plain (OpenSpec.upto bitsPlaysSpec)) bitsPlaysUptoCard

/-- THE SECOND FORM's CARD OF 'treadmilllaw3.BitsCopies'. -/
def bitsCopiesUptoCard : Claim7 := { stood := { row := bitsCopiesUptoRow, standIns := [], harness := (true, "2b02a60dfbfdf3dfc294f3248dd699218a7eb27df379a80cb6e01cd475cb8e31"), looks := false }, kinds := [], alts := [], laidByText := true, laidKinds := [.data], laidTests := true, laidLooks := .later }
def BitsCopiesUptoCardSaid : Prop := Claim7.holds Tryd.pinned (.plain (OpenSpec.upto bitsCopiesSpec)) bitsCopiesUptoCard

/-- THE SECOND FORM's CARD OF 'treadmilllaw6.SpanCycles'. -/
def spanCyclesUptoCard : Claim7 := { stood := { row := spanCyclesUptoRow, standIns := [], harness := (true, "2b02a60dfbfdf3dfc294f3248dd699218a7eb27df379a80cb6e01cd475cb8e31"), looks := false }, kinds := [], alts := [], laidByText := true, laidKinds := [.data], laidTests := true, laidLooks := .later }
def SpanCyclesUptoCardSaid : Prop := Claim7.holds Tryd.pinned (.plain (OpenSpec.upto spanCyclesSpec)) spanCyclesUptoCard

/-- THE SECOND FORM's CARD OF 'treadmilllaw6.SpanKeeps'. -/
def spanKeepsUptoCard : Claim7 := { stood := { row := spanKeepsUptoRow, standIns := [], harness := (true, "2b02a60dfbfdf3dfc294f3248dd699218a7eb27df379a80cb6e01cd475cb8e31"), looks := false }, kinds := [], alts := [], laidByText := true, laidKinds := [.data], laidTests := true, laidLooks := .later }
def SpanKeepsUptoCardSaid : Prop := Claim7.holds Tryd.pinned (.plain (OpenSpec.upto spanKeepsSpec)) spanKeepsUptoCard

/-- THE SECOND FORM's CARD OF 'treadmilllaw6.SpanFree'. -/
def spanFreeUptoCard : Claim7 := { stood := { row := spanFreeUptoRow, standIns := [], harness := (true, "2b02a60dfbfdf3dfc294f3248dd699218a7eb27df379a80cb6e01cd475cb8e31"), looks := false }, kinds := [], alts := [], laidByText := true, laidKinds := [.data], laidTests := true, laidLooks := .later }
def SpanFreeUptoCardSaid : Prop := Claim7.holds Tryd.pinned (.plain (OpenSpec.upto spanFreeSpec)) spanFreeUptoCard

/-- THE SECOND FORM's CARD OF 'treadmilllaw6.SpanAddrs'. -/
def spanAddrsUptoCard : Claim7 := { stood := { row := spanAddrsUptoRow, standIns := [], harness := (true, "2b02a60dfbfdf3dfc294f3248dd699218a7eb27df379a80cb6e01cd475cb8e31"), looks := false }, kinds := [], alts := [], laidByText := true, laidKinds := [.data], laidTests := true, laidLooks := .later }
def SpanAddrsUptoCardSaid : Prop := Claim7.holds Tryd.pinned (.plain (OpenSpec.upto spanAddrsSpec)) spanAddrsUptoCard

/-- THE SECOND FORM's CARD OF 'treadmilllaw6.SpanPlays'. -/
def spanPlaysUptoCard : Claim7 := { stood := { row := spanPlaysUptoRow, standIns := [], harness := (true, "2b02a60dfbfdf3dfc294f3248dd699218a7eb27df379a80cb6e01cd475cb8e31"), looks := false }, kinds := [], alts := [], laidByText := true, laidKinds := [.data], laidTests := true, laidLooks := .later }
def SpanPlaysUptoCardSaid : Prop := Claim7.holds Tryd.pinned (.plain (OpenSpec.upto spanPlaysSpec)) spanPlaysUptoCard
end Rows
end Go.Proofs.YtheniiinioggiaaDoor
