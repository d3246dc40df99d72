/-
  DERIVED. GIVEN WITH THE SEED: THE CARDS: each row of YtnlpekhohakkbaaGreatDoorRows.lean that lists a variable, with what it lists TIED to the program's text (the seventh form; the later family's looks); each row that meets fmt, with fmt's text TOLD by the authors' own Lean function (tested against real Go, not proved from fmt's source: count such statements apart). THE CARD IS WHAT COUNTS. Prove the row's statement (the work); the ties are given (YtnlpekhohakkbaaGreatDoorTie.lean); close each card by the builder's one call (the guide's Derived/Test/ToyasCard.lean, 'card_holds'). Laid BY PROGRAM, IN A SANDBOX (cutbox-door.mjs). By AI agents, Wed Nov 11 2026. No macro, syntax, notation, axiom, sorry.
-/
import Derived.Test.YtnlpekhohakkbaaGreatDoorRows
import GoSem.ClaimSeven
namespace Go.Proofs.YtnlpekhohakkbaaGreatDoor
namespace Rows

/-- THE TIED CARD OF 'tholelaw08.AsmMoved'. -/
def asmMovedCard : Claim7 := { stood := { row := asmMovedRow, standIns := [], harness := (true, "a65c7150f3095588c2791880330565ad012df6f741d76cbea709810a1688c137"), looks := true }, kinds := [], alts := [], laidByText := true, laidKinds := [.data, .data, .data, .data, .handle, .sentinel, .sentinel, .pinned], laidTests := true, laidLooks := .later }
def AsmMovedCardSaid : Prop := Claim7.holds Tryz.pinned (.plain (OpenSpec.ofChange asmMovedSpec)) asmMovedCard

/-- THE TIED CARD OF 'tholelaw08.AsmAssembles'. -/
def asmAssemblesCard : Claim7 := { stood := { row := asmAssemblesRow, standIns := [], harness := (true, "a65c7150f3095588c2791880330565ad012df6f741d76cbea709810a1688c137"), looks := true }, kinds := [], alts := [], laidByText := true, laidKinds := [.data, .data, .data, .data, .handle, .sentinel, .sentinel, .pinned], laidTests := true, laidLooks := .later }
def AsmAssemblesCardSaid : Prop := Claim7.holds Tryz.pinned (.plain (OpenSpec.ofChange asmAssemblesSpec)) asmAssemblesCard

/-- THE TIED CARD OF 'tholelaw19.SchedReplays'. -/
def schedReplaysCard : Claim7 := { stood := { row := schedReplaysRow, standIns := [], harness := (true, "a65c7150f3095588c2791880330565ad012df6f741d76cbea709810a1688c137"), looks := true }, kinds := [], alts := [], laidByText := true, laidKinds := [.data, .data, .data, .data, .sentinel, .sentinel, .pinned], laidTests := true, laidLooks := .later }
def SchedReplaysCardSaid : Prop := Claim7.holds Tryz.pinned (.plain (OpenSpec.ofChange schedReplaysSpec)) schedReplaysCard

/-- THE TIED CARD OF 'tholelaw19.SchedBreaks'. -/
def schedBreaksCard : Claim7 := { stood := { row := schedBreaksRow, standIns := [], harness := (true, "a65c7150f3095588c2791880330565ad012df6f741d76cbea709810a1688c137"), looks := true }, kinds := [], alts := [], laidByText := true, laidKinds := [.data, .data, .data, .data, .sentinel, .sentinel, .pinned], laidTests := true, laidLooks := .later }
def SchedBreaksCardSaid : Prop := Claim7.holds Tryz.pinned (.plain (OpenSpec.ofChange schedBreaksSpec)) schedBreaksCard

/-- THE TIED CARD OF 'tholelaw19.SchedBegins'. -/
def schedBeginsCard : Claim7 := { stood := { row := schedBeginsRow, standIns := [], harness := (true, "a65c7150f3095588c2791880330565ad012df6f741d76cbea709810a1688c137"), looks := true }, kinds := [], alts := [], laidByText := true, laidKinds := [.data, .data, .data, .data, .sentinel, .sentinel, .pinned], laidTests := true, laidLooks := .later }
def SchedBeginsCardSaid : Prop := Claim7.holds Tryz.pinned (.plain (OpenSpec.ofChange schedBeginsSpec)) schedBeginsCard

/-- THE TIED CARD OF 'tholelaw19.SchedTwice'. -/
def schedTwiceCard : Claim7 := { stood := { row := schedTwiceRow, standIns := [], harness := (true, "a65c7150f3095588c2791880330565ad012df6f741d76cbea709810a1688c137"), looks := true }, kinds := [], alts := [], laidByText := true, laidKinds := [.data, .data, .data, .data, .sentinel, .sentinel, .pinned], laidTests := true, laidLooks := .later }
def SchedTwiceCardSaid : Prop := Claim7.holds Tryz.pinned (.plain (OpenSpec.ofChange schedTwiceSpec)) schedTwiceCard

/-- THE TIED CARD OF 'tholelaw19.SchedIdle'. -/
def schedIdleCard : Claim7 := { stood := { row := schedIdleRow, standIns := [], harness := (true, "a65c7150f3095588c2791880330565ad012df6f741d76cbea709810a1688c137"), looks := true }, kinds := [], alts := [], laidByText := true, laidKinds := [.data, .data, .data, .data, .sentinel, .sentinel, .pinned], laidTests := true, laidLooks := .later }
def SchedIdleCardSaid : Prop := Claim7.holds Tryz.pinned (.plain (OpenSpec.ofChange schedIdleSpec)) schedIdleCard

/-- THE TIED CARD OF 'tholelaw19.SchedNobody'. -/
def schedNobodyCard : Claim7 := { stood := { row := schedNobodyRow, standIns := [], harness := (true, "a65c7150f3095588c2791880330565ad012df6f741d76cbea709810a1688c137"), looks := true }, kinds := [], alts := [], laidByText := true, laidKinds := [.data, .data, .data, .data, .sentinel, .sentinel, .pinned], laidTests := true, laidLooks := .later }
def SchedNobodyCardSaid : Prop := Claim7.holds Tryz.pinned (.plain (OpenSpec.ofChange schedNobodySpec)) schedNobodyCard

/-- THE TIED CARD OF 'tholelaw22.FacadeRuns'. -/
def facadeRunsCard : Claim7 := { stood := { row := facadeRunsRow, standIns := [], harness := (true, "a65c7150f3095588c2791880330565ad012df6f741d76cbea709810a1688c137"), looks := true }, kinds := [], alts := [], laidByText := true, laidKinds := [.data, .data, .data, .data, .sentinel, .sentinel, .pinned], laidTests := true, laidLooks := .later }
def FacadeRunsCardSaid : Prop := Claim7.holds Tryz.pinned (.plain (OpenSpec.ofChange facadeRunsSpec)) facadeRunsCard

/-- THE TIED CARD OF 'tholelaw22.FacadeSettles'. -/
def facadeSettlesCard : Claim7 := { stood := { row := facadeSettlesRow, standIns := [], harness := (true, "a65c7150f3095588c2791880330565ad012df6f741d76cbea709810a1688c137"), looks := true }, kinds := [], alts := [], laidByText := true, laidKinds := [.data, .data, .data, .data, .sentinel, .sentinel, .pinned], laidTests := true, laidLooks := .later }
def FacadeSettlesCardSaid : Prop := Claim7.holds Tryz.pinned (.plain (OpenSpec.ofChange facadeSettlesSpec)) facadeSettlesCard

/-- THE TIED CARD OF 'tholelaw22.FacadeStays'. -/
def facadeStaysCard : Claim7 := { stood := { row := facadeStaysRow, standIns := [], harness := (true, "a65c7150f3095588c2791880330565ad012df6f741d76cbea709810a1688c137"), looks := true }, kinds := [], alts := [], laidByText := true, laidKinds := [.data, .data, .data, .data, .sentinel, .sentinel, .pinned], laidTests := true, laidLooks := .later }
def FacadeStaysCardSaid : Prop := Claim7.holds Tryz.pinned (.plain (OpenSpec.ofChange facadeStaysSpec)) facadeStaysCard

/-- THE TIED CARD OF 'tholelaw22.FacadeMore'. -/
def facadeMoreCard : Claim7 := { stood := { row := facadeMoreRow, standIns := [], harness := (true, "a65c7150f3095588c2791880330565ad012df6f741d76cbea709810a1688c137"), looks := true }, kinds := [], alts := [], laidByText := true, laidKinds := [.data, .data, .data, .data, .sentinel, .sentinel, .pinned], laidTests := true, laidLooks := .later }
def FacadeMoreCardSaid : Prop := Claim7.holds Tryz.pinned (.plain (OpenSpec.ofChange facadeMoreSpec)) facadeMoreCard

/-- THE SECOND FORM's CARD OF 'tholelaw08.AsmMoved'. -/
def asmMovedUptoCard : Claim7 := { stood := { row := asmMovedUptoRow, standIns := [], harness := (true, "a65c7150f3095588c2791880330565ad012df6f741d76cbea709810a1688c137"), looks := true }, kinds := [], alts := [], laidByText := true, laidKinds := [.data, .data, .data, .data, .handle, .sentinel, .sentinel, .pinned], laidTests := true, laidLooks := .later }
def AsmMovedUptoCardSaid : Prop := Claim7.holds Tryz.pinned (.plain (OpenSpec.upto asmMovedSpec)) asmMovedUptoCard

/-- THE SECOND FORM's CARD OF 'tholelaw08.AsmAssembles'. -/
def asmAssemblesUptoCard : Claim7 := { stood := { row := asmAssemblesUptoRow, standIns := [], harness := (true, "a65c7150f3095588c2791880330565ad012df6f741d76cbea709810a1688c137"), looks := true }, kinds := [], alts := [], laidByText := true, laidKinds := [.data, .data, .data, .data, .handle, .sentinel, .sentinel, .pinned], laidTests := true, laidLooks := .later }
def AsmAssemblesUptoCardSaid : Prop := Claim7.holds Tryz.pinned (.plain (OpenSpec.upto asmAssemblesSpec)) asmAssemblesUptoCard

/-- THE SECOND FORM's CARD OF 'tholelaw19.SchedReplays'. -/
def schedReplaysUptoCard : Claim7 := { stood := { row := schedReplaysUptoRow, standIns := [], harness := (true, "a65c7150f3095588c2791880330565ad012df6f741d76cbea709810a1688c137"), looks := true }, kinds := [], alts := [], laidByText := true, laidKinds := [.data, .data, .data, .data, .sentinel, .sentinel, .pinned], laidTests := true, laidLooks := .later }
def SchedReplaysUptoCardSaid : Prop := Claim7.holds Tryz.pinned (.plain (OpenSpec.upto schedReplaysSpec)) schedReplaysUptoCard

/-- THE SECOND FORM's CARD OF 'tholelaw19.SchedBreaks'. -/
def schedBreaksUptoCard : Claim7 := { stood := { row := schedBreaksUptoRow, standIns := [], harness := (true, "a65c7150f3095588c2791880330565ad012df6f741d76cbea709810a1688c137"), looks := true }, kinds := [], alts := [], laidByText := true, laidKinds := [.data, .data, .data, .data, .sentinel, .sentinel, .pinned], laidTests := true, laidLooks := .later }
def SchedBreaksUptoCardSaid : Prop := Claim7.holds Tryz.pinned (.plain (OpenSpec.upto schedBreaksSpec)) schedBreaksUptoCard

/-- THE SECOND FORM's CARD OF 'tholelaw19.SchedBegins'. -/
def schedBeginsUptoCard : Claim7 := { stood := { row := schedBeginsUptoRow, standIns := [], harness := (true, "a65c7150f3095588c2791880330565ad012df6f741d76cbea709810a1688c137"), looks := true }, kinds := [], alts := [], laidByText := true, laidKinds := [.data, .data, .data, .data, .sentinel, .sentinel, .pinned], laidTests := true, laidLooks := .later }
def SchedBeginsUptoCardSaid : Prop := Claim7.holds Tryz.pinned (.plain (OpenSpec.upto schedBeginsSpec)) schedBeginsUptoCard

/-- THE SECOND FORM's CARD OF 'tholelaw19.SchedTwice'. -/
def schedTwiceUptoCard : Claim7 := { stood := { row := schedTwiceUptoRow, standIns := [], harness := (true, "a65c7150f3095588c2791880330565ad012df6f741d76cbea709810a1688c137"), looks := true }, kinds := [], alts := [], laidByText := true, laidKinds := [.data, .data, .data, .data, .sentinel, .sentinel, .pinned], laidTests := true, laidLooks := .later }
def SchedTwiceUptoCardSaid : Prop := Claim7.holds Tryz.pinned (.plain (OpenSpec.upto schedTwiceSpec)) schedTwiceUptoCard

/-- THE SECOND FORM's CARD OF 'tholelaw19.SchedIdle'. -/
def schedIdleUptoCard : Claim7 := { stood := { row := schedIdleUptoRow, standIns := [], harness := (true, "a65c7150f3095588c2791880330565ad012df6f741d76cbea709810a1688c137"), looks := true }, kinds := [], alts := [], laidByText := true, laidKinds := [.data, .data, .data, .data, .sentinel, .sentinel, .pinned], laidTests := true, laidLooks := .later }
def SchedIdleUptoCardSaid : Prop := Claim7.holds Tryz.pinned (.plain (OpenSpec.upto schedIdleSpec)) schedIdleUptoCard

/-- THE SECOND FORM's CARD OF 'tholelaw19.SchedNobody'. -/
def schedNobodyUptoCard : Claim7 := { stood := { row := schedNobodyUptoRow, standIns := [], harness := (true, "a65c7150f3095588c2791880330565ad012df6f741d76cbea709810a1688c137"), looks := true }, kinds := [], alts := [], laidByText := true, laidKinds := [.data, .data, .data, .data, .sentinel, .sentinel, .pinned], laidTests := true, laidLooks := .later }
def SchedNobodyUptoCardSaid : Prop := Claim7.holds Tryz.pinned (.plain (OpenSpec.upto schedNobodySpec)) schedNobodyUptoCard

/-- THE SECOND FORM's CARD OF 'tholelaw22.FacadeRuns'. -/
def facadeRunsUptoCard : Claim7 := { stood := { row := facadeRunsUptoRow, standIns := [], harness := (true, "a65c7150f3095588c2791880330565ad012df6f741d76cbea709810a1688c137"), looks := true }, kinds := [], alts := [], laidByText := true, laidKinds := [.data, .data, .data, .data, .sentinel, .sentinel, .pinned], laidTests := true, laidLooks := .later }
def FacadeRunsUptoCardSaid : Prop := Claim7.holds Tryz.pinned (.plain (OpenSpec.upto facadeRunsSpec)) facadeRunsUptoCard

/-- THE SECOND FORM's CARD OF 'tholelaw22.FacadeSettles'. -/
def facadeSettlesUptoCard : Claim7 := { stood := { row := facadeSettlesUptoRow, standIns := [], harness := (true, "a65c7150f3095588c2791880330565ad012df6f741d76cbea709810a1688c137"), looks := true }, kinds := [], alts := [], laidByText := true, laidKinds := [.data, .data, .data, .data, .sentinel, .sentinel, .pinned], laidTests := true, laidLooks := .later }
def FacadeSettlesUptoCardSaid : Prop := Claim7.holds Tryz.pinned (.plain (OpenSpec.upto facadeSettlesSpec)) facadeSettlesUptoCard

/-- THE SECOND FORM's CARD OF 'tholelaw22.FacadeStays'. -/
def facadeStaysUptoCard : Claim7 := { stood := { row := facadeStaysUptoRow, standIns := [], harness := (true, "a65c7150f3095588c2791880330565ad012df6f741d76cbea709810a1688c137"), looks := true }, kinds := [], alts := [], laidByText := true, laidKinds := [.data, .data, .data, .data, .sentinel, .sentinel, .pinned], laidTests := true, laidLooks := .later }
def FacadeStaysUptoCardSaid : Prop := Claim7.holds Tryz.pinned (.plain (OpenSpec.upto facadeStaysSpec)) facadeStaysUptoCard

/-- THE SECOND FORM's CARD OF 'tholelaw22.FacadeMore'. -/
def facadeMoreUptoCard : Claim7 := { stood := { row := facadeMoreUptoRow, standIns := [], harness := (true, "a65c7150f3095588c2791880330565ad012df6f741d76cbea709810a1688c137"), looks := true }, kinds := [], alts := [], laidByText := true, laidKinds := [.data, .data, .data, .data, .sentinel, .sentinel, .pinned], laidTests := true, laidLooks := .later }
def FacadeMoreUptoCardSaid : Prop := Claim7.holds Tryz.pinned (.plain (OpenSpec.upto facadeMoreSpec)) facadeMoreUptoCard
end Rows
end Go.Proofs.YtnlpekhohakkbaaGreatDoor
