/-
  DERIVED. GIVEN WITH THE SEED: THE CARDS: each row of YtbhicpjhijondaaDoorRows.lean that lists a variable, with what it lists TIED to the program's text (the seventh form; the later family's looks); each row that meets fmt, with fmt's text TOLD by the authors' own Lean function (tested against real Go, not proved from fmt's source: count such statements apart). THE CARD IS WHAT COUNTS. Prove the row's statement (the work); the ties are given (YtbhicpjhijondaaDoorTie.lean); close each card by the builder's one call (the guide's Derived/Test/ToyasCard.lean, 'card_holds'). Laid BY PROGRAM, IN A SANDBOX (cutbox-door.mjs). By AI agents, Wed Nov 11 2026. No macro, syntax, notation, axiom, sorry.
-/
import Derived.Test.YtbhicpjhijondaaDoorRows
import GoSem.ClaimSeven
namespace Go.Proofs.YtbhicpjhijondaaDoor
namespace Rows

/-- THE TIED CARD OF 'parlancelaw12.TypesInstances'. -/
def typesInstancesCard : Claim7 := { stood := { row := typesInstancesRow, standIns := [], harness := (true, "74f87f498952135ae6cf1bfb4c7dfeb721664a6c4aafe715e7b6dd4169856159"), looks := false }, kinds := [], alts := [], laidByText := true, laidKinds := [.data, .data, .data], laidTests := true, laidLooks := .later }
def TypesInstancesCardSaid : Prop := Claim7.holds Tryd.pinned (.plain (OpenSpec.ofChange typesInstancesSpec)) typesInstancesCard

/-- THE TIED CARD OF 'parlancelaw12.TypesRound'. -/
def typesRoundCard : Claim7 := { stood := { row := typesRoundRow, standIns := [], harness := (true, "74f87f498952135ae6cf1bfb4c7dfeb721664a6c4aafe715e7b6dd4169856159"), looks := false }, kinds := [], alts := [], laidByText := true, laidKinds := [.data, .data, .data], laidTests := true, laidLooks := .later }
def TypesRoundCardSaid : Prop := Claim7.holds Tryd.pinned (.plain (OpenSpec.ofChange typesRoundSpec)) typesRoundCard

/-- THE TIED CARD OF 'parlancelaw12.TypesFilled'. -/
def typesFilledCard : Claim7 := { stood := { row := typesFilledRow, standIns := [], harness := (true, "74f87f498952135ae6cf1bfb4c7dfeb721664a6c4aafe715e7b6dd4169856159"), looks := false }, kinds := [], alts := [], laidByText := true, laidKinds := [.data, .data, .data], laidTests := true, laidLooks := .later }
def TypesFilledCardSaid : Prop := Claim7.holds Tryd.pinned (.plain (OpenSpec.ofChange typesFilledSpec)) typesFilledCard

/-- THE TIED CARD OF 'parlancelaw12.TypesShow'. -/
def typesShowCard : Claim7 := { stood := { row := typesShowRow, standIns := [], harness := (true, "74f87f498952135ae6cf1bfb4c7dfeb721664a6c4aafe715e7b6dd4169856159"), looks := false }, kinds := [], alts := [], laidByText := true, laidKinds := [.data, .data, .data], laidTests := true, laidLooks := .later }
def TypesShowCardSaid : Prop := Claim7.holds Tryd.pinned (.plain (OpenSpec.ofChange typesShowSpec)) typesShowCard

/-- THE TIED CARD OF 'parlancelaw12.TypesChain'. -/
def typesChainCard : Claim7 := { stood := { row := typesChainRow, standIns := [], harness := (true, "74f87f498952135ae6cf1bfb4c7dfeb721664a6c4aafe715e7b6dd4169856159"), looks := false }, kinds := [], alts := [], laidByText := true, laidKinds := [.data, .data, .data], laidTests := true, laidLooks := .later }
def TypesChainCardSaid : Prop := Claim7.holds Tryd.pinned (.plain (OpenSpec.ofChange typesChainSpec)) typesChainCard

/-- THE TIED CARD OF 'parlancelaw12.TypesClosed'. -/
def typesClosedCard : Claim7 := { stood := { row := typesClosedRow, standIns := [], harness := (true, "74f87f498952135ae6cf1bfb4c7dfeb721664a6c4aafe715e7b6dd4169856159"), looks := false }, kinds := [], alts := [], laidByText := true, laidKinds := [.data, .data, .data], laidTests := true, laidLooks := .later }
def TypesClosedCardSaid : Prop := Claim7.holds Tryd.pinned (.plain (OpenSpec.ofChange typesClosedSpec)) typesClosedCard

/-- THE TIED CARD OF 'parlancelaw14.SchemeEncodes'. -/
def schemeEncodesCard : Claim7 := { stood := { row := schemeEncodesRow, standIns := [], harness := (true, "74f87f498952135ae6cf1bfb4c7dfeb721664a6c4aafe715e7b6dd4169856159"), looks := false }, kinds := [], alts := [], laidByText := true, laidKinds := [.data, .data, .data], laidTests := true, laidLooks := .later }
def SchemeEncodesCardSaid : Prop := Claim7.holds Tryd.pinned (.plain (OpenSpec.ofChange schemeEncodesSpec)) schemeEncodesCard

/-- THE TIED CARD OF 'parlancelaw14.SchemeOrder'. -/
def schemeOrderCard : Claim7 := { stood := { row := schemeOrderRow, standIns := [], harness := (true, "74f87f498952135ae6cf1bfb4c7dfeb721664a6c4aafe715e7b6dd4169856159"), looks := false }, kinds := [], alts := [], laidByText := true, laidKinds := [.data, .data, .data], laidTests := true, laidLooks := .later }
def SchemeOrderCardSaid : Prop := Claim7.holds Tryd.pinned (.plain (OpenSpec.ofChange schemeOrderSpec)) schemeOrderCard

/-- THE TIED CARD OF 'parlancelaw14.SchemeTables'. -/
def schemeTablesCard : Claim7 := { stood := { row := schemeTablesRow, standIns := [], harness := (true, "74f87f498952135ae6cf1bfb4c7dfeb721664a6c4aafe715e7b6dd4169856159"), looks := false }, kinds := [], alts := [], laidByText := true, laidKinds := [.data, .data, .data], laidTests := true, laidLooks := .later }
def SchemeTablesCardSaid : Prop := Claim7.holds Tryd.pinned (.plain (OpenSpec.ofChange schemeTablesSpec)) schemeTablesCard

/-- THE TIED CARD OF 'parlancelaw14.SchemePuts'. -/
def schemePutsCard : Claim7 := { stood := { row := schemePutsRow, standIns := [], harness := (true, "74f87f498952135ae6cf1bfb4c7dfeb721664a6c4aafe715e7b6dd4169856159"), looks := false }, kinds := [], alts := [], laidByText := true, laidKinds := [.data, .data, .data], laidTests := true, laidLooks := .later }
def SchemePutsCardSaid : Prop := Claim7.holds Tryd.pinned (.plain (OpenSpec.ofChange schemePutsSpec)) schemePutsCard

/-- THE TIED CARD OF 'parlancelaw14.SchemeDecodes'. -/
def schemeDecodesCard : Claim7 := { stood := { row := schemeDecodesRow, standIns := [], harness := (true, "74f87f498952135ae6cf1bfb4c7dfeb721664a6c4aafe715e7b6dd4169856159"), looks := false }, kinds := [], alts := [], laidByText := true, laidKinds := [.data, .data, .data], laidTests := true, laidLooks := .later }
def SchemeDecodesCardSaid : Prop := Claim7.holds Tryd.pinned (.plain (OpenSpec.ofChange schemeDecodesSpec)) schemeDecodesCard

/-- THE TIED CARD OF 'parlancelaw14.SchemeRound'. -/
def schemeRoundCard : Claim7 := { stood := { row := schemeRoundRow, standIns := [], harness := (true, "74f87f498952135ae6cf1bfb4c7dfeb721664a6c4aafe715e7b6dd4169856159"), looks := false }, kinds := [], alts := [], laidByText := true, laidKinds := [.data, .data, .data], laidTests := true, laidLooks := .later }
def SchemeRoundCardSaid : Prop := Claim7.holds Tryd.pinned (.plain (OpenSpec.ofChange schemeRoundSpec)) schemeRoundCard

/-- THE SECOND FORM's CARD OF 'parlancelaw12.TypesInstances'. -/
def typesInstancesUptoCard : Claim7 := { stood := { row := typesInstancesUptoRow, standIns := [], harness := (true, "74f87f498952135ae6cf1bfb4c7dfeb721664a6c4aafe715e7b6dd4169856159"), looks := false }, kinds := [], alts := [], laidByText := true, laidKinds := [.data, .data, .data], laidTests := true, laidLooks := .later }
def TypesInstancesUptoCardSaid : Prop := Claim7.holds Tryd.pinned (.plain (OpenSpec.upto typesInstancesSpec)) typesInstancesUptoCard

/-- THE SECOND FORM's CARD OF 'parlancelaw12.TypesRound'. -/
def typesRoundUptoCard : Claim7 := { stood := { row := typesRoundUptoRow, standIns := [], harness := (true, "74f87f498952135ae6cf1bfb4c7dfeb721664a6c4aafe715e7b6dd4169856159"), looks := false }, kinds := [], alts := [], laidByText := true, laidKinds := [.data, .data, .data], laidTests := true, laidLooks := .later }
def TypesRoundUptoCardSaid : Prop := Claim7.holds Tryd.pinned (.plain (OpenSpec.upto typesRoundSpec)) typesRoundUptoCard

/-- THE SECOND FORM's CARD OF 'parlancelaw12.TypesFilled'. -/
def typesFilledUptoCard : Claim7 := { stood := { row := typesFilledUptoRow, standIns := [], harness := (true, "74f87f498952135ae6cf1bfb4c7dfeb721664a6c4aafe715e7b6dd4169856159"), looks := false }, kinds := [], alts := [], laidByText := true, laidKinds := [.data, .data, .data], laidTests := true, laidLooks := .later }
def TypesFilledUptoCardSaid : Prop := Claim7.holds Tryd.pinned (.plain (OpenSpec.upto typesFilledSpec)) typesFilledUptoCard

/-- THE SECOND FORM's CARD OF 'parlancelaw12.TypesShow'. -/
def typesShowUptoCard : Claim7 := { stood := { row := typesShowUptoRow, standIns := [], harness := (true, "74f87f498952135ae6cf1bfb4c7dfeb721664a6c4aafe715e7b6dd4169856159"), looks := false }, kinds := [], alts := [], laidByText := true, laidKinds := [.data, .data, .data], laidTests := true, laidLooks := .later }
def TypesShowUptoCardSaid : Prop := Claim7.holds Tryd.pinned (.plain (OpenSpec.upto typesShowSpec)) typesShowUptoCard

/-- THE SECOND FORM's CARD OF 'parlancelaw12.TypesChain'. -/
def typesChainUptoCard : Claim7 := { stood := { row := typesChainUptoRow, standIns := [], harness := (true, "74f87f498952135ae6cf1bfb4c7dfeb721664a6c4aafe715e7b6dd4169856159"), looks := false }, kinds := [], alts := [], laidByText := true, laidKinds := [.data, .data, .data], laidTests := true, laidLooks := .later }
def TypesChainUptoCardSaid : Prop := Claim7.holds Tryd.pinned (.plain (OpenSpec.upto typesChainSpec)) typesChainUptoCard

/-- THE SECOND FORM's CARD OF 'parlancelaw12.TypesClosed'. -/
def typesClosedUptoCard : Claim7 := { stood := { row := typesClosedUptoRow, standIns := [], harness := (true, "74f87f498952135ae6cf1bfb4c7dfeb721664a6c4aafe715e7b6dd4169856159"), looks := false }, kinds := [], alts := [], laidByText := true, laidKinds := [.data, .data, .data], laidTests := true, laidLooks := .later }
def TypesClosedUptoCardSaid : Prop := Claim7.holds Tryd.pinned (.plain (OpenSpec.upto typesClosedSpec)) typesClosedUptoCard

/-- THE SECOND FORM's CARD OF 'parlancelaw14.SchemeEncodes'. -/
def schemeEncodesUptoCard : Claim7 := { stood := { row := schemeEncodesUptoRow, standIns := [], harness := (true, "74f87f498952135ae6cf1bfb4c7dfeb721664a6c4aafe715e7b6dd4169856159"), looks := false }, kinds := [], alts := [], laidByText := true, laidKinds := [.data, .data, .data], laidTests := true, laidLooks := .later }
def SchemeEncodesUptoCardSaid : Prop := Claim7.holds Tryd.pinned (.plain (OpenSpec.upto schemeEncodesSpec)) schemeEncodesUptoCard

/-- THE SECOND FORM's CARD OF 'parlancelaw14.SchemeOrder'. -/
def schemeOrderUptoCard : Claim7 := { stood := { row := schemeOrderUptoRow, standIns := [], harness := (true, "74f87f498952135ae6cf1bfb4c7dfeb721664a6c4aafe715e7b6dd4169856159"), looks := false }, kinds := [], alts := [], laidByText := true, laidKinds := [.data, .data, .data], laidTests := true, laidLooks := .later }
def SchemeOrderUptoCardSaid : Prop := Claim7.holds Tryd.pinned (.plain (OpenSpec.upto schemeOrderSpec)) schemeOrderUptoCard

/-- THE SECOND FORM's CARD OF 'parlancelaw14.SchemeTables'. -/
def schemeTablesUptoCard : Claim7 := { stood := { row := schemeTablesUptoRow, standIns := [], harness := (true, "74f87f498952135ae6cf1bfb4c7dfeb721664a6c4aafe715e7b6dd4169856159"), looks := false }, kinds := [], alts := [], laidByText := true, laidKinds := [.data, .data, .data], laidTests := true, laidLooks := .later }
def SchemeTablesUptoCardSaid : Prop := Claim7.holds Tryd.pinned (.plain (OpenSpec.upto schemeTablesSpec)) schemeTablesUptoCard

/-- THE SECOND FORM's CARD OF 'parlancelaw14.SchemePuts'. -/
def schemePutsUptoCard : Claim7 := { stood := { row := schemePutsUptoRow, standIns := [], harness := (true, "74f87f498952135ae6cf1bfb4c7dfeb721664a6c4aafe715e7b6dd4169856159"), looks := false }, kinds := [], alts := [], laidByText := true, laidKinds := [.data, .data, .data], laidTests := true, laidLooks := .later }
def SchemePutsUptoCardSaid : Prop := Claim7.holds Tryd.pinned (.plain (OpenSpec.upto schemePutsSpec)) schemePutsUptoCard

/-- THE SECOND FORM's CARD OF 'parlancelaw14.SchemeDecodes'. -/
def schemeDecodesUptoCard : Claim7 := { stood := { row := schemeDecodesUptoRow, standIns := [], harness := (true, "74f87f498952135ae6cf1bfb4c7dfeb721664a6c4aafe715e7b6dd4169856159"), looks := false }, kinds := [], alts := [], laidByText := true, laidKinds := [.data, .data, .data], laidTests := true, laidLooks := .later }
def SchemeDecodesUptoCardSaid : Prop := Claim7.holds Tryd.pinned (.plain (OpenSpec.upto schemeDecodesSpec)) schemeDecodesUptoCard

/-- THE SECOND FORM's CARD OF 'parlancelaw14.SchemeRound'. -/
def schemeRoundUptoCard : Claim7 := { stood := { row := schemeRoundUptoRow, standIns := [], harness := (true, "74f87f498952135ae6cf1bfb4c7dfeb721664a6c4aafe715e7b6dd4169856159"), looks := false }, kinds := [], alts := [], laidByText := true, laidKinds := [.data, .data, .data], laidTests := true, laidLooks := .later }
def SchemeRoundUptoCardSaid : Prop := Claim7.holds Tryd.pinned (.plain (OpenSpec.upto schemeRoundSpec)) schemeRoundUptoCard
end Rows
end Go.Proofs.YtbhicpjhijondaaDoor
