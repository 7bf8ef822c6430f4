/-
  DERIVED. GIVEN WITH THE SEED: THE CARDS: each row of YthdgpejippohnaaGreatDoorRows.lean that lists a variable, with what it lists TIED to the program's text (the seventh form; the later family's looks); each row that meets fmt, with fmt's text TOLD by the authors' own Lean function (tested against real Go, not proved from fmt's source: count such statements apart). THE CARD IS WHAT COUNTS. Prove the row's statement (the work); the ties are given (YthdgpejippohnaaGreatDoorTie.lean); close each card by the builder's one call (the guide's Derived/Test/ToyasCard.lean, 'card_holds'). Laid BY PROGRAM, IN A SANDBOX (cutbox-door.mjs). By AI agents, Wed Nov 11 2026. No macro, syntax, notation, axiom, sorry.
-/
import Derived.Test.YthdgpejippohnaaGreatDoorRows
import GoSem.ClaimSeven
namespace Go.Proofs.YthdgpejippohnaaGreatDoor
namespace Rows

/-- THE TIED CARD OF 'modcertlaw05.ParserTypes'. -/
def parserTypesCard : Claim7 := { stood := { row := parserTypesRow, standIns := [], harness := (true, "9008be9137a10f75bae97ddda40d45cd7f287e820a554970d5a8be9c1510c6a2"), looks := true }, kinds := [], alts := [], laidByText := true, laidKinds := [.data, .data, .data, .data, .sentinel, .sentinel, .pinned], laidTests := true, laidLooks := .later }
def ParserTypesCardSaid : Prop := Claim7.holds Tryz.pinned (.plain (OpenSpec.ofChange parserTypesSpec)) parserTypesCard

/-- THE TIED CARD OF 'modcertlaw05.ParserExprs'. -/
def parserExprsCard : Claim7 := { stood := { row := parserExprsRow, standIns := [], harness := (true, "9008be9137a10f75bae97ddda40d45cd7f287e820a554970d5a8be9c1510c6a2"), looks := true }, kinds := [], alts := [], laidByText := true, laidKinds := [.data, .data, .data, .data, .sentinel, .sentinel, .pinned], laidTests := true, laidLooks := .later }
def ParserExprsCardSaid : Prop := Claim7.holds Tryz.pinned (.plain (OpenSpec.ofChange parserExprsSpec)) parserExprsCard

/-- THE TIED CARD OF 'modcertlaw05.ParserModules'. -/
def parserModulesCard : Claim7 := { stood := { row := parserModulesRow, standIns := [], harness := (true, "9008be9137a10f75bae97ddda40d45cd7f287e820a554970d5a8be9c1510c6a2"), looks := true }, kinds := [], alts := [], laidByText := true, laidKinds := [.data, .data, .data, .data, .sentinel, .sentinel, .pinned], laidTests := true, laidLooks := .later }
def ParserModulesCardSaid : Prop := Claim7.holds Tryz.pinned (.plain (OpenSpec.ofChange parserModulesSpec)) parserModulesCard

/-- THE TIED CARD OF 'modcertlaw05.ParserForms'. -/
def parserFormsCard : Claim7 := { stood := { row := parserFormsRow, standIns := [], harness := (true, "9008be9137a10f75bae97ddda40d45cd7f287e820a554970d5a8be9c1510c6a2"), looks := true }, kinds := [], alts := [], laidByText := true, laidKinds := [.data, .data, .data, .data, .sentinel, .sentinel, .pinned], laidTests := true, laidLooks := .later }
def ParserFormsCardSaid : Prop := Claim7.holds Tryz.pinned (.plain (OpenSpec.ofChange parserFormsSpec)) parserFormsCard

/-- THE TIED CARD OF 'modcertlaw05.ParserCuts'. -/
def parserCutsCard : Claim7 := { stood := { row := parserCutsRow, standIns := [], harness := (true, "9008be9137a10f75bae97ddda40d45cd7f287e820a554970d5a8be9c1510c6a2"), looks := true }, kinds := [], alts := [], laidByText := true, laidKinds := [.data, .data, .data, .data, .sentinel, .sentinel, .pinned], laidTests := true, laidLooks := .later }
def ParserCutsCardSaid : Prop := Claim7.holds Tryz.pinned (.plain (OpenSpec.ofChange parserCutsSpec)) parserCutsCard

/-- THE TIED CARD OF 'modcertlaw05.ParserAscribes'. -/
def parserAscribesCard : Claim7 := { stood := { row := parserAscribesRow, standIns := [], harness := (true, "9008be9137a10f75bae97ddda40d45cd7f287e820a554970d5a8be9c1510c6a2"), looks := true }, kinds := [], alts := [], laidByText := true, laidKinds := [.data, .data, .data, .data, .sentinel, .sentinel, .pinned], laidTests := true, laidLooks := .later }
def ParserAscribesCardSaid : Prop := Claim7.holds Tryz.pinned (.plain (OpenSpec.ofChange parserAscribesSpec)) parserAscribesCard

/-- THE TIED CARD OF 'modcertlaw05.ParserOperators'. -/
def parserOperatorsCard : Claim7 := { stood := { row := parserOperatorsRow, standIns := [], harness := (true, "9008be9137a10f75bae97ddda40d45cd7f287e820a554970d5a8be9c1510c6a2"), looks := true }, kinds := [], alts := [], laidByText := true, laidKinds := [.data, .data, .data, .data, .sentinel, .sentinel, .pinned], laidTests := true, laidLooks := .later }
def ParserOperatorsCardSaid : Prop := Claim7.holds Tryz.pinned (.plain (OpenSpec.ofChange parserOperatorsSpec)) parserOperatorsCard

/-- THE TIED CARD OF 'modcertlaw05.ParserBlanks'. -/
def parserBlanksCard : Claim7 := { stood := { row := parserBlanksRow, standIns := [], harness := (true, "9008be9137a10f75bae97ddda40d45cd7f287e820a554970d5a8be9c1510c6a2"), looks := true }, kinds := [], alts := [], laidByText := true, laidKinds := [.data, .data, .data, .data, .sentinel, .sentinel, .pinned], laidTests := true, laidLooks := .later }
def ParserBlanksCardSaid : Prop := Claim7.holds Tryz.pinned (.plain (OpenSpec.ofChange parserBlanksSpec)) parserBlanksCard

/-- THE SECOND FORM's CARD OF 'modcertlaw05.ParserTypes'. -/
def parserTypesUptoCard : Claim7 := { stood := { row := parserTypesUptoRow, standIns := [], harness := (true, "9008be9137a10f75bae97ddda40d45cd7f287e820a554970d5a8be9c1510c6a2"), looks := true }, kinds := [], alts := [], laidByText := true, laidKinds := [.data, .data, .data, .data, .sentinel, .sentinel, .pinned], laidTests := true, laidLooks := .later }
def ParserTypesUptoCardSaid : Prop := Claim7.holds Tryz.pinned (.plain (OpenSpec.upto parserTypesSpec)) parserTypesUptoCard

/-- THE SECOND FORM's CARD OF 'modcertlaw05.ParserExprs'. -/
def parserExprsUptoCard : Claim7 := { stood := { row := parserExprsUptoRow, standIns := [], harness := (true, "9008be9137a10f75bae97ddda40d45cd7f287e820a554970d5a8be9c1510c6a2"), looks := true }, kinds := [], alts := [], laidByText := true, laidKinds := [.data, .data, .data, .data, .sentinel, .sentinel, .pinned], laidTests := true, laidLooks := .later }
def ParserExprsUptoCardSaid : Prop := Claim7.holds Tryz.pinned (.plain (OpenSpec.upto parserExprsSpec)) parserExprsUptoCard

/-- THE SECOND FORM's CARD OF 'modcertlaw05.ParserModules'. -/
def parserModulesUptoCard : Claim7 := { stood := { row := parserModulesUptoRow, standIns := [], harness := (true, "9008be9137a10f75bae97ddda40d45cd7f287e820a554970d5a8be9c1510c6a2"), looks := true }, kinds := [], alts := [], laidByText := true, laidKinds := [.data, .data, .data, .data, .sentinel, .sentinel, .pinned], laidTests := true, laidLooks := .later }
def ParserModulesUptoCardSaid : Prop := Claim7.holds Tryz.pinned (.plain (OpenSpec.upto parserModulesSpec)) parserModulesUptoCard

/-- THE SECOND FORM's CARD OF 'modcertlaw05.ParserForms'. -/
def parserFormsUptoCard : Claim7 := { stood := { row := parserFormsUptoRow, standIns := [], harness := (true, "9008be9137a10f75bae97ddda40d45cd7f287e820a554970d5a8be9c1510c6a2"), looks := true }, kinds := [], alts := [], laidByText := true, laidKinds := [.data, .data, .data, .data, .sentinel, .sentinel, .pinned], laidTests := true, laidLooks := .later }
def ParserFormsUptoCardSaid : Prop := Claim7.holds Tryz.pinned (.plain (OpenSpec.upto parserFormsSpec)) parserFormsUptoCard

/-- THE SECOND FORM's CARD OF 'modcertlaw05.ParserCuts'. -/
def parserCutsUptoCard : Claim7 := { stood := { row := parserCutsUptoRow, standIns := [], harness := (true, "9008be9137a10f75bae97ddda40d45cd7f287e820a554970d5a8be9c1510c6a2"), looks := true }, kinds := [], alts := [], laidByText := true, laidKinds := [.data, .data, .data, .data, .sentinel, .sentinel, .pinned], laidTests := true, laidLooks := .later }
def ParserCutsUptoCardSaid : Prop := Claim7.holds Tryz.pinned (.plain (OpenSpec.upto parserCutsSpec)) parserCutsUptoCard

/-- THE SECOND FORM's CARD OF 'modcertlaw05.ParserAscribes'. -/
def parserAscribesUptoCard : Claim7 := { stood := { row := parserAscribesUptoRow, standIns := [], harness := (true, "9008be9137a10f75bae97ddda40d45cd7f287e820a554970d5a8be9c1510c6a2"), looks := true }, kinds := [], alts := [], laidByText := true, laidKinds := [.data, .data, .data, .data, .sentinel, .sentinel, .pinned], laidTests := true, laidLooks := .later }
def ParserAscribesUptoCardSaid : Prop := Claim7.holds Tryz.pinned (.plain (OpenSpec.upto parserAscribesSpec)) parserAscribesUptoCard

/-- THE SECOND FORM's CARD OF 'modcertlaw05.ParserOperators'. -/
def parserOperatorsUptoCard : Claim7 := { stood := { row := parserOperatorsUptoRow, standIns := [], harness := (true, "9008be9137a10f75bae97ddda40d45cd7f287e820a554970d5a8be9c1510c6a2"), looks := true }, kinds := [], alts := [], laidByText := true, laidKinds := [.data, .data, .data, .data, .sentinel, .sentinel, .pinned], laidTests := true, laidLooks := .later }
def ParserOperatorsUptoCardSaid : Prop := Claim7.holds Tryz.pinned (.plain (OpenSpec.upto parserOperatorsSpec)) parserOperatorsUptoCard

/-- THE SECOND FORM's CARD OF 'modcertlaw05.ParserBlanks'. -/
def parserBlanksUptoCard : Claim7 := { stood := { row := parserBlanksUptoRow, standIns := [], harness := (true, "9008be9137a10f75bae97ddda40d45cd7f287e820a554970d5a8be9c1510c6a2"), looks := true }, kinds := [], alts := [], laidByText := true, laidKinds := [.data, .data, .data, .data, .sentinel, .sentinel, .pinned], laidTests := true, laidLooks := .later }
def ParserBlanksUptoCardSaid : Prop := Claim7.holds Tryz.pinned (.plain (OpenSpec.upto parserBlanksSpec)) parserBlanksUptoCard
end Rows
end Go.Proofs.YthdgpejippohnaaGreatDoor
