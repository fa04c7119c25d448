/-
  DERIVED. GIVEN WITH THE SEED: THE CARDS: each row of YtlgfdnaddchlhaaGreatDoorRows.lean that lists a variable, with what it lists TIED to the program's text (the seventh form; the later family's looks); each row that meets fmt, with fmt's text TOLD by the authors' own Lean function (tested against real Go, not proved from fmt's source: count such statements apart). THE CARD IS WHAT COUNTS. Prove the row's statement (the work); the ties are given (YtlgfdnaddchlhaaGreatDoorTie.lean); close each card by the builder's one call (the guide's Derived/Test/ToyasCard.lean, 'card_holds'). Laid BY PROGRAM, IN A SANDBOX (cutbox-door.mjs). By AI agents, Wed Nov 11 2026. No macro, syntax, notation, axiom, sorry.
-/
import Derived.Test.YtlgfdnaddchlhaaGreatDoorRows
import GoSem.ClaimSeven
namespace Go.Proofs.YtlgfdnaddchlhaaGreatDoor
namespace Rows

/-- THE TIED CARD OF 'sledgelaw12.AsmOperands'. -/
def asmOperandsCard : Claim7 := { stood := { row := asmOperandsRow, standIns := [], harness := (true, "fad5c90bfb197f08d4300e96b0c954b7dc01fcca28426177ceb5600d5fd10929"), looks := true }, kinds := [], alts := [], laidByText := true, laidKinds := [.data, .data, .data, .data, .sentinel, .sentinel, .listed, .data, .pinned], laidTests := true, laidLooks := .later }
def AsmOperandsCardSaid : Prop := Claim7.holds Tryz.pinned (.plain (OpenSpec.ofChange asmOperandsSpec)) asmOperandsCard

/-- THE TIED CARD OF 'sledgelaw12.AsmDatas'. -/
def asmDatasCard : Claim7 := { stood := { row := asmDatasRow, standIns := [], harness := (true, "fad5c90bfb197f08d4300e96b0c954b7dc01fcca28426177ceb5600d5fd10929"), looks := true }, kinds := [], alts := [], laidByText := true, laidKinds := [.data, .data, .data, .data, .sentinel, .sentinel, .listed, .data, .pinned], laidTests := true, laidLooks := .later }
def AsmDatasCardSaid : Prop := Claim7.holds Tryz.pinned (.plain (OpenSpec.ofChange asmDatasSpec)) asmDatasCard

/-- THE TIED CARD OF 'sledgelaw12.AsmGlobals'. -/
def asmGlobalsCard : Claim7 := { stood := { row := asmGlobalsRow, standIns := [], harness := (true, "fad5c90bfb197f08d4300e96b0c954b7dc01fcca28426177ceb5600d5fd10929"), looks := true }, kinds := [], alts := [], laidByText := true, laidKinds := [.data, .data, .data, .data, .sentinel, .sentinel, .listed, .data, .pinned], laidTests := true, laidLooks := .later }
def AsmGlobalsCardSaid : Prop := Claim7.holds Tryz.pinned (.plain (OpenSpec.ofChange asmGlobalsSpec)) asmGlobalsCard

/-- THE TIED CARD OF 'sledgelaw12.AsmLimits'. -/
def asmLimitsCard : Claim7 := { stood := { row := asmLimitsRow, standIns := [], harness := (true, "fad5c90bfb197f08d4300e96b0c954b7dc01fcca28426177ceb5600d5fd10929"), looks := true }, kinds := [], alts := [], laidByText := true, laidKinds := [.data, .data, .data, .data, .sentinel, .sentinel, .listed, .data, .pinned], laidTests := true, laidLooks := .later }
def AsmLimitsCardSaid : Prop := Claim7.holds Tryz.pinned (.plain (OpenSpec.ofChange asmLimitsSpec)) asmLimitsCard

/-- THE TIED CARD OF 'sledgelaw12.AsmFront'. -/
def asmFrontCard : Claim7 := { stood := { row := asmFrontRow, standIns := [], harness := (true, "fad5c90bfb197f08d4300e96b0c954b7dc01fcca28426177ceb5600d5fd10929"), looks := true }, kinds := [], alts := [], laidByText := true, laidKinds := [.data, .data, .data, .data, .sentinel, .sentinel, .listed, .data, .pinned], laidTests := true, laidLooks := .later }
def AsmFrontCardSaid : Prop := Claim7.holds Tryz.pinned (.plain (OpenSpec.ofChange asmFrontSpec)) asmFrontCard

/-- THE TIED CARD OF 'sledgelaw12.AsmEach'. -/
def asmEachCard : Claim7 := { stood := { row := asmEachRow, standIns := [], harness := (true, "fad5c90bfb197f08d4300e96b0c954b7dc01fcca28426177ceb5600d5fd10929"), looks := true }, kinds := [], alts := [], laidByText := true, laidKinds := [.data, .data, .data, .data, .sentinel, .sentinel, .listed, .data, .pinned], laidTests := true, laidLooks := .later }
def AsmEachCardSaid : Prop := Claim7.holds Tryz.pinned (.plain (OpenSpec.ofChange asmEachSpec)) asmEachCard

/-- THE SECOND FORM's CARD OF 'sledgelaw12.AsmOperands'. -/
def asmOperandsUptoCard : Claim7 := { stood := { row := asmOperandsUptoRow, standIns := [], harness := (true, "fad5c90bfb197f08d4300e96b0c954b7dc01fcca28426177ceb5600d5fd10929"), looks := true }, kinds := [], alts := [], laidByText := true, laidKinds := [.data, .data, .data, .data, .sentinel, .sentinel, .listed, .data, .pinned], laidTests := true, laidLooks := .later }
def AsmOperandsUptoCardSaid : Prop := Claim7.holds Tryz.pinned (.plain (OpenSpec.upto asmOperandsSpec)) asmOperandsUptoCard

/-- THE SECOND FORM's CARD OF 'sledgelaw12.AsmDatas'. -/
def asmDatasUptoCard : Claim7 := { stood := { row := asmDatasUptoRow, standIns := [], harness := (true, "fad5c90bfb197f08d4300e96b0c954b7dc01fcca28426177ceb5600d5fd10929"), looks := true }, kinds := [], alts := [], laidByText := true, laidKinds := [.data, .data, .data, .data, .sentinel, .sentinel, .listed, .data, .pinned], laidTests := true, laidLooks := .later }
def AsmDatasUptoCardSaid : Prop := Claim7.holds Tryz.pinned (.plain (OpenSpec.upto asmDatasSpec)) asmDatasUptoCard

/-- THE SECOND FORM's CARD OF 'sledgelaw12.AsmGlobals'. -/
def asmGlobalsUptoCard : Claim7 := { stood := { row := asmGlobalsUptoRow, standIns := [], harness := (true, "fad5c90bfb197f08d4300e96b0c954b7dc01fcca28426177ceb5600d5fd10929"), looks := true }, kinds := [], alts := [], laidByText := true, laidKinds := [.data, .data, .data, .data, .sentinel, .sentinel, .listed, .data, .pinned], laidTests := true, laidLooks := .later }
def AsmGlobalsUptoCardSaid : Prop := Claim7.holds Tryz.pinned (.plain (OpenSpec.upto asmGlobalsSpec)) asmGlobalsUptoCard

/-- THE SECOND FORM's CARD OF 'sledgelaw12.AsmLimits'. -/
def asmLimitsUptoCard : Claim7 := { stood := { row := asmLimitsUptoRow, standIns := [], harness := (true, "fad5c90bfb197f08d4300e96b0c954b7dc01fcca28426177ceb5600d5fd10929"), looks := true }, kinds := [], alts := [], laidByText := true, laidKinds := [.data, .data, .data, .data, .sentinel, .sentinel, .listed, .data, .pinned], laidTests := true, laidLooks := .later }
def AsmLimitsUptoCardSaid : Prop := Claim7.holds Tryz.pinned (.plain (OpenSpec.upto asmLimitsSpec)) asmLimitsUptoCard

/-- THE SECOND FORM's CARD OF 'sledgelaw12.AsmFront'. -/
def asmFrontUptoCard : Claim7 := { stood := { row := asmFrontUptoRow, standIns := [], harness := (true, "fad5c90bfb197f08d4300e96b0c954b7dc01fcca28426177ceb5600d5fd10929"), looks := true }, kinds := [], alts := [], laidByText := true, laidKinds := [.data, .data, .data, .data, .sentinel, .sentinel, .listed, .data, .pinned], laidTests := true, laidLooks := .later }
def AsmFrontUptoCardSaid : Prop := Claim7.holds Tryz.pinned (.plain (OpenSpec.upto asmFrontSpec)) asmFrontUptoCard

/-- THE SECOND FORM's CARD OF 'sledgelaw12.AsmEach'. -/
def asmEachUptoCard : Claim7 := { stood := { row := asmEachUptoRow, standIns := [], harness := (true, "fad5c90bfb197f08d4300e96b0c954b7dc01fcca28426177ceb5600d5fd10929"), looks := true }, kinds := [], alts := [], laidByText := true, laidKinds := [.data, .data, .data, .data, .sentinel, .sentinel, .listed, .data, .pinned], laidTests := true, laidLooks := .later }
def AsmEachUptoCardSaid : Prop := Claim7.holds Tryz.pinned (.plain (OpenSpec.upto asmEachSpec)) asmEachUptoCard
end Rows
end Go.Proofs.YtlgfdnaddchlhaaGreatDoor
