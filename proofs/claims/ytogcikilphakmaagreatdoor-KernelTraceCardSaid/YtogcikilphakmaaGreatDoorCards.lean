/-
  DERIVED. GIVEN WITH THE SEED: THE CARDS: each row of YtogcikilphakmaaGreatDoorRows.lean that lists a variable, with what it lists TIED to the program's text (the seventh form; the later family's looks); each row that meets fmt, with fmt's text TOLD by the authors' own Lean function (tested against real Go, not proved from fmt's source: count such statements apart). THE CARD IS WHAT COUNTS. Prove the row's statement (the work); the ties are given (YtogcikilphakmaaGreatDoorTie.lean); close each card by the builder's one call (the guide's Derived/Test/ToyasCard.lean, 'card_holds'). Laid BY PROGRAM, IN A SANDBOX (cutbox-door.mjs). By AI agents, Wed Nov 11 2026. No macro, syntax, notation, axiom, sorry.
-/
import Derived.Test.YtogcikilphakmaaGreatDoorRows
import GoSem.ClaimSeven
namespace Go.Proofs.YtogcikilphakmaaGreatDoor
namespace Rows

/-- THE TIED CARD OF 'keellaw13.KernelRuns'. -/
def kernelRunsCard : Claim7 := { stood := { row := kernelRunsRow, standIns := [], harness := (true, "d12a1d380379f910f5ecab4b80acdf9c4c7c08fb4d6e4de40c433f51e307bedb"), looks := true }, kinds := [], alts := [], laidByText := true, laidKinds := [.data, .data, .data, .sentinel, .sentinel], laidTests := true, laidLooks := .later }
def KernelRunsCardSaid : Prop := Claim7.holds Tryz.pinned (.plain (OpenSpec.ofChange kernelRunsSpec)) kernelRunsCard

/-- THE TIED CARD OF 'keellaw13.KernelTrace'. -/
def kernelTraceCard : Claim7 := { stood := { row := kernelTraceRow, standIns := [], harness := (true, "d12a1d380379f910f5ecab4b80acdf9c4c7c08fb4d6e4de40c433f51e307bedb"), looks := true }, kinds := [], alts := [], laidByText := true, laidKinds := [.data, .data, .data, .sentinel, .sentinel], laidTests := true, laidLooks := .later }
def KernelTraceCardSaid : Prop := Claim7.holds Tryz.pinned (.plain (OpenSpec.ofChange kernelTraceSpec)) kernelTraceCard

/-- THE SECOND FORM's CARD OF 'keellaw13.KernelRuns'. -/
def kernelRunsUptoCard : Claim7 := { stood := { row := kernelRunsUptoRow, standIns := [], harness := (true, "d12a1d380379f910f5ecab4b80acdf9c4c7c08fb4d6e4de40c433f51e307bedb"), looks := true }, kinds := [], alts := [], laidByText := true, laidKinds := [.data, .data, .data, .sentinel, .sentinel], laidTests := true, laidLooks := .later }
def KernelRunsUptoCardSaid : Prop := Claim7.holds Tryz.pinned (.plain (OpenSpec.upto kernelRunsSpec)) kernelRunsUptoCard

/-- THE SECOND FORM's CARD OF 'keellaw13.KernelTrace'. -/
def kernelTraceUptoCard : Claim7 := { stood := { row := kernelTraceUptoRow, standIns := [], harness := (true, "d12a1d380379f910f5ecab4b80acdf9c4c7c08fb4d6e4de40c433f51e307bedb"), looks := true }, kinds := [], alts := [], laidByText := true, laidKinds := [.data, .data, .data, .sentinel, .sentinel], laidTests := true, laidLooks := .later }
def KernelTraceUptoCardSaid : Prop := Claim7.holds Tryz.pinned (.plain (OpenSpec.upto kernelTraceSpec)) kernelTraceUptoCard
end Rows
end Go.Proofs.YtogcikilphakmaaGreatDoor
