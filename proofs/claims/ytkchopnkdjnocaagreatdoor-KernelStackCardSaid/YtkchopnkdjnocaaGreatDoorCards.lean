/-
  DERIVED. GIVEN WITH THE SEED: THE CARDS: each row of YtkchopnkdjnocaaGreatDoorRows.lean that lists a variable, with what it lists TIED to the program's text (the seventh form; the later family's looks); each row that meets fmt, with fmt's text TOLD by the authors' own Lean function (tested against real Go, not proved from fmt's source: count such statements apart). THE CARD IS WHAT COUNTS. Prove the row's statement (the work); the ties are given (YtkchopnkdjnocaaGreatDoorTie.lean); close each card by the builder's one call (the guide's Derived/Test/ToyasCard.lean, 'card_holds'). Laid BY PROGRAM, IN A SANDBOX (cutbox-door.mjs). By AI agents, Wed Nov 11 2026. No macro, syntax, notation, axiom, sorry.
-/
import Derived.Test.YtkchopnkdjnocaaGreatDoorRows
import GoSem.ClaimSeven
namespace Go.Proofs.YtkchopnkdjnocaaGreatDoor
namespace Rows

/-- THE TIED CARD OF 'keellaw13.KernelFull'. -/
def kernelFullCard : Claim7 := { stood := { row := kernelFullRow, standIns := [], harness := (true, "5bd7017f67cfee481699d1ca31bb6c6dff9c8cb69d7e3b3470a1171b4ca4506a"), looks := true }, kinds := [], alts := [], laidByText := true, laidKinds := [.data, .data, .data, .sentinel, .sentinel], laidTests := true, laidLooks := .later }
def KernelFullCardSaid : Prop := Claim7.holds Tryz.pinned (.plain (OpenSpec.ofChange kernelFullSpec)) kernelFullCard

/-- THE TIED CARD OF 'keellaw13.KernelStack'. -/
def kernelStackCard : Claim7 := { stood := { row := kernelStackRow, standIns := [], harness := (true, "5bd7017f67cfee481699d1ca31bb6c6dff9c8cb69d7e3b3470a1171b4ca4506a"), looks := true }, kinds := [], alts := [], laidByText := true, laidKinds := [.data, .data, .data, .sentinel, .sentinel], laidTests := true, laidLooks := .later }
def KernelStackCardSaid : Prop := Claim7.holds Tryz.pinned (.plain (OpenSpec.ofChange kernelStackSpec)) kernelStackCard

/-- THE TIED CARD OF 'keellaw13.KernelBusy'. -/
def kernelBusyCard : Claim7 := { stood := { row := kernelBusyRow, standIns := [], harness := (true, "5bd7017f67cfee481699d1ca31bb6c6dff9c8cb69d7e3b3470a1171b4ca4506a"), looks := true }, kinds := [], alts := [], laidByText := true, laidKinds := [.data, .data, .data, .sentinel, .sentinel], laidTests := true, laidLooks := .later }
def KernelBusyCardSaid : Prop := Claim7.holds Tryz.pinned (.plain (OpenSpec.ofChange kernelBusySpec)) kernelBusyCard

/-- THE SECOND FORM's CARD OF 'keellaw13.KernelFull'. -/
def kernelFullUptoCard : Claim7 := { stood := { row := kernelFullUptoRow, standIns := [], harness := (true, "5bd7017f67cfee481699d1ca31bb6c6dff9c8cb69d7e3b3470a1171b4ca4506a"), looks := true }, kinds := [], alts := [], laidByText := true, laidKinds := [.data, .data, .data, .sentinel, .sentinel], laidTests := true, laidLooks := .later }
def KernelFullUptoCardSaid : Prop := Claim7.holds Tryz.pinned (.plain (OpenSpec.upto kernelFullSpec)) kernelFullUptoCard

/-- THE SECOND FORM's CARD OF 'keellaw13.KernelStack'. -/
def kernelStackUptoCard : Claim7 := { stood := { row := kernelStackUptoRow, standIns := [], harness := (true, "5bd7017f67cfee481699d1ca31bb6c6dff9c8cb69d7e3b3470a1171b4ca4506a"), looks := true }, kinds := [], alts := [], laidByText := true, laidKinds := [.data, .data, .data, .sentinel, .sentinel], laidTests := true, laidLooks := .later }
def KernelStackUptoCardSaid : Prop := Claim7.holds Tryz.pinned (.plain (OpenSpec.upto kernelStackSpec)) kernelStackUptoCard

/-- THE SECOND FORM's CARD OF 'keellaw13.KernelBusy'. -/
def kernelBusyUptoCard : Claim7 := { stood := { row := kernelBusyUptoRow, standIns := [], harness := (true, "5bd7017f67cfee481699d1ca31bb6c6dff9c8cb69d7e3b3470a1171b4ca4506a"), looks := true }, kinds := [], alts := [], laidByText := true, laidKinds := [.data, .data, .data, .sentinel, .sentinel], laidTests := true, laidLooks := .later }
def KernelBusyUptoCardSaid : Prop := Claim7.holds Tryz.pinned (.plain (OpenSpec.upto kernelBusySpec)) kernelBusyUptoCard
end Rows
end Go.Proofs.YtkchopnkdjnocaaGreatDoor
