/-
  No cell of these rows narrows 'for every input' (looked for: loops, veiled, ifaces, maps, wideKeys, modest, calm, conditions, laid).
  DERIVED. THE GIVEN ROWS OF THIS SEAT. 5 by the template 'for every input the law returns true; each argument reads behind the call as it read before'; 0 by the template 'total and deterministic' (their statements: YtdppdmmcnlmdgaaTotals.lean).
  GIVEN WITH THE SEED: the statements are not yours to turn. If you find one false, say at which input.
  Laid BY PROGRAM, IN A SANDBOX (cutbox-rows.mjs): the forced cells as the released guide's own fill.sh prints them over the translation a94a47159f124fbe… (all of the seat's roots in one cut). By AI agents, Wed Nov 11 2026. No macro, syntax, notation, axiom, sorry.
-/
import Derived.Test.YtdppdmmcnlmdgaaChecked
import GoSem.Claim
import GoSem.ClaimJoined
import GoSem.ClaimMapViews
import Derived.JoinedTies
import Derived.KernelRfl
namespace Go.Proofs.Ytdppdmmcnlmdgaa
/- THE CELL 'sum', in the pinned program and in every row, IS THE sha256 OF THE DUMP (.gsa) THAT YtdppdmmcnlmdgaaProg.lean LOADS. Nothing in Lean hashes anything: it is a label: what it is worth is what the hold of that sum in a sandbox is worth. -/
noncomputable def Try.pinned : Pinned := { name := "ytdppdmmcnlmdgaa", sum := "a94a47159f124fbebe8ba12081244491e219aa9fda391ca571a4ef74d8e9b1f4", checked := Try.checked }
namespace Rows
def none {H : Type} : Left H := { results := [], args := [] }

/-- 'keellaw10.ReleaseRuns': WHATEVER THE INPUT: true; the input reads as it did. -/
def releaseRunsSpec : ChangeSpec := { name := "releaseRuns", fn := fun _ => fun
  | [] => { results := [.lit (.bool true)], args := [] }
  | _ => none }
def releaseRunsRow : OpenClaim := { program := "ytdppdmmcnlmdgaa", sum := "a94a47159f124fbebe8ba12081244491e219aa9fda391ca571a4ef74d8e9b1f4", func := "keel/keellaw10.ReleaseRuns", spec := "releaseRuns", apart := false }
def ReleaseRunsSaid : Prop := releaseRunsRow.holds Try.pinned (OpenSpec.ofChange releaseRunsSpec)

/-- ITS FALSE NEIGHBOUR: 'it returns false'. Refute it at one input. -/
def releaseRunsWrong : ChangeSpec := { name := "releaseRuns", fn := fun _ => fun
  | [] => { results := [.lit (.bool false)], args := [] }
  | _ => none }
def ReleaseRunsWrongFalsely : Prop := releaseRunsRow.holds Try.pinned (OpenSpec.ofChange releaseRunsWrong)

/-- 'keellaw10.ReleasePlays': WHATEVER THE INPUT: true; the input reads as it did. -/
def releasePlaysSpec : ChangeSpec := { name := "releasePlays", fn := fun _ => fun
  | [d] => { results := [.lit (.bool true)], args := [d] }
  | _ => none }
def releasePlaysRow : OpenClaim := { program := "ytdppdmmcnlmdgaa", sum := "a94a47159f124fbebe8ba12081244491e219aa9fda391ca571a4ef74d8e9b1f4", func := "keel/keellaw10.ReleasePlays", spec := "releasePlays", unfollowed := true, recurses := true, apart := false }
def ReleasePlaysSaid : Prop := releasePlaysRow.holds Try.pinned (OpenSpec.ofChange releasePlaysSpec)

/-- ITS FALSE NEIGHBOUR: 'it returns false'. Refute it at one input. -/
def releasePlaysWrong : ChangeSpec := { name := "releasePlays", fn := fun _ => fun
  | [d] => { results := [.lit (.bool false)], args := [d] }
  | _ => none }
def ReleasePlaysWrongFalsely : Prop := releasePlaysRow.holds Try.pinned (OpenSpec.ofChange releasePlaysWrong)

/-- 'keellaw10.ReleaseDue': WHATEVER THE INPUT: true; the input reads as it did. -/
def releaseDueSpec : ChangeSpec := { name := "releaseDue", fn := fun _ => fun
  | [d1, d2, d3, d4] => { results := [.lit (.bool true)], args := [d1, d2, d3, d4] }
  | _ => none }
def releaseDueRow : OpenClaim := { program := "ytdppdmmcnlmdgaa", sum := "a94a47159f124fbebe8ba12081244491e219aa9fda391ca571a4ef74d8e9b1f4", func := "keel/keellaw10.ReleaseDue", spec := "releaseDue", apart := false }
def ReleaseDueSaid : Prop := releaseDueRow.holds Try.pinned (OpenSpec.ofChange releaseDueSpec)

/-- ITS FALSE NEIGHBOUR: 'it returns false'. Refute it at one input. -/
def releaseDueWrong : ChangeSpec := { name := "releaseDue", fn := fun _ => fun
  | [d1, d2, d3, d4] => { results := [.lit (.bool false)], args := [d1, d2, d3, d4] }
  | _ => none }
def ReleaseDueWrongFalsely : Prop := releaseDueRow.holds Try.pinned (OpenSpec.ofChange releaseDueWrong)

/-- 'keellaw10.ReleaseGaps': WHATEVER THE INPUT: true; the input reads as it did. -/
def releaseGapsSpec : ChangeSpec := { name := "releaseGaps", fn := fun _ => fun
  | [d1, d2] => { results := [.lit (.bool true)], args := [d1, d2] }
  | _ => none }
def releaseGapsRow : OpenClaim := { program := "ytdppdmmcnlmdgaa", sum := "a94a47159f124fbebe8ba12081244491e219aa9fda391ca571a4ef74d8e9b1f4", func := "keel/keellaw10.ReleaseGaps", spec := "releaseGaps", apart := false }
def ReleaseGapsSaid : Prop := releaseGapsRow.holds Try.pinned (OpenSpec.ofChange releaseGapsSpec)

/-- ITS FALSE NEIGHBOUR: 'it returns false'. Refute it at one input. -/
def releaseGapsWrong : ChangeSpec := { name := "releaseGaps", fn := fun _ => fun
  | [d1, d2] => { results := [.lit (.bool false)], args := [d1, d2] }
  | _ => none }
def ReleaseGapsWrongFalsely : Prop := releaseGapsRow.holds Try.pinned (OpenSpec.ofChange releaseGapsWrong)

/-- 'keellaw10.ReleaseApart': WHATEVER THE INPUT: true; the input reads as it did. -/
def releaseApartSpec : ChangeSpec := { name := "releaseApart", fn := fun _ => fun
  | [d1, d2] => { results := [.lit (.bool true)], args := [d1, d2] }
  | _ => none }
def releaseApartRow : OpenClaim := { program := "ytdppdmmcnlmdgaa", sum := "a94a47159f124fbebe8ba12081244491e219aa9fda391ca571a4ef74d8e9b1f4", func := "keel/keellaw10.ReleaseApart", spec := "releaseApart", apart := false }
def ReleaseApartSaid : Prop := releaseApartRow.holds Try.pinned (OpenSpec.ofChange releaseApartSpec)

/-- ITS FALSE NEIGHBOUR: 'it returns false'. Refute it at one input. -/
def releaseApartWrong : ChangeSpec := { name := "releaseApart", fn := fun _ => fun
  | [d1, d2] => { results := [.lit (.bool false)], args := [d1, d2] }
  | _ => none }
def ReleaseApartWrongFalsely : Prop := releaseApartRow.holds Try.pinned (OpenSpec.ofChange releaseApartWrong)

/- THE SECOND FORM. 'bulk': how many values and letters a reading holds, each counted each time it is reached (what is shared counts as often as it is met; a slice's spare places count too). A statement '..UptoSaid' is the law's where the arguments, and the package variables that the reading takes, are together of bulk at most 1048576: NARROWER than '..Said'. Prove '..Said' where nothing that the law and all that it calls make is longer than what came in: it says more and counts as full. Else prove '..UptoSaid'. A law counts once. -/
mutual
def uptoBulk {H : Type} : DataW H → Nat
  | .lit (.string bytes) => bytes.length + 1
  | .lit _ => 1
  | .nil => 1
  | .ptr d => uptoBulk d + 1
  | .slice elems spare => uptoBulkAll elems + uptoBulkAll spare + 1
  | .agg parts => uptoBulkAll parts + 1
  | .iface _ d => uptoBulk d + 1
  | .map entries => uptoBulkEntries entries + 1
  | .held _ => 1
def uptoBulkAll {H : Type} : List (DataW H) → Nat
  | [] => 0
  | d :: r => uptoBulk d + uptoBulkAll r
def uptoBulkEntries {H : Type} : List (Lit × DataW H) → Nat
  | [] => 0
  | x :: r => uptoBulkEntry x + uptoBulkEntries r
def uptoBulkEntry {H : Type} : Lit × DataW H → Nat
  | (.string bytes, d) => bytes.length + uptoBulk d + 1
  | (_, d) => uptoBulk d + 1
 end
def uptoSmall : (H : Type) → List (DataW H) → Bool := fun _ ds => decide (uptoBulkAll ds ≤ 1048576)
def OpenSpec.upto (s : _root_.Go.ChangeSpec) : _root_.Go.OpenSpec := { _root_.Go.OpenSpec.ofChange s with cond := some uptoSmall }

/-- 'keellaw10.ReleaseRuns', WHERE WHAT IT READS IS OF BULK AT MOST 1048576: true; the input reads as it did. -/
def releaseRunsUptoRow : OpenClaim := { program := "ytdppdmmcnlmdgaa", sum := "a94a47159f124fbebe8ba12081244491e219aa9fda391ca571a4ef74d8e9b1f4", func := "keel/keellaw10.ReleaseRuns", spec := "releaseRuns", apart := false, narrowed := true }
def ReleaseRunsUptoSaid : Prop := releaseRunsUptoRow.holds Try.pinned (OpenSpec.upto releaseRunsSpec)

/-- 'keellaw10.ReleasePlays', WHERE WHAT IT READS IS OF BULK AT MOST 1048576: true; the input reads as it did. -/
def releasePlaysUptoRow : OpenClaim := { program := "ytdppdmmcnlmdgaa", sum := "a94a47159f124fbebe8ba12081244491e219aa9fda391ca571a4ef74d8e9b1f4", func := "keel/keellaw10.ReleasePlays", spec := "releasePlays", unfollowed := true, recurses := true, apart := false, narrowed := true }
def ReleasePlaysUptoSaid : Prop := releasePlaysUptoRow.holds Try.pinned (OpenSpec.upto releasePlaysSpec)

/-- 'keellaw10.ReleaseDue', WHERE WHAT IT READS IS OF BULK AT MOST 1048576: true; the input reads as it did. -/
def releaseDueUptoRow : OpenClaim := { program := "ytdppdmmcnlmdgaa", sum := "a94a47159f124fbebe8ba12081244491e219aa9fda391ca571a4ef74d8e9b1f4", func := "keel/keellaw10.ReleaseDue", spec := "releaseDue", apart := false, narrowed := true }
def ReleaseDueUptoSaid : Prop := releaseDueUptoRow.holds Try.pinned (OpenSpec.upto releaseDueSpec)

/-- 'keellaw10.ReleaseGaps', WHERE WHAT IT READS IS OF BULK AT MOST 1048576: true; the input reads as it did. -/
def releaseGapsUptoRow : OpenClaim := { program := "ytdppdmmcnlmdgaa", sum := "a94a47159f124fbebe8ba12081244491e219aa9fda391ca571a4ef74d8e9b1f4", func := "keel/keellaw10.ReleaseGaps", spec := "releaseGaps", apart := false, narrowed := true }
def ReleaseGapsUptoSaid : Prop := releaseGapsUptoRow.holds Try.pinned (OpenSpec.upto releaseGapsSpec)

/-- 'keellaw10.ReleaseApart', WHERE WHAT IT READS IS OF BULK AT MOST 1048576: true; the input reads as it did. -/
def releaseApartUptoRow : OpenClaim := { program := "ytdppdmmcnlmdgaa", sum := "a94a47159f124fbebe8ba12081244491e219aa9fda391ca571a4ef74d8e9b1f4", func := "keel/keellaw10.ReleaseApart", spec := "releaseApart", apart := false, narrowed := true }
def ReleaseApartUptoSaid : Prop := releaseApartUptoRow.holds Try.pinned (OpenSpec.upto releaseApartSpec)

end Rows
end Go.Proofs.Ytdppdmmcnlmdgaa
