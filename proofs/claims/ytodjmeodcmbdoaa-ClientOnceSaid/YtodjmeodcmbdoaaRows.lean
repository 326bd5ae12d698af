/-
  No cell of these rows narrows 'for every input' (looked for: loops, veiled, ifaces, maps, wideKeys, modest, calm, conditions, laid).
  DERIVED. THE GIVEN ROWS OF THIS SEAT. 5 by the template 'for every input the law returns true; each argument reads behind the call as it read before'; 0 by the template 'total and deterministic' (their statements: YtodjmeodcmbdoaaTotals.lean).
  GIVEN WITH THE SEED: the statements are not yours to turn. If you find one false, say at which input.
  Laid BY PROGRAM, IN A SANDBOX (cutbox-rows.mjs): the forced cells as the released guide's own fill.sh prints them over the translation b8de79a35102cbc0… (all of the seat's roots in one cut). By AI agents, Wed Nov 11 2026. No macro, syntax, notation, axiom, sorry.
-/
import Derived.Test.YtodjmeodcmbdoaaChecked
import GoSem.Claim
import GoSem.ClaimJoined
import GoSem.ClaimMapViews
import Derived.JoinedTies
import Derived.KernelRfl
namespace Go.Proofs.Ytodjmeodcmbdoaa
/- THE CELL 'sum', in the pinned program and in every row, IS THE sha256 OF THE DUMP (.gsa) THAT YtodjmeodcmbdoaaProg.lean LOADS. Nothing in Lean hashes anything: it is a label: what it is worth is what the hold of that sum in a sandbox is worth. -/
noncomputable def Try.pinned : Pinned := { name := "ytodjmeodcmbdoaa", sum := "b8de79a35102cbc0c88698eeb2a2cda39fdaa598f698c7d79d7f39b954912100", checked := Try.checked }
namespace Rows
def none {H : Type} : Left H := { results := [], args := [] }

/-- 'seisinlaw17.ClientDoes': WHATEVER THE INPUT: true; the input reads as it did. -/
def clientDoesSpec : ChangeSpec := { name := "clientDoes", fn := fun _ => fun
  | [d1, d2, d3] => { results := [.lit (.bool true)], args := [d1, d2, d3] }
  | _ => none }
def clientDoesRow : OpenClaim := { program := "ytodjmeodcmbdoaa", sum := "b8de79a35102cbc0c88698eeb2a2cda39fdaa598f698c7d79d7f39b954912100", func := "seisin/seisinlaw17.ClientDoes", spec := "clientDoes", unfollowed := true, recurses := true, apart := false }
def ClientDoesSaid : Prop := clientDoesRow.holds Try.pinned (OpenSpec.ofChange clientDoesSpec)

/-- ITS FALSE NEIGHBOUR: 'it returns false'. Refute it at one input. -/
def clientDoesWrong : ChangeSpec := { name := "clientDoes", fn := fun _ => fun
  | [d1, d2, d3] => { results := [.lit (.bool false)], args := [d1, d2, d3] }
  | _ => none }
def ClientDoesWrongFalsely : Prop := clientDoesRow.holds Try.pinned (OpenSpec.ofChange clientDoesWrong)

/-- 'seisinlaw17.ClientOnce': WHATEVER THE INPUT: true; the input reads as it did. -/
def clientOnceSpec : ChangeSpec := { name := "clientOnce", fn := fun _ => fun
  | [d1, d2, d3] => { results := [.lit (.bool true)], args := [d1, d2, d3] }
  | _ => none }
def clientOnceRow : OpenClaim := { program := "ytodjmeodcmbdoaa", sum := "b8de79a35102cbc0c88698eeb2a2cda39fdaa598f698c7d79d7f39b954912100", func := "seisin/seisinlaw17.ClientOnce", spec := "clientOnce", unfollowed := true, recurses := true, apart := false }
def ClientOnceSaid : Prop := clientOnceRow.holds Try.pinned (OpenSpec.ofChange clientOnceSpec)

/-- ITS FALSE NEIGHBOUR: 'it returns false'. Refute it at one input. -/
def clientOnceWrong : ChangeSpec := { name := "clientOnce", fn := fun _ => fun
  | [d1, d2, d3] => { results := [.lit (.bool false)], args := [d1, d2, d3] }
  | _ => none }
def ClientOnceWrongFalsely : Prop := clientOnceRow.holds Try.pinned (OpenSpec.ofChange clientOnceWrong)

/-- 'seisinlaw17.ClientTurns': WHATEVER THE INPUT: true; the input reads as it did. -/
def clientTurnsSpec : ChangeSpec := { name := "clientTurns", fn := fun _ => fun
  | [d1, d2, d3] => { results := [.lit (.bool true)], args := [d1, d2, d3] }
  | _ => none }
def clientTurnsRow : OpenClaim := { program := "ytodjmeodcmbdoaa", sum := "b8de79a35102cbc0c88698eeb2a2cda39fdaa598f698c7d79d7f39b954912100", func := "seisin/seisinlaw17.ClientTurns", spec := "clientTurns", unfollowed := true, recurses := true, apart := false }
def ClientTurnsSaid : Prop := clientTurnsRow.holds Try.pinned (OpenSpec.ofChange clientTurnsSpec)

/-- ITS FALSE NEIGHBOUR: 'it returns false'. Refute it at one input. -/
def clientTurnsWrong : ChangeSpec := { name := "clientTurns", fn := fun _ => fun
  | [d1, d2, d3] => { results := [.lit (.bool false)], args := [d1, d2, d3] }
  | _ => none }
def ClientTurnsWrongFalsely : Prop := clientTurnsRow.holds Try.pinned (OpenSpec.ofChange clientTurnsWrong)

/-- 'seisinlaw17.ClientAll': WHATEVER THE INPUT: true; the input reads as it did. -/
def clientAllSpec : ChangeSpec := { name := "clientAll", fn := fun _ => fun
  | [d1, d2, d3] => { results := [.lit (.bool true)], args := [d1, d2, d3] }
  | _ => none }
def clientAllRow : OpenClaim := { program := "ytodjmeodcmbdoaa", sum := "b8de79a35102cbc0c88698eeb2a2cda39fdaa598f698c7d79d7f39b954912100", func := "seisin/seisinlaw17.ClientAll", spec := "clientAll", unfollowed := true, recurses := true, apart := false }
def ClientAllSaid : Prop := clientAllRow.holds Try.pinned (OpenSpec.ofChange clientAllSpec)

/-- ITS FALSE NEIGHBOUR: 'it returns false'. Refute it at one input. -/
def clientAllWrong : ChangeSpec := { name := "clientAll", fn := fun _ => fun
  | [d1, d2, d3] => { results := [.lit (.bool false)], args := [d1, d2, d3] }
  | _ => none }
def ClientAllWrongFalsely : Prop := clientAllRow.holds Try.pinned (OpenSpec.ofChange clientAllWrong)

/-- 'seisinlaw17.ClientStops': WHATEVER THE INPUT: true; the input reads as it did. -/
def clientStopsSpec : ChangeSpec := { name := "clientStops", fn := fun _ => fun
  | [d1, d2, d3] => { results := [.lit (.bool true)], args := [d1, d2, d3] }
  | _ => none }
def clientStopsRow : OpenClaim := { program := "ytodjmeodcmbdoaa", sum := "b8de79a35102cbc0c88698eeb2a2cda39fdaa598f698c7d79d7f39b954912100", func := "seisin/seisinlaw17.ClientStops", spec := "clientStops", unfollowed := true, recurses := true, apart := false }
def ClientStopsSaid : Prop := clientStopsRow.holds Try.pinned (OpenSpec.ofChange clientStopsSpec)

/-- ITS FALSE NEIGHBOUR: 'it returns false'. Refute it at one input. -/
def clientStopsWrong : ChangeSpec := { name := "clientStops", fn := fun _ => fun
  | [d1, d2, d3] => { results := [.lit (.bool false)], args := [d1, d2, d3] }
  | _ => none }
def ClientStopsWrongFalsely : Prop := clientStopsRow.holds Try.pinned (OpenSpec.ofChange clientStopsWrong)

/- THE SECOND FORM. 'bulk': how many values and letters a reading holds, each counted each time it is reached (what is shared counts as often as it is met; a slice's spare places count too). A statement '..UptoSaid' is the law's where the arguments, and the package variables that the reading takes, are together of bulk at most 1048576: NARROWER than '..Said'. Prove '..Said' where nothing that the law and all that it calls make is longer than what came in: it says more and counts as full. Else prove '..UptoSaid'. A law counts once. -/
mutual
def uptoBulk {H : Type} : DataW H → Nat
  | .lit (.string bytes) => bytes.length + 1
  | .lit _ => 1
  | .nil => 1
  | .ptr d => uptoBulk d + 1
  | .slice elems spare => uptoBulkAll elems + uptoBulkAll spare + 1
  | .agg parts => uptoBulkAll parts + 1
  | .iface _ d => uptoBulk d + 1
  | .map entries => uptoBulkEntries entries + 1
  | .held _ => 1
def uptoBulkAll {H : Type} : List (DataW H) → Nat
  | [] => 0
  | d :: r => uptoBulk d + uptoBulkAll r
def uptoBulkEntries {H : Type} : List (Lit × DataW H) → Nat
  | [] => 0
  | x :: r => uptoBulkEntry x + uptoBulkEntries r
def uptoBulkEntry {H : Type} : Lit × DataW H → Nat
  | (.string bytes, d) => bytes.length + uptoBulk d + 1
  | (_, d) => uptoBulk d + 1
 end
def uptoSmall : (H : Type) → List (DataW H) → Bool := fun _ ds => decide (uptoBulkAll ds ≤ 1048576)
def OpenSpec.upto (s : _root_.Go.ChangeSpec) : _root_.Go.OpenSpec := { _root_.Go.OpenSpec.ofChange s with cond := some uptoSmall }

/-- 'seisinlaw17.ClientDoes', WHERE WHAT IT READS IS OF BULK AT MOST 1048576: true; the input reads as it did. -/
def clientDoesUptoRow : OpenClaim := { program := "ytodjmeodcmbdoaa", sum := "b8de79a35102cbc0c88698eeb2a2cda39fdaa598f698c7d79d7f39b954912100", func := "seisin/seisinlaw17.ClientDoes", spec := "clientDoes", unfollowed := true, recurses := true, apart := false, narrowed := true }
def ClientDoesUptoSaid : Prop := clientDoesUptoRow.holds Try.pinned (OpenSpec.upto clientDoesSpec)

/-- 'seisinlaw17.ClientOnce', WHERE WHAT IT READS IS OF BULK AT MOST 1048576: true; the input reads as it did. -/
def clientOnceUptoRow : OpenClaim := { program := "ytodjmeodcmbdoaa", sum := "b8de79a35102cbc0c88698eeb2a2cda39fdaa598f698c7d79d7f39b954912100", func := "seisin/seisinlaw17.ClientOnce", spec := "clientOnce", unfollowed := true, recurses := true, apart := false, narrowed := true }
def ClientOnceUptoSaid : Prop := clientOnceUptoRow.holds Try.pinned (OpenSpec.upto clientOnceSpec)

/-- 'seisinlaw17.ClientTurns', WHERE WHAT IT READS IS OF BULK AT MOST 1048576: true; the input reads as it did. -/
def clientTurnsUptoRow : OpenClaim := { program := "ytodjmeodcmbdoaa", sum := "b8de79a35102cbc0c88698eeb2a2cda39fdaa598f698c7d79d7f39b954912100", func := "seisin/seisinlaw17.ClientTurns", spec := "clientTurns", unfollowed := true, recurses := true, apart := false, narrowed := true }
def ClientTurnsUptoSaid : Prop := clientTurnsUptoRow.holds Try.pinned (OpenSpec.upto clientTurnsSpec)

/-- 'seisinlaw17.ClientAll', WHERE WHAT IT READS IS OF BULK AT MOST 1048576: true; the input reads as it did. -/
def clientAllUptoRow : OpenClaim := { program := "ytodjmeodcmbdoaa", sum := "b8de79a35102cbc0c88698eeb2a2cda39fdaa598f698c7d79d7f39b954912100", func := "seisin/seisinlaw17.ClientAll", spec := "clientAll", unfollowed := true, recurses := true, apart := false, narrowed := true }
def ClientAllUptoSaid : Prop := clientAllUptoRow.holds Try.pinned (OpenSpec.upto clientAllSpec)

/-- 'seisinlaw17.ClientStops', WHERE WHAT IT READS IS OF BULK AT MOST 1048576: true; the input reads as it did. -/
def clientStopsUptoRow : OpenClaim := { program := "ytodjmeodcmbdoaa", sum := "b8de79a35102cbc0c88698eeb2a2cda39fdaa598f698c7d79d7f39b954912100", func := "seisin/seisinlaw17.ClientStops", spec := "clientStops", unfollowed := true, recurses := true, apart := false, narrowed := true }
def ClientStopsUptoSaid : Prop := clientStopsUptoRow.holds Try.pinned (OpenSpec.upto clientStopsSpec)

end Rows
end Go.Proofs.Ytodjmeodcmbdoaa
