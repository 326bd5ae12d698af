/-
  No cell of these rows narrows 'for every input' (looked for: loops, veiled, ifaces, maps, wideKeys, modest, calm, conditions, laid).
  DERIVED. THE GIVEN ROWS OF THIS SEAT. 8 by the template 'for every input the law returns true; each argument reads behind the call as it read before'; 0 by the template 'total and deterministic' (their statements: YtkajkomljgdghaaTotals.lean).
  GIVEN WITH THE SEED: the statements are not yours to turn. If you find one false, say at which input.
  Laid BY PROGRAM, IN A SANDBOX (cutbox-rows.mjs): the forced cells as the released guide's own fill.sh prints them over the translation 630be02beea650eb… (all of the seat's roots in one cut). By AI agents, Wed Nov 11 2026. No macro, syntax, notation, axiom, sorry.
-/
import Derived.Test.YtkajkomljgdghaaChecked
import GoSem.Claim
import GoSem.ClaimJoined
import GoSem.ClaimMapViews
import Derived.JoinedTies
import Derived.KernelRfl
namespace Go.Proofs.Ytkajkomljgdghaa
/- THE CELL 'sum', in the pinned program and in every row, IS THE sha256 OF THE DUMP (.gsa) THAT YtkajkomljgdghaaProg.lean LOADS. Nothing in Lean hashes anything: it is a label: what it is worth is what the hold of that sum in a sandbox is worth. -/
noncomputable def Try.pinned : Pinned := { name := "ytkajkomljgdghaa", sum := "630be02beea650ebc6422c6e709e7bf319ed4649c939e6868174434d11864497", checked := Try.checked }
namespace Rows
def none {H : Type} : Left H := { results := [], args := [] }

/-- 'seisinlaw18.LinTells': WHATEVER THE INPUT: true; the input reads as it did. -/
def linTellsSpec : ChangeSpec := { name := "linTells", fn := fun _ => fun
  | [d] => { results := [.lit (.bool true)], args := [d] }
  | _ => none }
def linTellsRow : OpenClaim := { program := "ytkajkomljgdghaa", sum := "630be02beea650ebc6422c6e709e7bf319ed4649c939e6868174434d11864497", func := "seisin/seisinlaw18.LinTells", spec := "linTells", recurses := true, plainKeys := false, apart := false }
def LinTellsSaid : Prop := linTellsRow.holds Try.pinned (OpenSpec.ofChange linTellsSpec)

/-- ITS FALSE NEIGHBOUR: 'it returns false'. Refute it at one input. -/
def linTellsWrong : ChangeSpec := { name := "linTells", fn := fun _ => fun
  | [d] => { results := [.lit (.bool false)], args := [d] }
  | _ => none }
def LinTellsWrongFalsely : Prop := linTellsRow.holds Try.pinned (OpenSpec.ofChange linTellsWrong)

/-- 'seisinlaw18.LinMade': WHATEVER THE INPUT: true; the input reads as it did. -/
def linMadeSpec : ChangeSpec := { name := "linMade", fn := fun _ => fun
  | [d1, d2, d3, d4] => { results := [.lit (.bool true)], args := [d1, d2, d3, d4] }
  | _ => none }
def linMadeRow : OpenClaim := { program := "ytkajkomljgdghaa", sum := "630be02beea650ebc6422c6e709e7bf319ed4649c939e6868174434d11864497", func := "seisin/seisinlaw18.LinMade", spec := "linMade", recurses := true, plainKeys := false, apart := false }
def LinMadeSaid : Prop := linMadeRow.holds Try.pinned (OpenSpec.ofChange linMadeSpec)

/-- ITS FALSE NEIGHBOUR: 'it returns false'. Refute it at one input. -/
def linMadeWrong : ChangeSpec := { name := "linMade", fn := fun _ => fun
  | [d1, d2, d3, d4] => { results := [.lit (.bool false)], args := [d1, d2, d3, d4] }
  | _ => none }
def LinMadeWrongFalsely : Prop := linMadeRow.holds Try.pinned (OpenSpec.ofChange linMadeWrong)

/-- 'seisinlaw18.LinTurned': WHATEVER THE INPUT: true; the input reads as it did. -/
def linTurnedSpec : ChangeSpec := { name := "linTurned", fn := fun _ => fun
  | [d] => { results := [.lit (.bool true)], args := [d] }
  | _ => none }
def linTurnedRow : OpenClaim := { program := "ytkajkomljgdghaa", sum := "630be02beea650ebc6422c6e709e7bf319ed4649c939e6868174434d11864497", func := "seisin/seisinlaw18.LinTurned", spec := "linTurned", recurses := true, plainKeys := false, apart := false }
def LinTurnedSaid : Prop := linTurnedRow.holds Try.pinned (OpenSpec.ofChange linTurnedSpec)

/-- ITS FALSE NEIGHBOUR: 'it returns false'. Refute it at one input. -/
def linTurnedWrong : ChangeSpec := { name := "linTurned", fn := fun _ => fun
  | [d] => { results := [.lit (.bool false)], args := [d] }
  | _ => none }
def LinTurnedWrongFalsely : Prop := linTurnedRow.holds Try.pinned (OpenSpec.ofChange linTurnedWrong)

/-- 'seisinlaw18.LinApart': WHATEVER THE INPUT: true; the input reads as it did. -/
def linApartSpec : ChangeSpec := { name := "linApart", fn := fun _ => fun
  | [d] => { results := [.lit (.bool true)], args := [d] }
  | _ => none }
def linApartRow : OpenClaim := { program := "ytkajkomljgdghaa", sum := "630be02beea650ebc6422c6e709e7bf319ed4649c939e6868174434d11864497", func := "seisin/seisinlaw18.LinApart", spec := "linApart", recurses := true, plainKeys := false, apart := false }
def LinApartSaid : Prop := linApartRow.holds Try.pinned (OpenSpec.ofChange linApartSpec)

/-- ITS FALSE NEIGHBOUR: 'it returns false'. Refute it at one input. -/
def linApartWrong : ChangeSpec := { name := "linApart", fn := fun _ => fun
  | [d] => { results := [.lit (.bool false)], args := [d] }
  | _ => none }
def LinApartWrongFalsely : Prop := linApartRow.holds Try.pinned (OpenSpec.ofChange linApartWrong)

/-- 'seisinlaw18.LinLost': WHATEVER THE INPUT: true; the input reads as it did. -/
def linLostSpec : ChangeSpec := { name := "linLost", fn := fun _ => fun
  | [d1, d2] => { results := [.lit (.bool true)], args := [d1, d2] }
  | _ => none }
def linLostRow : OpenClaim := { program := "ytkajkomljgdghaa", sum := "630be02beea650ebc6422c6e709e7bf319ed4649c939e6868174434d11864497", func := "seisin/seisinlaw18.LinLost", spec := "linLost", recurses := true, plainKeys := false, apart := false }
def LinLostSaid : Prop := linLostRow.holds Try.pinned (OpenSpec.ofChange linLostSpec)

/-- ITS FALSE NEIGHBOUR: 'it returns false'. Refute it at one input. -/
def linLostWrong : ChangeSpec := { name := "linLost", fn := fun _ => fun
  | [d1, d2] => { results := [.lit (.bool false)], args := [d1, d2] }
  | _ => none }
def LinLostWrongFalsely : Prop := linLostRow.holds Try.pinned (OpenSpec.ofChange linLostWrong)

/-- 'seisinlaw18.LinReads': WHATEVER THE INPUT: true; the input reads as it did. -/
def linReadsSpec : ChangeSpec := { name := "linReads", fn := fun _ => fun
  | [d1, d2, d3] => { results := [.lit (.bool true)], args := [d1, d2, d3] }
  | _ => none }
def linReadsRow : OpenClaim := { program := "ytkajkomljgdghaa", sum := "630be02beea650ebc6422c6e709e7bf319ed4649c939e6868174434d11864497", func := "seisin/seisinlaw18.LinReads", spec := "linReads", recurses := true, plainKeys := false, apart := false }
def LinReadsSaid : Prop := linReadsRow.holds Try.pinned (OpenSpec.ofChange linReadsSpec)

/-- ITS FALSE NEIGHBOUR: 'it returns false'. Refute it at one input. -/
def linReadsWrong : ChangeSpec := { name := "linReads", fn := fun _ => fun
  | [d1, d2, d3] => { results := [.lit (.bool false)], args := [d1, d2, d3] }
  | _ => none }
def LinReadsWrongFalsely : Prop := linReadsRow.holds Try.pinned (OpenSpec.ofChange linReadsWrong)

/-- 'seisinlaw18.LinMoves': WHATEVER THE INPUT: true; the input reads as it did. -/
def linMovesSpec : ChangeSpec := { name := "linMoves", fn := fun _ => fun
  | [d1, d2] => { results := [.lit (.bool true)], args := [d1, d2] }
  | _ => none }
def linMovesRow : OpenClaim := { program := "ytkajkomljgdghaa", sum := "630be02beea650ebc6422c6e709e7bf319ed4649c939e6868174434d11864497", func := "seisin/seisinlaw18.LinMoves", spec := "linMoves", recurses := true, plainKeys := false, apart := false }
def LinMovesSaid : Prop := linMovesRow.holds Try.pinned (OpenSpec.ofChange linMovesSpec)

/-- ITS FALSE NEIGHBOUR: 'it returns false'. Refute it at one input. -/
def linMovesWrong : ChangeSpec := { name := "linMoves", fn := fun _ => fun
  | [d1, d2] => { results := [.lit (.bool false)], args := [d1, d2] }
  | _ => none }
def LinMovesWrongFalsely : Prop := linMovesRow.holds Try.pinned (OpenSpec.ofChange linMovesWrong)

/-- 'seisinlaw18.LinNothing': WHATEVER THE INPUT: true; the input reads as it did. -/
def linNothingSpec : ChangeSpec := { name := "linNothing", fn := fun _ => fun
  | [d] => { results := [.lit (.bool true)], args := [d] }
  | _ => none }
def linNothingRow : OpenClaim := { program := "ytkajkomljgdghaa", sum := "630be02beea650ebc6422c6e709e7bf319ed4649c939e6868174434d11864497", func := "seisin/seisinlaw18.LinNothing", spec := "linNothing", recurses := true, plainKeys := false, apart := false }
def LinNothingSaid : Prop := linNothingRow.holds Try.pinned (OpenSpec.ofChange linNothingSpec)

/-- ITS FALSE NEIGHBOUR: 'it returns false'. Refute it at one input. -/
def linNothingWrong : ChangeSpec := { name := "linNothing", fn := fun _ => fun
  | [d] => { results := [.lit (.bool false)], args := [d] }
  | _ => none }
def LinNothingWrongFalsely : Prop := linNothingRow.holds Try.pinned (OpenSpec.ofChange linNothingWrong)

/- THE SECOND FORM. 'bulk': how many values and letters a reading holds, each counted each time it is reached (what is shared counts as often as it is met; a slice's spare places count too). A statement '..UptoSaid' is the law's where the arguments, and the package variables that the reading takes, are together of bulk at most 1048576: NARROWER than '..Said'. Prove '..Said' where nothing that the law and all that it calls make is longer than what came in: it says more and counts as full. Else prove '..UptoSaid'. A law counts once. -/
mutual
def uptoBulk {H : Type} : DataW H → Nat
  | .lit (.string bytes) => bytes.length + 1
  | .lit _ => 1
  | .nil => 1
  | .ptr d => uptoBulk d + 1
  | .slice elems spare => uptoBulkAll elems + uptoBulkAll spare + 1
  | .agg parts => uptoBulkAll parts + 1
  | .iface _ d => uptoBulk d + 1
  | .map entries => uptoBulkEntries entries + 1
  | .held _ => 1
def uptoBulkAll {H : Type} : List (DataW H) → Nat
  | [] => 0
  | d :: r => uptoBulk d + uptoBulkAll r
def uptoBulkEntries {H : Type} : List (Lit × DataW H) → Nat
  | [] => 0
  | x :: r => uptoBulkEntry x + uptoBulkEntries r
def uptoBulkEntry {H : Type} : Lit × DataW H → Nat
  | (.string bytes, d) => bytes.length + uptoBulk d + 1
  | (_, d) => uptoBulk d + 1
 end
def uptoSmall : (H : Type) → List (DataW H) → Bool := fun _ ds => decide (uptoBulkAll ds ≤ 1048576)
def OpenSpec.upto (s : _root_.Go.ChangeSpec) : _root_.Go.OpenSpec := { _root_.Go.OpenSpec.ofChange s with cond := some uptoSmall }

/-- 'seisinlaw18.LinTells', WHERE WHAT IT READS IS OF BULK AT MOST 1048576: true; the input reads as it did. -/
def linTellsUptoRow : OpenClaim := { program := "ytkajkomljgdghaa", sum := "630be02beea650ebc6422c6e709e7bf319ed4649c939e6868174434d11864497", func := "seisin/seisinlaw18.LinTells", spec := "linTells", recurses := true, plainKeys := false, apart := false, narrowed := true }
def LinTellsUptoSaid : Prop := linTellsUptoRow.holds Try.pinned (OpenSpec.upto linTellsSpec)

/-- 'seisinlaw18.LinMade', WHERE WHAT IT READS IS OF BULK AT MOST 1048576: true; the input reads as it did. -/
def linMadeUptoRow : OpenClaim := { program := "ytkajkomljgdghaa", sum := "630be02beea650ebc6422c6e709e7bf319ed4649c939e6868174434d11864497", func := "seisin/seisinlaw18.LinMade", spec := "linMade", recurses := true, plainKeys := false, apart := false, narrowed := true }
def LinMadeUptoSaid : Prop := linMadeUptoRow.holds Try.pinned (OpenSpec.upto linMadeSpec)

/-- 'seisinlaw18.LinTurned', WHERE WHAT IT READS IS OF BULK AT MOST 1048576: true; the input reads as it did. -/
def linTurnedUptoRow : OpenClaim := { program := "ytkajkomljgdghaa", sum := "630be02beea650ebc6422c6e709e7bf319ed4649c939e6868174434d11864497", func := "seisin/seisinlaw18.LinTurned", spec := "linTurned", recurses := true, plainKeys := false, apart := false, narrowed := true }
def LinTurnedUptoSaid : Prop := linTurnedUptoRow.holds Try.pinned (OpenSpec.upto linTurnedSpec)

/-- 'seisinlaw18.LinApart', WHERE WHAT IT READS IS OF BULK AT MOST 1048576: true; the input reads as it did. -/
def linApartUptoRow : OpenClaim := { program := "ytkajkomljgdghaa", sum := "630be02beea650ebc6422c6e709e7bf319ed4649c939e6868174434d11864497", func := "seisin/seisinlaw18.LinApart", spec := "linApart", recurses := true, plainKeys := false, apart := false, narrowed := true }
def LinApartUptoSaid : Prop := linApartUptoRow.holds Try.pinned (OpenSpec.upto linApartSpec)

/-- 'seisinlaw18.LinLost', WHERE WHAT IT READS IS OF BULK AT MOST 1048576: true; the input reads as it did. -/
def linLostUptoRow : OpenClaim := { program := "ytkajkomljgdghaa", sum := "630be02beea650ebc6422c6e709e7bf319ed4649c939e6868174434d11864497", func := "seisin/seisinlaw18.LinLost", spec := "linLost", recurses := true, plainKeys := false, apart := false, narrowed := true }
def LinLostUptoSaid : Prop := linLostUptoRow.holds Try.pinned (OpenSpec.upto linLostSpec)

/-- 'seisinlaw18.LinReads', WHERE WHAT IT READS IS OF BULK AT MOST 1048576: true; the input reads as it did. -/
def linReadsUptoRow : OpenClaim := { program := "ytkajkomljgdghaa", sum := "630be02beea650ebc6422c6e709e7bf319ed4649c939e6868174434d11864497", func := "seisin/seisinlaw18.LinReads", spec := "linReads", recurses := true, plainKeys := false, apart := false, narrowed := true }
def LinReadsUptoSaid : Prop := linReadsUptoRow.holds Try.pinned (OpenSpec.upto linReadsSpec)

/-- 'seisinlaw18.LinMoves', WHERE WHAT IT READS IS OF BULK AT MOST 1048576: true; the input reads as it did. -/
def linMovesUptoRow : OpenClaim := { program := "ytkajkomljgdghaa", sum := "630be02beea650ebc6422c6e709e7bf319ed4649c939e6868174434d11864497", func := "seisin/seisinlaw18.LinMoves", spec := "linMoves", recurses := true, plainKeys := false, apart := false, narrowed := true }
def LinMovesUptoSaid : Prop := linMovesUptoRow.holds Try.pinned (OpenSpec.upto linMovesSpec)

/-- 'seisinlaw18.LinNothing', WHERE WHAT IT READS IS OF BULK AT MOST 1048576: true; the input reads as it did. -/
def linNothingUptoRow : OpenClaim := { program := "ytkajkomljgdghaa", sum := "630be02beea650ebc6422c6e709e7bf319ed4649c939e6868174434d11864497", func := "seisin/seisinlaw18.LinNothing", spec := "linNothing", recurses := true, plainKeys := false, apart := false, narrowed := true }
def LinNothingUptoSaid : Prop := linNothingUptoRow.holds Try.pinned (OpenSpec.upto linNothingSpec)

end Rows
end Go.Proofs.Ytkajkomljgdghaa
