/-
  No cell of these rows narrows 'for every input' (looked for: loops, veiled, ifaces, maps, wideKeys, modest, calm, conditions, laid).
  DERIVED. THE GIVEN ROWS OF THIS SEAT. 7 by the template 'for every input the law returns true; each argument reads behind the call as it read before'; 0 by the template 'total and deterministic' (their statements: YtlgmomjofhbggaaTotals.lean).
  GIVEN WITH THE SEED: the statements are not yours to turn. If you find one false, say at which input.
  Laid BY PROGRAM, IN A SANDBOX (cutbox-rows.mjs): the forced cells as the released guide's own fill.sh prints them over the translation 931046a38f3e6f8d… (all of the seat's roots in one cut). By AI agents, Wed Nov 11 2026. No macro, syntax, notation, axiom, sorry.
-/
import Derived.Test.YtlgmomjofhbggaaChecked
import GoSem.Claim
import GoSem.ClaimJoined
import GoSem.ClaimMapViews
import Derived.JoinedTies
import Derived.KernelRfl
namespace Go.Proofs.Ytlgmomjofhbggaa
/- THE CELL 'sum', in the pinned program and in every row, IS THE sha256 OF THE DUMP (.gsa) THAT YtlgmomjofhbggaaProg.lean LOADS. Nothing in Lean hashes anything: it is a label: what it is worth is what the hold of that sum in a sandbox is worth. -/
noncomputable def Try.pinned : Pinned := { name := "ytlgmomjofhbggaa", sum := "931046a38f3e6f8d2e1adba045cbec1f6d4530ee5a5ced44abafcd044e6c9b8d", checked := Try.checked }
namespace Rows
def none {H : Type} : Left H := { results := [], args := [] }

/-- 'seisinlaw07.BitsDoes': WHATEVER THE INPUT: true; the input reads as it did. -/
def bitsDoesSpec : ChangeSpec := { name := "bitsDoes", fn := fun _ => fun
  | [d1, d2, d3] => { results := [.lit (.bool true)], args := [d1, d2, d3] }
  | _ => none }
def bitsDoesRow : OpenClaim := { program := "ytlgmomjofhbggaa", sum := "931046a38f3e6f8d2e1adba045cbec1f6d4530ee5a5ced44abafcd044e6c9b8d", func := "seisin/seisinlaw07.BitsDoes", spec := "bitsDoes", apart := false }
def BitsDoesSaid : Prop := bitsDoesRow.holds Try.pinned (OpenSpec.ofChange bitsDoesSpec)

/-- ITS FALSE NEIGHBOUR: 'it returns false'. Refute it at one input. -/
def bitsDoesWrong : ChangeSpec := { name := "bitsDoes", fn := fun _ => fun
  | [d1, d2, d3] => { results := [.lit (.bool false)], args := [d1, d2, d3] }
  | _ => none }
def BitsDoesWrongFalsely : Prop := bitsDoesRow.holds Try.pinned (OpenSpec.ofChange bitsDoesWrong)

/-- 'seisinlaw07.BitsLoads': WHATEVER THE INPUT: true; the input reads as it did. -/
def bitsLoadsSpec : ChangeSpec := { name := "bitsLoads", fn := fun _ => fun
  | [d1, d2] => { results := [.lit (.bool true)], args := [d1, d2] }
  | _ => none }
def bitsLoadsRow : OpenClaim := { program := "ytlgmomjofhbggaa", sum := "931046a38f3e6f8d2e1adba045cbec1f6d4530ee5a5ced44abafcd044e6c9b8d", func := "seisin/seisinlaw07.BitsLoads", spec := "bitsLoads", apart := false }
def BitsLoadsSaid : Prop := bitsLoadsRow.holds Try.pinned (OpenSpec.ofChange bitsLoadsSpec)

/-- ITS FALSE NEIGHBOUR: 'it returns false'. Refute it at one input. -/
def bitsLoadsWrong : ChangeSpec := { name := "bitsLoads", fn := fun _ => fun
  | [d1, d2] => { results := [.lit (.bool false)], args := [d1, d2] }
  | _ => none }
def BitsLoadsWrongFalsely : Prop := bitsLoadsRow.holds Try.pinned (OpenSpec.ofChange bitsLoadsWrong)

/-- 'seisinlaw07.BitsBack': WHATEVER THE INPUT: true; the input reads as it did. -/
def bitsBackSpec : ChangeSpec := { name := "bitsBack", fn := fun _ => fun
  | [d1, d2, d3] => { results := [.lit (.bool true)], args := [d1, d2, d3] }
  | _ => none }
def bitsBackRow : OpenClaim := { program := "ytlgmomjofhbggaa", sum := "931046a38f3e6f8d2e1adba045cbec1f6d4530ee5a5ced44abafcd044e6c9b8d", func := "seisin/seisinlaw07.BitsBack", spec := "bitsBack", apart := false }
def BitsBackSaid : Prop := bitsBackRow.holds Try.pinned (OpenSpec.ofChange bitsBackSpec)

/-- ITS FALSE NEIGHBOUR: 'it returns false'. Refute it at one input. -/
def bitsBackWrong : ChangeSpec := { name := "bitsBack", fn := fun _ => fun
  | [d1, d2, d3] => { results := [.lit (.bool false)], args := [d1, d2, d3] }
  | _ => none }
def BitsBackWrongFalsely : Prop := bitsBackRow.holds Try.pinned (OpenSpec.ofChange bitsBackWrong)

/-- 'seisinlaw07.BitsOr': WHATEVER THE INPUT: true; the input reads as it did. -/
def bitsOrSpec : ChangeSpec := { name := "bitsOr", fn := fun _ => fun
  | [d1, d2, d3] => { results := [.lit (.bool true)], args := [d1, d2, d3] }
  | _ => none }
def bitsOrRow : OpenClaim := { program := "ytlgmomjofhbggaa", sum := "931046a38f3e6f8d2e1adba045cbec1f6d4530ee5a5ced44abafcd044e6c9b8d", func := "seisin/seisinlaw07.BitsOr", spec := "bitsOr", apart := false }
def BitsOrSaid : Prop := bitsOrRow.holds Try.pinned (OpenSpec.ofChange bitsOrSpec)

/-- ITS FALSE NEIGHBOUR: 'it returns false'. Refute it at one input. -/
def bitsOrWrong : ChangeSpec := { name := "bitsOr", fn := fun _ => fun
  | [d1, d2, d3] => { results := [.lit (.bool false)], args := [d1, d2, d3] }
  | _ => none }
def BitsOrWrongFalsely : Prop := bitsOrRow.holds Try.pinned (OpenSpec.ofChange bitsOrWrong)

/-- 'seisinlaw07.BitsNext': WHATEVER THE INPUT: true; the input reads as it did. -/
def bitsNextSpec : ChangeSpec := { name := "bitsNext", fn := fun _ => fun
  | [d1, d2, d3] => { results := [.lit (.bool true)], args := [d1, d2, d3] }
  | _ => none }
def bitsNextRow : OpenClaim := { program := "ytlgmomjofhbggaa", sum := "931046a38f3e6f8d2e1adba045cbec1f6d4530ee5a5ced44abafcd044e6c9b8d", func := "seisin/seisinlaw07.BitsNext", spec := "bitsNext", apart := false }
def BitsNextSaid : Prop := bitsNextRow.holds Try.pinned (OpenSpec.ofChange bitsNextSpec)

/-- ITS FALSE NEIGHBOUR: 'it returns false'. Refute it at one input. -/
def bitsNextWrong : ChangeSpec := { name := "bitsNext", fn := fun _ => fun
  | [d1, d2, d3] => { results := [.lit (.bool false)], args := [d1, d2, d3] }
  | _ => none }
def BitsNextWrongFalsely : Prop := bitsNextRow.holds Try.pinned (OpenSpec.ofChange bitsNextWrong)

/-- 'seisinlaw07.BitsTurned': WHATEVER THE INPUT: true; the input reads as it did. -/
def bitsTurnedSpec : ChangeSpec := { name := "bitsTurned", fn := fun _ => fun
  | [d1, d2] => { results := [.lit (.bool true)], args := [d1, d2] }
  | _ => none }
def bitsTurnedRow : OpenClaim := { program := "ytlgmomjofhbggaa", sum := "931046a38f3e6f8d2e1adba045cbec1f6d4530ee5a5ced44abafcd044e6c9b8d", func := "seisin/seisinlaw07.BitsTurned", spec := "bitsTurned", apart := false }
def BitsTurnedSaid : Prop := bitsTurnedRow.holds Try.pinned (OpenSpec.ofChange bitsTurnedSpec)

/-- ITS FALSE NEIGHBOUR: 'it returns false'. Refute it at one input. -/
def bitsTurnedWrong : ChangeSpec := { name := "bitsTurned", fn := fun _ => fun
  | [d1, d2] => { results := [.lit (.bool false)], args := [d1, d2] }
  | _ => none }
def BitsTurnedWrongFalsely : Prop := bitsTurnedRow.holds Try.pinned (OpenSpec.ofChange bitsTurnedWrong)

/-- 'seisinlaw07.BitsLen': WHATEVER THE INPUT: true; the input reads as it did. -/
def bitsLenSpec : ChangeSpec := { name := "bitsLen", fn := fun _ => fun
  | [d1, d2] => { results := [.lit (.bool true)], args := [d1, d2] }
  | _ => none }
def bitsLenRow : OpenClaim := { program := "ytlgmomjofhbggaa", sum := "931046a38f3e6f8d2e1adba045cbec1f6d4530ee5a5ced44abafcd044e6c9b8d", func := "seisin/seisinlaw07.BitsLen", spec := "bitsLen", apart := false }
def BitsLenSaid : Prop := bitsLenRow.holds Try.pinned (OpenSpec.ofChange bitsLenSpec)

/-- ITS FALSE NEIGHBOUR: 'it returns false'. Refute it at one input. -/
def bitsLenWrong : ChangeSpec := { name := "bitsLen", fn := fun _ => fun
  | [d1, d2] => { results := [.lit (.bool false)], args := [d1, d2] }
  | _ => none }
def BitsLenWrongFalsely : Prop := bitsLenRow.holds Try.pinned (OpenSpec.ofChange bitsLenWrong)

/- THE SECOND FORM. 'bulk': how many values and letters a reading holds, each counted each time it is reached (what is shared counts as often as it is met; a slice's spare places count too). A statement '..UptoSaid' is the law's where the arguments, and the package variables that the reading takes, are together of bulk at most 1048576: NARROWER than '..Said'. Prove '..Said' where nothing that the law and all that it calls make is longer than what came in: it says more and counts as full. Else prove '..UptoSaid'. A law counts once. -/
mutual
def uptoBulk {H : Type} : DataW H → Nat
  | .lit (.string bytes) => bytes.length + 1
  | .lit _ => 1
  | .nil => 1
  | .ptr d => uptoBulk d + 1
  | .slice elems spare => uptoBulkAll elems + uptoBulkAll spare + 1
  | .agg parts => uptoBulkAll parts + 1
  | .iface _ d => uptoBulk d + 1
  | .map entries => uptoBulkEntries entries + 1
  | .held _ => 1
def uptoBulkAll {H : Type} : List (DataW H) → Nat
  | [] => 0
  | d :: r => uptoBulk d + uptoBulkAll r
def uptoBulkEntries {H : Type} : List (Lit × DataW H) → Nat
  | [] => 0
  | x :: r => uptoBulkEntry x + uptoBulkEntries r
def uptoBulkEntry {H : Type} : Lit × DataW H → Nat
  | (.string bytes, d) => bytes.length + uptoBulk d + 1
  | (_, d) => uptoBulk d + 1
 end
def uptoSmall : (H : Type) → List (DataW H) → Bool := fun _ ds => decide (uptoBulkAll ds ≤ 1048576)
def OpenSpec.upto (s : _root_.Go.ChangeSpec) : _root_.Go.OpenSpec := { _root_.Go.OpenSpec.ofChange s with cond := some uptoSmall }

/-- 'seisinlaw07.BitsDoes', WHERE WHAT IT READS IS OF BULK AT MOST 1048576: true; the input reads as it did. -/
def bitsDoesUptoRow : OpenClaim := { program := "ytlgmomjofhbggaa", sum := "931046a38f3e6f8d2e1adba045cbec1f6d4530ee5a5ced44abafcd044e6c9b8d", func := "seisin/seisinlaw07.BitsDoes", spec := "bitsDoes", apart := false, narrowed := true }
def BitsDoesUptoSaid : Prop := bitsDoesUptoRow.holds Try.pinned (OpenSpec.upto bitsDoesSpec)

/-- 'seisinlaw07.BitsLoads', WHERE WHAT IT READS IS OF BULK AT MOST 1048576: true; the input reads as it did. -/
def bitsLoadsUptoRow : OpenClaim := { program := "ytlgmomjofhbggaa", sum := "931046a38f3e6f8d2e1adba045cbec1f6d4530ee5a5ced44abafcd044e6c9b8d", func := "seisin/seisinlaw07.BitsLoads", spec := "bitsLoads", apart := false, narrowed := true }
def BitsLoadsUptoSaid : Prop := bitsLoadsUptoRow.holds Try.pinned (OpenSpec.upto bitsLoadsSpec)

/-- 'seisinlaw07.BitsBack', WHERE WHAT IT READS IS OF BULK AT MOST 1048576: true; the input reads as it did. -/
def bitsBackUptoRow : OpenClaim := { program := "ytlgmomjofhbggaa", sum := "931046a38f3e6f8d2e1adba045cbec1f6d4530ee5a5ced44abafcd044e6c9b8d", func := "seisin/seisinlaw07.BitsBack", spec := "bitsBack", apart := false, narrowed := true }
def BitsBackUptoSaid : Prop := bitsBackUptoRow.holds Try.pinned (OpenSpec.upto bitsBackSpec)

/-- 'seisinlaw07.BitsOr', WHERE WHAT IT READS IS OF BULK AT MOST 1048576: true; the input reads as it did. -/
def bitsOrUptoRow : OpenClaim := { program := "ytlgmomjofhbggaa", sum := "931046a38f3e6f8d2e1adba045cbec1f6d4530ee5a5ced44abafcd044e6c9b8d", func := "seisin/seisinlaw07.BitsOr", spec := "bitsOr", apart := false, narrowed := true }
def BitsOrUptoSaid : Prop := bitsOrUptoRow.holds Try.pinned (OpenSpec.upto bitsOrSpec)

/-- 'seisinlaw07.BitsNext', WHERE WHAT IT READS IS OF BULK AT MOST 1048576: true; the input reads as it did. -/
def bitsNextUptoRow : OpenClaim := { program := "ytlgmomjofhbggaa", sum := "931046a38f3e6f8d2e1adba045cbec1f6d4530ee5a5ced44abafcd044e6c9b8d", func := "seisin/seisinlaw07.BitsNext", spec := "bitsNext", apart := false, narrowed := true }
def BitsNextUptoSaid : Prop := bitsNextUptoRow.holds Try.pinned (OpenSpec.upto bitsNextSpec)

/-- 'seisinlaw07.BitsTurned', WHERE WHAT IT READS IS OF BULK AT MOST 1048576: true; the input reads as it did. -/
def bitsTurnedUptoRow : OpenClaim := { program := "ytlgmomjofhbggaa", sum := "931046a38f3e6f8d2e1adba045cbec1f6d4530ee5a5ced44abafcd044e6c9b8d", func := "seisin/seisinlaw07.BitsTurned", spec := "bitsTurned", apart := false, narrowed := true }
def BitsTurnedUptoSaid : Prop := bitsTurnedUptoRow.holds Try.pinned (OpenSpec.upto bitsTurnedSpec)

/-- 'seisinlaw07.BitsLen', WHERE WHAT IT READS IS OF BULK AT MOST 1048576: true; the input reads as it did. -/
def bitsLenUptoRow : OpenClaim := { program := "ytlgmomjofhbggaa", sum := "931046a38f3e6f8d2e1adba045cbec1f6d4530ee5a5ced44abafcd044e6c9b8d", func := "seisin/seisinlaw07.BitsLen", spec := "bitsLen", apart := false, narrowed := true }
def BitsLenUptoSaid : Prop := bitsLenUptoRow.holds Try.pinned (OpenSpec.upto bitsLenSpec)

end Rows
end Go.Proofs.Ytlgmomjofhbggaa
