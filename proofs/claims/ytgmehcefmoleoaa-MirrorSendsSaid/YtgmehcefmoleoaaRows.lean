/-
  No cell of these rows narrows 'for every input' (looked for: loops, veiled, ifaces, maps, wideKeys, modest, calm, conditions, laid).
  DERIVED. THE GIVEN ROWS OF THIS SEAT. 6 by the template 'for every input the law returns true; each argument reads behind the call as it read before'; 0 by the template 'total and deterministic' (their statements: YtgmehcefmoleoaaTotals.lean).
  GIVEN WITH THE SEED: the statements are not yours to turn. If you find one false, say at which input.
  Laid BY PROGRAM, IN A SANDBOX (cutbox-rows.mjs): the forced cells as the released guide's own fill.sh prints them over the translation e724ca7d5c671d09… (all of the seat's roots in one cut). By AI agents, Wed Nov 11 2026. No macro, syntax, notation, axiom, sorry.
-/
import Derived.Test.YtgmehcefmoleoaaChecked
import GoSem.Claim
import GoSem.ClaimJoined
import GoSem.ClaimMapViews
import Derived.JoinedTies
import Derived.KernelRfl
namespace Go.Proofs.Ytgmehcefmoleoaa
/- THE CELL 'sum', in the pinned program and in every row, IS THE sha256 OF THE DUMP (.gsa) THAT YtgmehcefmoleoaaProg.lean LOADS. Nothing in Lean hashes anything: it is a label: what it is worth is what the hold of that sum in a sandbox is worth. -/
noncomputable def Try.pinned : Pinned := { name := "ytgmehcefmoleoaa", sum := "e724ca7d5c671d0937c211ae2f3ac64240c0233d6a6928a2ab5896d4788c0b90", checked := Try.checked }
namespace Rows
def none {H : Type} : Left H := { results := [], args := [] }

/-- 'seisinlaw15.MirrorSends': WHATEVER THE INPUT: true; the input reads as it did. -/
def mirrorSendsSpec : ChangeSpec := { name := "mirrorSends", fn := fun _ => fun
  | [d1, d2] => { results := [.lit (.bool true)], args := [d1, d2] }
  | _ => none }
def mirrorSendsRow : OpenClaim := { program := "ytgmehcefmoleoaa", sum := "e724ca7d5c671d0937c211ae2f3ac64240c0233d6a6928a2ab5896d4788c0b90", func := "seisin/seisinlaw15.MirrorSends", spec := "mirrorSends", apart := false }
def MirrorSendsSaid : Prop := mirrorSendsRow.holds Try.pinned (OpenSpec.ofChange mirrorSendsSpec)

/-- ITS FALSE NEIGHBOUR: 'it returns false'. Refute it at one input. -/
def mirrorSendsWrong : ChangeSpec := { name := "mirrorSends", fn := fun _ => fun
  | [d1, d2] => { results := [.lit (.bool false)], args := [d1, d2] }
  | _ => none }
def MirrorSendsWrongFalsely : Prop := mirrorSendsRow.holds Try.pinned (OpenSpec.ofChange mirrorSendsWrong)

/-- 'seisinlaw15.MirrorNext': WHATEVER THE INPUT: true; the input reads as it did. -/
def mirrorNextSpec : ChangeSpec := { name := "mirrorNext", fn := fun _ => fun
  | [d1, d2, d3] => { results := [.lit (.bool true)], args := [d1, d2, d3] }
  | _ => none }
def mirrorNextRow : OpenClaim := { program := "ytgmehcefmoleoaa", sum := "e724ca7d5c671d0937c211ae2f3ac64240c0233d6a6928a2ab5896d4788c0b90", func := "seisin/seisinlaw15.MirrorNext", spec := "mirrorNext", apart := false }
def MirrorNextSaid : Prop := mirrorNextRow.holds Try.pinned (OpenSpec.ofChange mirrorNextSpec)

/-- ITS FALSE NEIGHBOUR: 'it returns false'. Refute it at one input. -/
def mirrorNextWrong : ChangeSpec := { name := "mirrorNext", fn := fun _ => fun
  | [d1, d2, d3] => { results := [.lit (.bool false)], args := [d1, d2, d3] }
  | _ => none }
def MirrorNextWrongFalsely : Prop := mirrorNextRow.holds Try.pinned (OpenSpec.ofChange mirrorNextWrong)

/-- 'seisinlaw15.MirrorOnce': WHATEVER THE INPUT: true; the input reads as it did. -/
def mirrorOnceSpec : ChangeSpec := { name := "mirrorOnce", fn := fun _ => fun
  | [d1, d2, d3, d4] => { results := [.lit (.bool true)], args := [d1, d2, d3, d4] }
  | _ => none }
def mirrorOnceRow : OpenClaim := { program := "ytgmehcefmoleoaa", sum := "e724ca7d5c671d0937c211ae2f3ac64240c0233d6a6928a2ab5896d4788c0b90", func := "seisin/seisinlaw15.MirrorOnce", spec := "mirrorOnce", apart := false }
def MirrorOnceSaid : Prop := mirrorOnceRow.holds Try.pinned (OpenSpec.ofChange mirrorOnceSpec)

/-- ITS FALSE NEIGHBOUR: 'it returns false'. Refute it at one input. -/
def mirrorOnceWrong : ChangeSpec := { name := "mirrorOnce", fn := fun _ => fun
  | [d1, d2, d3, d4] => { results := [.lit (.bool false)], args := [d1, d2, d3, d4] }
  | _ => none }
def MirrorOnceWrongFalsely : Prop := mirrorOnceRow.holds Try.pinned (OpenSpec.ofChange mirrorOnceWrong)

/-- 'seisinlaw15.MirrorElder': WHATEVER THE INPUT: true; the input reads as it did. -/
def mirrorElderSpec : ChangeSpec := { name := "mirrorElder", fn := fun _ => fun
  | [d1, d2, d3] => { results := [.lit (.bool true)], args := [d1, d2, d3] }
  | _ => none }
def mirrorElderRow : OpenClaim := { program := "ytgmehcefmoleoaa", sum := "e724ca7d5c671d0937c211ae2f3ac64240c0233d6a6928a2ab5896d4788c0b90", func := "seisin/seisinlaw15.MirrorElder", spec := "mirrorElder", apart := false }
def MirrorElderSaid : Prop := mirrorElderRow.holds Try.pinned (OpenSpec.ofChange mirrorElderSpec)

/-- ITS FALSE NEIGHBOUR: 'it returns false'. Refute it at one input. -/
def mirrorElderWrong : ChangeSpec := { name := "mirrorElder", fn := fun _ => fun
  | [d1, d2, d3] => { results := [.lit (.bool false)], args := [d1, d2, d3] }
  | _ => none }
def MirrorElderWrongFalsely : Prop := mirrorElderRow.holds Try.pinned (OpenSpec.ofChange mirrorElderWrong)

/-- 'seisinlaw15.MirrorLeft': WHATEVER THE INPUT: true; the input reads as it did. -/
def mirrorLeftSpec : ChangeSpec := { name := "mirrorLeft", fn := fun _ => fun
  | [d1, d2, d3] => { results := [.lit (.bool true)], args := [d1, d2, d3] }
  | _ => none }
def mirrorLeftRow : OpenClaim := { program := "ytgmehcefmoleoaa", sum := "e724ca7d5c671d0937c211ae2f3ac64240c0233d6a6928a2ab5896d4788c0b90", func := "seisin/seisinlaw15.MirrorLeft", spec := "mirrorLeft", apart := false }
def MirrorLeftSaid : Prop := mirrorLeftRow.holds Try.pinned (OpenSpec.ofChange mirrorLeftSpec)

/-- ITS FALSE NEIGHBOUR: 'it returns false'. Refute it at one input. -/
def mirrorLeftWrong : ChangeSpec := { name := "mirrorLeft", fn := fun _ => fun
  | [d1, d2, d3] => { results := [.lit (.bool false)], args := [d1, d2, d3] }
  | _ => none }
def MirrorLeftWrongFalsely : Prop := mirrorLeftRow.holds Try.pinned (OpenSpec.ofChange mirrorLeftWrong)

/-- 'seisinlaw15.MirrorBase': WHATEVER THE INPUT: true; the input reads as it did. -/
def mirrorBaseSpec : ChangeSpec := { name := "mirrorBase", fn := fun _ => fun
  | [d1, d2] => { results := [.lit (.bool true)], args := [d1, d2] }
  | _ => none }
def mirrorBaseRow : OpenClaim := { program := "ytgmehcefmoleoaa", sum := "e724ca7d5c671d0937c211ae2f3ac64240c0233d6a6928a2ab5896d4788c0b90", func := "seisin/seisinlaw15.MirrorBase", spec := "mirrorBase", apart := false }
def MirrorBaseSaid : Prop := mirrorBaseRow.holds Try.pinned (OpenSpec.ofChange mirrorBaseSpec)

/-- ITS FALSE NEIGHBOUR: 'it returns false'. Refute it at one input. -/
def mirrorBaseWrong : ChangeSpec := { name := "mirrorBase", fn := fun _ => fun
  | [d1, d2] => { results := [.lit (.bool false)], args := [d1, d2] }
  | _ => none }
def MirrorBaseWrongFalsely : Prop := mirrorBaseRow.holds Try.pinned (OpenSpec.ofChange mirrorBaseWrong)

/- THE SECOND FORM. 'bulk': how many values and letters a reading holds, each counted each time it is reached (what is shared counts as often as it is met; a slice's spare places count too). A statement '..UptoSaid' is the law's where the arguments, and the package variables that the reading takes, are together of bulk at most 1048576: NARROWER than '..Said'. Prove '..Said' where nothing that the law and all that it calls make is longer than what came in: it says more and counts as full. Else prove '..UptoSaid'. A law counts once. -/
mutual
def uptoBulk {H : Type} : DataW H → Nat
  | .lit (.string bytes) => bytes.length + 1
  | .lit _ => 1
  | .nil => 1
  | .ptr d => uptoBulk d + 1
  | .slice elems spare => uptoBulkAll elems + uptoBulkAll spare + 1
  | .agg parts => uptoBulkAll parts + 1
  | .iface _ d => uptoBulk d + 1
  | .map entries => uptoBulkEntries entries + 1
  | .held _ => 1
def uptoBulkAll {H : Type} : List (DataW H) → Nat
  | [] => 0
  | d :: r => uptoBulk d + uptoBulkAll r
def uptoBulkEntries {H : Type} : List (Lit × DataW H) → Nat
  | [] => 0
  | x :: r => uptoBulkEntry x + uptoBulkEntries r
def uptoBulkEntry {H : Type} : Lit × DataW H → Nat
  | (.string bytes, d) => bytes.length + uptoBulk d + 1
  | (_, d) => uptoBulk d + 1
 end
def uptoSmall : (H : Type) → List (DataW H) → Bool := fun _ ds => decide (uptoBulkAll ds ≤ 1048576)
def OpenSpec.upto (s : _root_.Go.ChangeSpec) : _root_.Go.OpenSpec := { _root_.Go.OpenSpec.ofChange s with cond := some uptoSmall }

/-- 'seisinlaw15.MirrorSends', WHERE WHAT IT READS IS OF BULK AT MOST 1048576: true; the input reads as it did. -/
def mirrorSendsUptoRow : OpenClaim := { program := "ytgmehcefmoleoaa", sum := "e724ca7d5c671d0937c211ae2f3ac64240c0233d6a6928a2ab5896d4788c0b90", func := "seisin/seisinlaw15.MirrorSends", spec := "mirrorSends", apart := false, narrowed := true }
def MirrorSendsUptoSaid : Prop := mirrorSendsUptoRow.holds Try.pinned (OpenSpec.upto mirrorSendsSpec)

/-- 'seisinlaw15.MirrorNext', WHERE WHAT IT READS IS OF BULK AT MOST 1048576: true; the input reads as it did. -/
def mirrorNextUptoRow : OpenClaim := { program := "ytgmehcefmoleoaa", sum := "e724ca7d5c671d0937c211ae2f3ac64240c0233d6a6928a2ab5896d4788c0b90", func := "seisin/seisinlaw15.MirrorNext", spec := "mirrorNext", apart := false, narrowed := true }
def MirrorNextUptoSaid : Prop := mirrorNextUptoRow.holds Try.pinned (OpenSpec.upto mirrorNextSpec)

/-- 'seisinlaw15.MirrorOnce', WHERE WHAT IT READS IS OF BULK AT MOST 1048576: true; the input reads as it did. -/
def mirrorOnceUptoRow : OpenClaim := { program := "ytgmehcefmoleoaa", sum := "e724ca7d5c671d0937c211ae2f3ac64240c0233d6a6928a2ab5896d4788c0b90", func := "seisin/seisinlaw15.MirrorOnce", spec := "mirrorOnce", apart := false, narrowed := true }
def MirrorOnceUptoSaid : Prop := mirrorOnceUptoRow.holds Try.pinned (OpenSpec.upto mirrorOnceSpec)

/-- 'seisinlaw15.MirrorElder', WHERE WHAT IT READS IS OF BULK AT MOST 1048576: true; the input reads as it did. -/
def mirrorElderUptoRow : OpenClaim := { program := "ytgmehcefmoleoaa", sum := "e724ca7d5c671d0937c211ae2f3ac64240c0233d6a6928a2ab5896d4788c0b90", func := "seisin/seisinlaw15.MirrorElder", spec := "mirrorElder", apart := false, narrowed := true }
def MirrorElderUptoSaid : Prop := mirrorElderUptoRow.holds Try.pinned (OpenSpec.upto mirrorElderSpec)

/-- 'seisinlaw15.MirrorLeft', WHERE WHAT IT READS IS OF BULK AT MOST 1048576: true; the input reads as it did. -/
def mirrorLeftUptoRow : OpenClaim := { program := "ytgmehcefmoleoaa", sum := "e724ca7d5c671d0937c211ae2f3ac64240c0233d6a6928a2ab5896d4788c0b90", func := "seisin/seisinlaw15.MirrorLeft", spec := "mirrorLeft", apart := false, narrowed := true }
def MirrorLeftUptoSaid : Prop := mirrorLeftUptoRow.holds Try.pinned (OpenSpec.upto mirrorLeftSpec)

/-- 'seisinlaw15.MirrorBase', WHERE WHAT IT READS IS OF BULK AT MOST 1048576: true; the input reads as it did. -/
def mirrorBaseUptoRow : OpenClaim := { program := "ytgmehcefmoleoaa", sum := "e724ca7d5c671d0937c211ae2f3ac64240c0233d6a6928a2ab5896d4788c0b90", func := "seisin/seisinlaw15.MirrorBase", spec := "mirrorBase", apart := false, narrowed := true }
def MirrorBaseUptoSaid : Prop := mirrorBaseUptoRow.holds Try.pinned (OpenSpec.upto mirrorBaseSpec)

end Rows
end Go.Proofs.Ytgmehcefmoleoaa
