/-
  No cell of these rows narrows 'for every input' (looked for: loops, veiled, ifaces, maps, wideKeys, modest, calm, conditions, laid).
  DERIVED. THE GIVEN ROWS OF THIS SEAT. 6 by the template 'for every input the law returns true; each argument reads behind the call as it read before'; 0 by the template 'total and deterministic' (their statements: YtofljgnfbakhoaaTotals.lean).
  GIVEN WITH THE SEED: the statements are not yours to turn. If you find one false, say at which input.
  Laid BY PROGRAM, IN A SANDBOX (cutbox-rows.mjs): the forced cells as the released guide's own fill.sh prints them over the translation d5ae4b8e0550bf75… (all of the seat's roots in one cut). By AI agents, Wed Nov 11 2026. No macro, syntax, notation, axiom, sorry.
-/
import Derived.Test.YtofljgnfbakhoaaChecked
import GoSem.Claim
import GoSem.ClaimJoined
import GoSem.ClaimMapViews
import Derived.JoinedTies
import Derived.KernelRfl
namespace Go.Proofs.Ytofljgnfbakhoaa
/- THE CELL 'sum', in the pinned program and in every row, IS THE sha256 OF THE DUMP (.gsa) THAT YtofljgnfbakhoaaProg.lean LOADS. Nothing in Lean hashes anything: it is a label: what it is worth is what the hold of that sum in a sandbox is worth. -/
noncomputable def Try.pinned : Pinned := { name := "ytofljgnfbakhoaa", sum := "d5ae4b8e0550bf755e91e9dabd514aacfb2ae12134a4440a52447db4bcf7f526", checked := Try.checked }
namespace Rows
def none {H : Type} : Left H := { results := [], args := [] }

/-- 'seisinlaw10.NetDoes': WHATEVER THE INPUT: true; the input reads as it did. -/
def netDoesSpec : ChangeSpec := { name := "netDoes", fn := fun _ => fun
  | [d1, d2] => { results := [.lit (.bool true)], args := [d1, d2] }
  | _ => none }
def netDoesRow : OpenClaim := { program := "ytofljgnfbakhoaa", sum := "d5ae4b8e0550bf755e91e9dabd514aacfb2ae12134a4440a52447db4bcf7f526", func := "seisin/seisinlaw10.NetDoes", spec := "netDoes", unfollowed := true, recurses := true, plainKeys := false, apart := false }
def NetDoesSaid : Prop := netDoesRow.holds Try.pinned (OpenSpec.ofChange netDoesSpec)

/-- ITS FALSE NEIGHBOUR: 'it returns false'. Refute it at one input. -/
def netDoesWrong : ChangeSpec := { name := "netDoes", fn := fun _ => fun
  | [d1, d2] => { results := [.lit (.bool false)], args := [d1, d2] }
  | _ => none }
def NetDoesWrongFalsely : Prop := netDoesRow.holds Try.pinned (OpenSpec.ofChange netDoesWrong)

/-- 'seisinlaw10.NetTrue': WHATEVER THE INPUT: true; the input reads as it did. -/
def netTrueSpec : ChangeSpec := { name := "netTrue", fn := fun _ => fun
  | [d] => { results := [.lit (.bool true)], args := [d] }
  | _ => none }
def netTrueRow : OpenClaim := { program := "ytofljgnfbakhoaa", sum := "d5ae4b8e0550bf755e91e9dabd514aacfb2ae12134a4440a52447db4bcf7f526", func := "seisin/seisinlaw10.NetTrue", spec := "netTrue", unfollowed := true, recurses := true, plainKeys := false, apart := false }
def NetTrueSaid : Prop := netTrueRow.holds Try.pinned (OpenSpec.ofChange netTrueSpec)

/-- ITS FALSE NEIGHBOUR: 'it returns false'. Refute it at one input. -/
def netTrueWrong : ChangeSpec := { name := "netTrue", fn := fun _ => fun
  | [d] => { results := [.lit (.bool false)], args := [d] }
  | _ => none }
def NetTrueWrongFalsely : Prop := netTrueRow.holds Try.pinned (OpenSpec.ofChange netTrueWrong)

/-- 'seisinlaw10.NetOrder': WHATEVER THE INPUT: true; the input reads as it did. -/
def netOrderSpec : ChangeSpec := { name := "netOrder", fn := fun _ => fun
  | [d] => { results := [.lit (.bool true)], args := [d] }
  | _ => none }
def netOrderRow : OpenClaim := { program := "ytofljgnfbakhoaa", sum := "d5ae4b8e0550bf755e91e9dabd514aacfb2ae12134a4440a52447db4bcf7f526", func := "seisin/seisinlaw10.NetOrder", spec := "netOrder", unfollowed := true, recurses := true, plainKeys := false, apart := false }
def NetOrderSaid : Prop := netOrderRow.holds Try.pinned (OpenSpec.ofChange netOrderSpec)

/-- ITS FALSE NEIGHBOUR: 'it returns false'. Refute it at one input. -/
def netOrderWrong : ChangeSpec := { name := "netOrder", fn := fun _ => fun
  | [d] => { results := [.lit (.bool false)], args := [d] }
  | _ => none }
def NetOrderWrongFalsely : Prop := netOrderRow.holds Try.pinned (OpenSpec.ofChange netOrderWrong)

/-- 'seisinlaw10.NetTo': WHATEVER THE INPUT: true; the input reads as it did. -/
def netToSpec : ChangeSpec := { name := "netTo", fn := fun _ => fun
  | [d1, d2] => { results := [.lit (.bool true)], args := [d1, d2] }
  | _ => none }
def netToRow : OpenClaim := { program := "ytofljgnfbakhoaa", sum := "d5ae4b8e0550bf755e91e9dabd514aacfb2ae12134a4440a52447db4bcf7f526", func := "seisin/seisinlaw10.NetTo", spec := "netTo", unfollowed := true, recurses := true, plainKeys := false, apart := false }
def NetToSaid : Prop := netToRow.holds Try.pinned (OpenSpec.ofChange netToSpec)

/-- ITS FALSE NEIGHBOUR: 'it returns false'. Refute it at one input. -/
def netToWrong : ChangeSpec := { name := "netTo", fn := fun _ => fun
  | [d1, d2] => { results := [.lit (.bool false)], args := [d1, d2] }
  | _ => none }
def NetToWrongFalsely : Prop := netToRow.holds Try.pinned (OpenSpec.ofChange netToWrong)

/-- 'seisinlaw10.NetRound': WHATEVER THE INPUT: true; the input reads as it did. -/
def netRoundSpec : ChangeSpec := { name := "netRound", fn := fun _ => fun
  | [d1, d2] => { results := [.lit (.bool true)], args := [d1, d2] }
  | _ => none }
def netRoundRow : OpenClaim := { program := "ytofljgnfbakhoaa", sum := "d5ae4b8e0550bf755e91e9dabd514aacfb2ae12134a4440a52447db4bcf7f526", func := "seisin/seisinlaw10.NetRound", spec := "netRound", unfollowed := true, recurses := true, plainKeys := false, apart := false }
def NetRoundSaid : Prop := netRoundRow.holds Try.pinned (OpenSpec.ofChange netRoundSpec)

/-- ITS FALSE NEIGHBOUR: 'it returns false'. Refute it at one input. -/
def netRoundWrong : ChangeSpec := { name := "netRound", fn := fun _ => fun
  | [d1, d2] => { results := [.lit (.bool false)], args := [d1, d2] }
  | _ => none }
def NetRoundWrongFalsely : Prop := netRoundRow.holds Try.pinned (OpenSpec.ofChange netRoundWrong)

/-- 'seisinlaw10.NetFull': WHATEVER THE INPUT: true; the input reads as it did. -/
def netFullSpec : ChangeSpec := { name := "netFull", fn := fun _ => fun
  | [d1, d2] => { results := [.lit (.bool true)], args := [d1, d2] }
  | _ => none }
def netFullRow : OpenClaim := { program := "ytofljgnfbakhoaa", sum := "d5ae4b8e0550bf755e91e9dabd514aacfb2ae12134a4440a52447db4bcf7f526", func := "seisin/seisinlaw10.NetFull", spec := "netFull", unfollowed := true, recurses := true, plainKeys := false, apart := false }
def NetFullSaid : Prop := netFullRow.holds Try.pinned (OpenSpec.ofChange netFullSpec)

/-- ITS FALSE NEIGHBOUR: 'it returns false'. Refute it at one input. -/
def netFullWrong : ChangeSpec := { name := "netFull", fn := fun _ => fun
  | [d1, d2] => { results := [.lit (.bool false)], args := [d1, d2] }
  | _ => none }
def NetFullWrongFalsely : Prop := netFullRow.holds Try.pinned (OpenSpec.ofChange netFullWrong)

/- THE SECOND FORM. 'bulk': how many values and letters a reading holds, each counted each time it is reached (what is shared counts as often as it is met; a slice's spare places count too). A statement '..UptoSaid' is the law's where the arguments, and the package variables that the reading takes, are together of bulk at most 1048576: NARROWER than '..Said'. Prove '..Said' where nothing that the law and all that it calls make is longer than what came in: it says more and counts as full. Else prove '..UptoSaid'. A law counts once. -/
mutual
def uptoBulk {H : Type} : DataW H → Nat
  | .lit (.string bytes) => bytes.length + 1
  | .lit _ => 1
  | .nil => 1
  | .ptr d => uptoBulk d + 1
  | .slice elems spare => uptoBulkAll elems + uptoBulkAll spare + 1
  | .agg parts => uptoBulkAll parts + 1
  | .iface _ d => uptoBulk d + 1
  | .map entries => uptoBulkEntries entries + 1
  | .held _ => 1
def uptoBulkAll {H : Type} : List (DataW H) → Nat
  | [] => 0
  | d :: r => uptoBulk d + uptoBulkAll r
def uptoBulkEntries {H : Type} : List (Lit × DataW H) → Nat
  | [] => 0
  | x :: r => uptoBulkEntry x + uptoBulkEntries r
def uptoBulkEntry {H : Type} : Lit × DataW H → Nat
  | (.string bytes, d) => bytes.length + uptoBulk d + 1
  | (_, d) => uptoBulk d + 1
 end
def uptoSmall : (H : Type) → List (DataW H) → Bool := fun _ ds => decide (uptoBulkAll ds ≤ 1048576)
def OpenSpec.upto (s : _root_.Go.ChangeSpec) : _root_.Go.OpenSpec := { _root_.Go.OpenSpec.ofChange s with cond := some uptoSmall }

/-- 'seisinlaw10.NetDoes', WHERE WHAT IT READS IS OF BULK AT MOST 1048576: true; the input reads as it did. -/
def netDoesUptoRow : OpenClaim := { program := "ytofljgnfbakhoaa", sum := "d5ae4b8e0550bf755e91e9dabd514aacfb2ae12134a4440a52447db4bcf7f526", func := "seisin/seisinlaw10.NetDoes", spec := "netDoes", unfollowed := true, recurses := true, plainKeys := false, apart := false, narrowed := true }
def NetDoesUptoSaid : Prop := netDoesUptoRow.holds Try.pinned (OpenSpec.upto netDoesSpec)

/-- 'seisinlaw10.NetTrue', WHERE WHAT IT READS IS OF BULK AT MOST 1048576: true; the input reads as it did. -/
def netTrueUptoRow : OpenClaim := { program := "ytofljgnfbakhoaa", sum := "d5ae4b8e0550bf755e91e9dabd514aacfb2ae12134a4440a52447db4bcf7f526", func := "seisin/seisinlaw10.NetTrue", spec := "netTrue", unfollowed := true, recurses := true, plainKeys := false, apart := false, narrowed := true }
def NetTrueUptoSaid : Prop := netTrueUptoRow.holds Try.pinned (OpenSpec.upto netTrueSpec)

/-- 'seisinlaw10.NetOrder', WHERE WHAT IT READS IS OF BULK AT MOST 1048576: true; the input reads as it did. -/
def netOrderUptoRow : OpenClaim := { program := "ytofljgnfbakhoaa", sum := "d5ae4b8e0550bf755e91e9dabd514aacfb2ae12134a4440a52447db4bcf7f526", func := "seisin/seisinlaw10.NetOrder", spec := "netOrder", unfollowed := true, recurses := true, plainKeys := false, apart := false, narrowed := true }
def NetOrderUptoSaid : Prop := netOrderUptoRow.holds Try.pinned (OpenSpec.upto netOrderSpec)

/-- 'seisinlaw10.NetTo', WHERE WHAT IT READS IS OF BULK AT MOST 1048576: true; the input reads as it did. -/
def netToUptoRow : OpenClaim := { program := "ytofljgnfbakhoaa", sum := "d5ae4b8e0550bf755e91e9dabd514aacfb2ae12134a4440a52447db4bcf7f526", func := "seisin/seisinlaw10.NetTo", spec := "netTo", unfollowed := true, recurses := true, plainKeys := false, apart := false, narrowed := true }
def NetToUptoSaid : Prop := netToUptoRow.holds Try.pinned (OpenSpec.upto netToSpec)

/-- 'seisinlaw10.NetRound', WHERE WHAT IT READS IS OF BULK AT MOST 1048576: true; the input reads as it did. -/
def netRoundUptoRow : OpenClaim := { program := "ytofljgnfbakhoaa", sum := "d5ae4b8e0550bf755e91e9dabd514aacfb2ae12134a4440a52447db4bcf7f526", func := "seisin/seisinlaw10.NetRound", spec := "netRound", unfollowed := true, recurses := true, plainKeys := false, apart := false, narrowed := true }
def NetRoundUptoSaid : Prop := netRoundUptoRow.holds Try.pinned (OpenSpec.upto netRoundSpec)

/-- 'seisinlaw10.NetFull', WHERE WHAT IT READS IS OF BULK AT MOST 1048576: true; the input reads as it did. -/
def netFullUptoRow : OpenClaim := { program := "ytofljgnfbakhoaa", sum := "d5ae4b8e0550bf755e91e9dabd514aacfb2ae12134a4440a52447db4bcf7f526", func := "seisin/seisinlaw10.NetFull", spec := "netFull", unfollowed := true, recurses := true, plainKeys := false, apart := false, narrowed := true }
def NetFullUptoSaid : Prop := netFullUptoRow.holds Try.pinned (OpenSpec.upto netFullSpec)

end Rows
end Go.Proofs.Ytofljgnfbakhoaa
