/-
  No cell of these rows narrows 'for every input' (looked for: loops, veiled, ifaces, maps, wideKeys, modest, calm, conditions, laid).
  DERIVED. THE GIVEN ROWS OF THIS SEAT. 6 by the template 'for every input the law returns true; each argument reads behind the call as it read before'; 0 by the template 'total and deterministic' (their statements: YtppbjcjnheamnaaTotals.lean).
  GIVEN WITH THE SEED: the statements are not yours to turn. If you find one false, say at which input.
  Laid BY PROGRAM, IN A SANDBOX (cutbox-rows.mjs): the forced cells as the released guide's own fill.sh prints them over the translation 7de9ae825ac4ea84… (all of the seat's roots in one cut). By AI agents, Wed Nov 11 2026. No macro, syntax, notation, axiom, sorry.
-/
import Derived.Test.YtppbjcjnheamnaaChecked
import GoSem.Claim
import GoSem.ClaimJoined
import GoSem.ClaimMapViews
import Derived.JoinedTies
import Derived.KernelRfl
namespace Go.Proofs.Ytppbjcjnheamnaa
/- THE CELL 'sum', in the pinned program and in every row, IS THE sha256 OF THE DUMP (.gsa) THAT YtppbjcjnheamnaaProg.lean LOADS. Nothing in Lean hashes anything: it is a label: what it is worth is what the hold of that sum in a sandbox is worth. -/
noncomputable def Try.pinned : Pinned := { name := "ytppbjcjnheamnaa", sum := "7de9ae825ac4ea8492ed4bcd706c780937a3826a2268376cd8468094352c7e3e", checked := Try.checked }
namespace Rows
def none {H : Type} : Left H := { results := [], args := [] }

/-- 'seisinlaw12.LeaseSafe': WHATEVER THE INPUT: true; the input reads as it did. -/
def leaseSafeSpec : ChangeSpec := { name := "leaseSafe", fn := fun _ => fun
  | [d1, d2, d3, d4] => { results := [.lit (.bool true)], args := [d1, d2, d3, d4] }
  | _ => none }
def leaseSafeRow : OpenClaim := { program := "ytppbjcjnheamnaa", sum := "7de9ae825ac4ea8492ed4bcd706c780937a3826a2268376cd8468094352c7e3e", func := "seisin/seisinlaw12.LeaseSafe", spec := "leaseSafe", unfollowed := true, recurses := true, apart := false }
def LeaseSafeSaid : Prop := leaseSafeRow.holds Try.pinned (OpenSpec.ofChange leaseSafeSpec)

/-- ITS FALSE NEIGHBOUR: 'it returns false'. Refute it at one input. -/
def leaseSafeWrong : ChangeSpec := { name := "leaseSafe", fn := fun _ => fun
  | [d1, d2, d3, d4] => { results := [.lit (.bool false)], args := [d1, d2, d3, d4] }
  | _ => none }
def LeaseSafeWrongFalsely : Prop := leaseSafeRow.holds Try.pinned (OpenSpec.ofChange leaseSafeWrong)

/-- 'seisinlaw12.LeaseWaits': WHATEVER THE INPUT: true; the input reads as it did. -/
def leaseWaitsSpec : ChangeSpec := { name := "leaseWaits", fn := fun _ => fun
  | [d1, d2, d3, d4] => { results := [.lit (.bool true)], args := [d1, d2, d3, d4] }
  | _ => none }
def leaseWaitsRow : OpenClaim := { program := "ytppbjcjnheamnaa", sum := "7de9ae825ac4ea8492ed4bcd706c780937a3826a2268376cd8468094352c7e3e", func := "seisin/seisinlaw12.LeaseWaits", spec := "leaseWaits", unfollowed := true, recurses := true, apart := false }
def LeaseWaitsSaid : Prop := leaseWaitsRow.holds Try.pinned (OpenSpec.ofChange leaseWaitsSpec)

/-- ITS FALSE NEIGHBOUR: 'it returns false'. Refute it at one input. -/
def leaseWaitsWrong : ChangeSpec := { name := "leaseWaits", fn := fun _ => fun
  | [d1, d2, d3, d4] => { results := [.lit (.bool false)], args := [d1, d2, d3, d4] }
  | _ => none }
def LeaseWaitsWrongFalsely : Prop := leaseWaitsRow.holds Try.pinned (OpenSpec.ofChange leaseWaitsWrong)

/-- 'seisinlaw12.LeaseParts': WHATEVER THE INPUT: true; the input reads as it did. -/
def leasePartsSpec : ChangeSpec := { name := "leaseParts", fn := fun _ => fun
  | [d1, d2, d3, d4] => { results := [.lit (.bool true)], args := [d1, d2, d3, d4] }
  | _ => none }
def leasePartsRow : OpenClaim := { program := "ytppbjcjnheamnaa", sum := "7de9ae825ac4ea8492ed4bcd706c780937a3826a2268376cd8468094352c7e3e", func := "seisin/seisinlaw12.LeaseParts", spec := "leaseParts", unfollowed := true, recurses := true, apart := false }
def LeasePartsSaid : Prop := leasePartsRow.holds Try.pinned (OpenSpec.ofChange leasePartsSpec)

/-- ITS FALSE NEIGHBOUR: 'it returns false'. Refute it at one input. -/
def leasePartsWrong : ChangeSpec := { name := "leaseParts", fn := fun _ => fun
  | [d1, d2, d3, d4] => { results := [.lit (.bool false)], args := [d1, d2, d3, d4] }
  | _ => none }
def LeasePartsWrongFalsely : Prop := leasePartsRow.holds Try.pinned (OpenSpec.ofChange leasePartsWrong)

/-- 'seisinlaw12.LeaseTimer': WHATEVER THE INPUT: true; the input reads as it did. -/
def leaseTimerSpec : ChangeSpec := { name := "leaseTimer", fn := fun _ => fun
  | [d1, d2] => { results := [.lit (.bool true)], args := [d1, d2] }
  | _ => none }
def leaseTimerRow : OpenClaim := { program := "ytppbjcjnheamnaa", sum := "7de9ae825ac4ea8492ed4bcd706c780937a3826a2268376cd8468094352c7e3e", func := "seisin/seisinlaw12.LeaseTimer", spec := "leaseTimer", unfollowed := true, recurses := true, apart := false }
def LeaseTimerSaid : Prop := leaseTimerRow.holds Try.pinned (OpenSpec.ofChange leaseTimerSpec)

/-- ITS FALSE NEIGHBOUR: 'it returns false'. Refute it at one input. -/
def leaseTimerWrong : ChangeSpec := { name := "leaseTimer", fn := fun _ => fun
  | [d1, d2] => { results := [.lit (.bool false)], args := [d1, d2] }
  | _ => none }
def LeaseTimerWrongFalsely : Prop := leaseTimerRow.holds Try.pinned (OpenSpec.ofChange leaseTimerWrong)

/-- 'seisinlaw12.LeaseAdds': WHATEVER THE INPUT: true; the input reads as it did. -/
def leaseAddsSpec : ChangeSpec := { name := "leaseAdds", fn := fun _ => fun
  | [d1, d2, d3] => { results := [.lit (.bool true)], args := [d1, d2, d3] }
  | _ => none }
def leaseAddsRow : OpenClaim := { program := "ytppbjcjnheamnaa", sum := "7de9ae825ac4ea8492ed4bcd706c780937a3826a2268376cd8468094352c7e3e", func := "seisin/seisinlaw12.LeaseAdds", spec := "leaseAdds", unfollowed := true, recurses := true, apart := false }
def LeaseAddsSaid : Prop := leaseAddsRow.holds Try.pinned (OpenSpec.ofChange leaseAddsSpec)

/-- ITS FALSE NEIGHBOUR: 'it returns false'. Refute it at one input. -/
def leaseAddsWrong : ChangeSpec := { name := "leaseAdds", fn := fun _ => fun
  | [d1, d2, d3] => { results := [.lit (.bool false)], args := [d1, d2, d3] }
  | _ => none }
def LeaseAddsWrongFalsely : Prop := leaseAddsRow.holds Try.pinned (OpenSpec.ofChange leaseAddsWrong)

/-- 'seisinlaw12.LeaseMore': WHATEVER THE INPUT: true; the input reads as it did. -/
def leaseMoreSpec : ChangeSpec := { name := "leaseMore", fn := fun _ => fun
  | [d1, d2, d3] => { results := [.lit (.bool true)], args := [d1, d2, d3] }
  | _ => none }
def leaseMoreRow : OpenClaim := { program := "ytppbjcjnheamnaa", sum := "7de9ae825ac4ea8492ed4bcd706c780937a3826a2268376cd8468094352c7e3e", func := "seisin/seisinlaw12.LeaseMore", spec := "leaseMore", unfollowed := true, recurses := true, apart := false }
def LeaseMoreSaid : Prop := leaseMoreRow.holds Try.pinned (OpenSpec.ofChange leaseMoreSpec)

/-- ITS FALSE NEIGHBOUR: 'it returns false'. Refute it at one input. -/
def leaseMoreWrong : ChangeSpec := { name := "leaseMore", fn := fun _ => fun
  | [d1, d2, d3] => { results := [.lit (.bool false)], args := [d1, d2, d3] }
  | _ => none }
def LeaseMoreWrongFalsely : Prop := leaseMoreRow.holds Try.pinned (OpenSpec.ofChange leaseMoreWrong)

/- THE SECOND FORM. 'bulk': how many values and letters a reading holds, each counted each time it is reached (what is shared counts as often as it is met; a slice's spare places count too). A statement '..UptoSaid' is the law's where the arguments, and the package variables that the reading takes, are together of bulk at most 1048576: NARROWER than '..Said'. Prove '..Said' where nothing that the law and all that it calls make is longer than what came in: it says more and counts as full. Else prove '..UptoSaid'. A law counts once. -/
mutual
def uptoBulk {H : Type} : DataW H → Nat
  | .lit (.string bytes) => bytes.length + 1
  | .lit _ => 1
  | .nil => 1
  | .ptr d => uptoBulk d + 1
  | .slice elems spare => uptoBulkAll elems + uptoBulkAll spare + 1
  | .agg parts => uptoBulkAll parts + 1
  | .iface _ d => uptoBulk d + 1
  | .map entries => uptoBulkEntries entries + 1
  | .held _ => 1
def uptoBulkAll {H : Type} : List (DataW H) → Nat
  | [] => 0
  | d :: r => uptoBulk d + uptoBulkAll r
def uptoBulkEntries {H : Type} : List (Lit × DataW H) → Nat
  | [] => 0
  | x :: r => uptoBulkEntry x + uptoBulkEntries r
def uptoBulkEntry {H : Type} : Lit × DataW H → Nat
  | (.string bytes, d) => bytes.length + uptoBulk d + 1
  | (_, d) => uptoBulk d + 1
 end
def uptoSmall : (H : Type) → List (DataW H) → Bool := fun _ ds => decide (uptoBulkAll ds ≤ 1048576)
def OpenSpec.upto (s : _root_.Go.ChangeSpec) : _root_.Go.OpenSpec := { _root_.Go.OpenSpec.ofChange s with cond := some uptoSmall }

/-- 'seisinlaw12.LeaseSafe', WHERE WHAT IT READS IS OF BULK AT MOST 1048576: true; the input reads as it did. -/
def leaseSafeUptoRow : OpenClaim := { program := "ytppbjcjnheamnaa", sum := "7de9ae825ac4ea8492ed4bcd706c780937a3826a2268376cd8468094352c7e3e", func := "seisin/seisinlaw12.LeaseSafe", spec := "leaseSafe", unfollowed := true, recurses := true, apart := false, narrowed := true }
def LeaseSafeUptoSaid : Prop := leaseSafeUptoRow.holds Try.pinned (OpenSpec.upto leaseSafeSpec)

/-- 'seisinlaw12.LeaseWaits', WHERE WHAT IT READS IS OF BULK AT MOST 1048576: true; the input reads as it did. -/
def leaseWaitsUptoRow : OpenClaim := { program := "ytppbjcjnheamnaa", sum := "7de9ae825ac4ea8492ed4bcd706c780937a3826a2268376cd8468094352c7e3e", func := "seisin/seisinlaw12.LeaseWaits", spec := "leaseWaits", unfollowed := true, recurses := true, apart := false, narrowed := true }
def LeaseWaitsUptoSaid : Prop := leaseWaitsUptoRow.holds Try.pinned (OpenSpec.upto leaseWaitsSpec)

/-- 'seisinlaw12.LeaseParts', WHERE WHAT IT READS IS OF BULK AT MOST 1048576: true; the input reads as it did. -/
def leasePartsUptoRow : OpenClaim := { program := "ytppbjcjnheamnaa", sum := "7de9ae825ac4ea8492ed4bcd706c780937a3826a2268376cd8468094352c7e3e", func := "seisin/seisinlaw12.LeaseParts", spec := "leaseParts", unfollowed := true, recurses := true, apart := false, narrowed := true }
def LeasePartsUptoSaid : Prop := leasePartsUptoRow.holds Try.pinned (OpenSpec.upto leasePartsSpec)

/-- 'seisinlaw12.LeaseTimer', WHERE WHAT IT READS IS OF BULK AT MOST 1048576: true; the input reads as it did. -/
def leaseTimerUptoRow : OpenClaim := { program := "ytppbjcjnheamnaa", sum := "7de9ae825ac4ea8492ed4bcd706c780937a3826a2268376cd8468094352c7e3e", func := "seisin/seisinlaw12.LeaseTimer", spec := "leaseTimer", unfollowed := true, recurses := true, apart := false, narrowed := true }
def LeaseTimerUptoSaid : Prop := leaseTimerUptoRow.holds Try.pinned (OpenSpec.upto leaseTimerSpec)

/-- 'seisinlaw12.LeaseAdds', WHERE WHAT IT READS IS OF BULK AT MOST 1048576: true; the input reads as it did. -/
def leaseAddsUptoRow : OpenClaim := { program := "ytppbjcjnheamnaa", sum := "7de9ae825ac4ea8492ed4bcd706c780937a3826a2268376cd8468094352c7e3e", func := "seisin/seisinlaw12.LeaseAdds", spec := "leaseAdds", unfollowed := true, recurses := true, apart := false, narrowed := true }
def LeaseAddsUptoSaid : Prop := leaseAddsUptoRow.holds Try.pinned (OpenSpec.upto leaseAddsSpec)

/-- 'seisinlaw12.LeaseMore', WHERE WHAT IT READS IS OF BULK AT MOST 1048576: true; the input reads as it did. -/
def leaseMoreUptoRow : OpenClaim := { program := "ytppbjcjnheamnaa", sum := "7de9ae825ac4ea8492ed4bcd706c780937a3826a2268376cd8468094352c7e3e", func := "seisin/seisinlaw12.LeaseMore", spec := "leaseMore", unfollowed := true, recurses := true, apart := false, narrowed := true }
def LeaseMoreUptoSaid : Prop := leaseMoreUptoRow.holds Try.pinned (OpenSpec.upto leaseMoreSpec)

end Rows
end Go.Proofs.Ytppbjcjnheamnaa
