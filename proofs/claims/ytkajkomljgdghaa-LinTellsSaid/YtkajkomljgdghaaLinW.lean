/- The walks of package lin, small: an op's cells, sure, never. No condition. -/
import Derived.Test.YtkajkomljgdghaaLinM
import Derived.Test.YtkajkomljgdghaaMap
import Derived.Test.YtkajkomljgdghaaFill
import Derived.Test.YtkajkomljgdghaaBox
import Derived.Test.YtkajkomljgdghaaReg
import Derived.Deep.QuietTactic
import Derived.BigQuiet
import Derived.WalkSpells
import Derived.Deep.DeepCutAuto
import Derived.Deep.RegionLaw
set_option linter.unusedVariables false
set_option linter.unusedSimpArgs false
namespace Go.Proofs.Ytkajkomljgdghaa
open Go.RowKit
abbrev tOp : TypeId := 44
def LOp.cells (o : LOp) : List Value := [.int .i64 o.op, .int .i64 o.blk, .string o.data, .int .i64 o.fr, .int .i64 o.tt, .bool o.back, .int .i64 o.e, .string o.rd]
def LOp.cs (o : LOp) : Array Value := #[.int .i64 o.op, .int .i64 o.blk, .string o.data, .int .i64 o.fr, .int .i64 o.tt, .bool o.back, .int .i64 o.e, .string o.rd]
def eOp : Enc LOp := ⟨LOp.cells, 8, fun _ => rfl, fun x u hu => by
  simp only [LOp.cells, List.mem_cons, List.not_mem_nil, or_false] at hu
  rcases hu with rfl | rfl | rfl | rfl | rfl | rfl | rfl | rfl <;> rfl⟩
/-- What may lie in memory. -/
structure LOp.ok (o : LOp) : Prop where
  op : -9223372036854775808 ≤ o.op ∧ o.op ≤ 9223372036854775807
  blk : -9223372036854775808 ≤ o.blk ∧ o.blk ≤ 9223372036854775807
  data : o.data.size ≤ 140737488351232
  fr : -9223372036854775808 ≤ o.fr ∧ o.fr ≤ 9223372036854775807
  tt : -9223372036854775808 ≤ o.tt ∧ o.tt ≤ 9223372036854775807
  e : -9223372036854775808 ≤ o.e ∧ o.e ≤ 9223372036854775807
  rd : o.rd.size ≤ 140737488351232
theorem op1 (o : LOp) : o.cs.all (·.oneCell') = true := by simp [LOp.cs, Value.oneCell']
theorem infoOp : (Try.prog.info? tOp).map (·.size) = some 8 := by kernel_rfl
theorem Try.infoO : (Try.prog.info? tOp).map (fun i => (i.zero, i.size, i.bytes)) = some (some (.agg #[.int .i64 0, .int .i64 0, .string ByteArray.empty, .int .i64 0, .int .i64 0, .bool false, .int .i64 0, .string ByteArray.empty]), 8, 80) := by kernel_rfl
theorem Rd.op {w : World} {A : Option Addr} {l : List LOp} (h : Rd w A (eOp.fl l)) (k : Nat) (x : LOp) (hx : l[k]? = some x) :
    ∃ b o, A = some ⟨b, o, none⟩ ∧ w.rangeAt b (o + k * 8) x.cells := by
  obtain ⟨hk, rfl⟩ := List.getElem?_eq_some_iff.1 hx
  obtain ⟨b, o, e, hc⟩ := h.elem k hk (by decide)
  refine ⟨b, o, e, fun j v hv => ?_⟩
  exact hc j v hv
set_option maxRecDepth 100000 in
theorem sure_any (o : LOp) (w : World) : Calls Try.prog 26 #[.agg o.cs] w fun e w' => e = .returned (.bool o.sure) ∧ Below w.heap.size w w' := by
  obtain ⟨xo, xb, xd, xf, xt, xk, xe, xr⟩ := o
  have HB := Lib.hid ((Below.refl w.heap.size w).alloc (Nat.le_refl _) (.cells #[.int .i64 xo, .int .i64 xb, .string xd, .int .i64 xf, .int .i64 xt, .bool xk, .int .i64 xe, .string xr] tOp))
  unfold LOp.cs LOp.sure
  cases xk
  · go_enter Try.func26, Try.ntmps26
    go_wp2
    go_ret
    exact ⟨rfl, HB.out⟩
  · go_enter Try.func26, Try.ntmps26
    go_wp2
    go_ret
    refine ⟨?_, HB.out⟩
    by_cases h : xe = 0 <;> simp [h]
set_option maxRecDepth 100000 in
theorem never_any (o : LOp) (w : World) : Calls Try.prog 25 #[.agg o.cs] w fun e w' => e = .returned (.bool o.never) ∧ Below w.heap.size w w' := by
  obtain ⟨xo, xb, xd, xf, xt, xk, xe, xr⟩ := o
  have HB := Lib.hid ((Below.refl w.heap.size w).alloc (Nat.le_refl _) (.cells #[.int .i64 xo, .int .i64 xb, .string xd, .int .i64 xf, .int .i64 xt, .bool xk, .int .i64 xe, .string xr] tOp))
  by_cases h1 : xo = 1
  · subst h1
    obtain ⟨s, hs⟩ : ∃ s, (LOp.mk 1 xb xd xf xt xk xe xr).sure = s := ⟨_, rfl⟩
    have hn : (LOp.mk 1 xb xd xf xt xk xe xr).never = !s := by rw [← hs]; rfl
    rw [hn]
    have HS := Lib.hid hs
    clear hn hs
    unfold LOp.cs
    go_enter Try.func25, Try.ntmps25
    go_wp2_with (go_at_call 26; refine (sure_any ⟨1, xb, xd, xf, xt, xk, xe, xr⟩ _).mono ?_; rw [HS.out]; rintro e w1 ⟨rfl, hB⟩; have HB1 := Lib.hid (HB.out.trans (hB.mono (by simp))); clear hB)
    go_ret
    exact ⟨rfl, HB1.out⟩
  have f1 : (xo == 1) = false := by simpa using h1
  by_cases h2 : xo = 2 ∨ xo = 3
  · have hn : (LOp.mk xo xb xd xf xt xk xe xr).never = (xk && refused xe) := by unfold LOp.never; rw [if_neg h1, if_pos h2]
    rw [hn]
    clear hn h1
    unfold LOp.cs
    have f2 : (xo == 2) = true ∨ (xo == 2) = false ∧ (xo == 3) = true := by rcases h2 with h | h <;> subst h <;> simp
    cases xk
    · rcases f2 with f2 | ⟨f2, f3⟩
      all_goals (
        go_enter Try.func25, Try.ntmps25
        go_wp2_with fail
        go_ret
        exact ⟨rfl, HB.out⟩)
    · by_cases e1 : xe = 1
      · subst e1
        rcases f2 with f2 | ⟨f2, f3⟩
        all_goals (
          go_enter Try.func25, Try.ntmps25
          go_wp2_with fail
          go_ret
          exact ⟨rfl, HB.out⟩)
      by_cases e2 : xe = 2
      · subst e2
        rcases f2 with f2 | ⟨f2, f3⟩
        all_goals (
          go_enter Try.func25, Try.ntmps25
          go_wp2_with fail
          go_ret
          exact ⟨rfl, HB.out⟩)
      by_cases e3 : xe = 3
      · subst e3
        rcases f2 with f2 | ⟨f2, f3⟩
        all_goals (
          go_enter Try.func25, Try.ntmps25
          go_wp2_with fail
          go_ret
          exact ⟨rfl, HB.out⟩)
      by_cases e4 : xe = 4
      · subst e4
        rcases f2 with f2 | ⟨f2, f3⟩
        all_goals (
          go_enter Try.func25, Try.ntmps25
          go_wp2_with fail
          go_ret
          exact ⟨rfl, HB.out⟩)
      by_cases e5 : xe = 20
      · subst e5
        rcases f2 with f2 | ⟨f2, f3⟩
        all_goals (
          go_enter Try.func25, Try.ntmps25
          go_wp2_with fail
          go_ret
          exact ⟨rfl, HB.out⟩)
      have hr : refused xe = false := decide_eq_false (by rintro (h | h | h | h | h) <;> contradiction)
      rw [hr]
      have g1 : (xe == 1) = false := by simpa using e1
      have g2 : (xe == 2) = false := by simpa using e2
      have g3 : (xe == 3) = false := by simpa using e3
      have g4 : (xe == 4) = false := by simpa using e4
      have g5 : (xe == 20) = false := by simpa using e5
      clear hr e1 e2 e3 e4 e5
      rcases f2 with f2 | ⟨f2, f3⟩
      all_goals (
        go_enter Try.func25, Try.ntmps25
        go_wp2_with fail
        go_ret
        exact ⟨rfl, HB.out⟩)
  · have hn : (LOp.mk xo xb xd xf xt xk xe xr).never = true := by unfold LOp.never; rw [if_neg h1, if_neg h2]
    rw [hn]
    clear hn h1
    have f2 : (xo == 2) = false := by simp; omega
    have f3 : (xo == 3) = false := by simp; omega
    clear h2
    unfold LOp.cs
    go_enter Try.func25, Try.ntmps25
    go_wp2_with fail
    go_ret
    exact ⟨rfl, HB.out⟩
end Go.Proofs.Ytkajkomljgdghaa
