/- Records as the laws' rows have them. No condition. -/
import Derived.Test.YtodjmeodcmbdoaaCodG
import Derived.Test.YtodjmeodcmbdoaaRow
set_option linter.unusedVariables false
set_option linter.unusedSimpArgs false
namespace Go.Proofs.Ytodjmeodcmbdoaa
open Go.RowKit
theorem is_rec {w : World} {cs : List Value} (h : Sh.Is w (.pair (.int .i64) (.pair (.slice 8 (.int .i64)) (.pair (.slice 16 .str) .unit))) cs) :
    ∃ (k : Int) (ns : List Int) (ts : List ByteArray) (An At : Option Addr) (n t cn ct : Nat), cs = [.int .i64 k, .slice An n cn, .slice At t ct] ∧ RecAt w ⟨k, ns, ts⟩ An At n t cn ct ∧ i64 k ∧ (∀ x ∈ ns, i64 x) ∧ (∀ s ∈ ts, s.size ≤ 140737488355328) ∧ (n ≤ cn ∧ t ≤ ct) ∧ (An = none → cn = 0) ∧ (At = none → ct = 0) ∧ cn * 8 ≤ 140737488351232 ∧ ct * 16 ≤ 140737488351232 := by
  obtain ⟨_, _, rfl, ⟨k, rfl, hk⟩, _, _, rfl, hn, _, _, rfl, ht, rfl⟩ := h
  obtain ⟨An, n, cn, _, rfl, _⟩ := id hn
  obtain ⟨At, t, ct, _, rfl, _⟩ := id ht
  obtain ⟨ns, n1, n2, n3, n4, n5, n6⟩ := Enc.of_slice (E := eI64) (p := i64) hn (fun cs hc => by obtain ⟨x, rfl, hx⟩ := hc; exact ⟨x, rfl, bd_i64 hx⟩)
  obtain ⟨ts, t1, t2, t3, t4, t5, t6⟩ := Enc.of_slice (E := eStr) (p := fun s => s.size ≤ 140737488355328) ht (fun cs hc => by obtain ⟨x, rfl, hx⟩ := hc; exact ⟨x, rfl, by omega⟩)
  exact ⟨k, ns, ts, An, At, n, t, cn, ct, rfl, ⟨n1, t1, n5, t5, by omega, by omega⟩, bd_i64 hk, n6, t6, ⟨n3, t3⟩, n4, t4, n2, t2⟩
end Go.Proofs.Ytodjmeodcmbdoaa
