/- The walk of the law MailDecodes: it returns true. No condition but the row's own. -/
import Derived.Test.YtedpjflkmnjlhaaMaiA
set_option linter.unusedVariables false
set_option linter.unusedSimpArgs false
namespace Go.Proofs.Ytedpjflkmnjlhaa
open Go.RowKit
set_option maxRecDepth 100000 in
set_option maxHeartbeats 2000000 in
theorem w_MailDecodes (a0 : ByteArray) (w : World) (b0 : a0.size ≤ 140737488351232) :
    Calls Try.prog 4 #[.string a0] w fun e w' => e = .returned (.bool true) ∧ Below w.heap.size w w' := by
  have HS := Lib.hid (Sep.nil w)
  by_cases h14 : 16384 < a0.size
  · have f1 : (16384 : Int) < (a0.size : Int) := by omega
    go_enter Try.func4, Try.ntmps4
    go_wp2_with (go_at_call 8; refine (awake_any _).mono ?_; rintro e1 w2 ⟨rfl, hB⟩; have HS := Lib.hid (HS.out.step hB); clear hB)
    go_ret
    exact ⟨rfl, HS.out.bel⟩
  · have f1 : ¬ (16384 : Int) < (a0.size : Int) := by omega
    have f2 : decide ((16384 : Int) < (a0.size : Int)) = false := decide_eq_false f1
    have HZ := Lib.hid (show a0.size ≤ 65536 by omega)
    obtain ⟨m, hm⟩ : ∃ m, dMsg a0 = m := ⟨_, rfl⟩
    have HM := Lib.hid hm
    obtain ⟨k, a, b, c, d, e, er, p0, p1, p2, p3, s, t⟩ := m
    clear h14 hm
    go_enter Try.func4, Try.ntmps4
    go_upto_region 5 with (go_at_call 8; refine (awake_any _).mono ?_; rintro e1 w2 ⟨rfl, hB⟩; have HS := Lib.hid (HS.out.step hB); clear hB)
    clear f1 f2
    go_upto_region 6 with (go_at_call 13; refine (mdecode_any a0 _ HZ.out).mono ?_; rw [HM.out]; unfold Msg.cs; simp only; rintro e1 w3 ⟨rfl, hB⟩; have HS := Lib.hid ((HS.out.step hB).newBlk #[.int .i64 k, .int .i64 a, .int .i64 b, .int .i64 c, .int .i64 d, .int .i64 e, .int .i64 er, .int .i64 p0, .int .i64 p1, .int .i64 p2, .int .i64 p3, .string s, .string t] tMsg (g := w3.heap.size) rfl); clear hB)
    generalize w3.alloc (.cells #[.int .i64 k, .int .i64 a, .int .i64 b, .int .i64 c, .int .i64 d, .int .i64 e, .int .i64 er, .int .i64 p0, .int .i64 p1, .int .i64 p2, .int .i64 p3, .string s, .string t] tMsg) = w4 at *
    generalize w3.heap.size = g4 at *
    go_upto_region 7 with (go_at_call 14; refine (rmdecode_any a0 _ HZ.out).mono ?_; rw [HM.out]; unfold Msg.cs; simp only; rintro e1 w5 ⟨rfl, hB⟩; have HS := Lib.hid ((HS.out.step hB).newBlk #[.int .i64 k, .int .i64 a, .int .i64 b, .int .i64 c, .int .i64 d, .int .i64 e, .int .i64 er, .int .i64 p0, .int .i64 p1, .int .i64 p2, .int .i64 p3, .string s, .string t] tMsg (g := w5.heap.size) rfl); clear hB)
    generalize w5.alloc (.cells #[.int .i64 k, .int .i64 a, .int .i64 b, .int .i64 c, .int .i64 d, .int .i64 e, .int .i64 er, .int .i64 p0, .int .i64 p1, .int .i64 p2, .int .i64 p3, .string s, .string t] tMsg) = w6 at *
    generalize w5.heap.size = g6 at *
    have hz := (show Blk w6 g6 #[.int .i64 k, .int .i64 a, .int .i64 b, .int .i64 c, .int .i64 d, .int .i64 e, .int .i64 er, .int .i64 p0, .int .i64 p1, .int .i64 p2, .int .i64 p3, .string s, .string t] tMsg from HS.out.hd)
    have y0 := hz.cell 0; have y1 := hz.cell 1; have y2 := hz.cell 2; have y3 := hz.cell 3; have y4 := hz.cell 4; have y5 := hz.cell 5; have y6 := hz.cell 6; have y7 := hz.cell 7; have y8 := hz.cell 8; have y9 := hz.cell 9; have y10 := hz.cell 10; have y11 := hz.cell 11; have y12 := hz.cell 12
    simp at y0 y1 y2 y3 y4 y5 y6 y7 y8 y9 y10 y11 y12
    clear hz
    have hz := (show Blk w6 g4 #[.int .i64 k, .int .i64 a, .int .i64 b, .int .i64 c, .int .i64 d, .int .i64 e, .int .i64 er, .int .i64 p0, .int .i64 p1, .int .i64 p2, .int .i64 p3, .string s, .string t] tMsg from HS.out.h2)
    have z0 := hz.cell 0; have z1 := hz.cell 1; have z2 := hz.cell 2; have z3 := hz.cell 3; have z4 := hz.cell 4; have z5 := hz.cell 5; have z6 := hz.cell 6; have z7 := hz.cell 7; have z8 := hz.cell 8; have z9 := hz.cell 9; have z10 := hz.cell 10; have z11 := hz.cell 11; have z12 := hz.cell 12
    simp at z0 z1 z2 z3 z4 z5 z6 z7 z8 z9 z10 z11 z12
    clear hz
    have heq : ∀ w, (binOp .eql tMsg (.agg #[.int .i64 k, .int .i64 a, .int .i64 b, .int .i64 c, .int .i64 d, .int .i64 e, .int .i64 er, .int .i64 p0, .int .i64 p1, .int .i64 p2, .int .i64 p3, .string s, .string t]) (.agg #[.int .i64 k, .int .i64 a, .int .i64 b, .int .i64 c, .int .i64 d, .int .i64 e, .int .i64 er, .int .i64 p0, .int .i64 p1, .int .i64 p2, .int .i64 p3, .string s, .string t])).run Try.prog w = .ok (.bool true) w := fun w => (eql_msg ⟨k, a, b, c, d, e, er, p0, p1, p2, p3, s, t⟩ ⟨k, a, b, c, d, e, er, p0, p1, p2, p3, s, t⟩ w).trans (by rw [sameM_iff.2 rfl])
    go_wp2_with fail
    go_ret
    exact ⟨rfl, HS.out.bel⟩
end Go.Proofs.Ytedpjflkmnjlhaa
