/- Messages that are compared. No condition. -/
import Derived.Test.YtodjmeodcmbdoaaMaiE
import Derived.ChangeKeysEq
set_option linter.unusedVariables false
set_option linter.unusedSimpArgs false
namespace Go.Proofs.Ytodjmeodcmbdoaa
open Go.RowKit
theorem tl_inj {s t : ByteArray} : s.toList = t.toList ↔ s = t := by
  rw [ByteArray.toList_eq, ByteArray.toList_eq]
  constructor
  · intro h; cases s; cases t; simpa using h
  · rintro rfl; rfl
theorem eql_msg (m k : Msg) (w : World) : (binOp .eql tMsg (.agg m.cs) (.agg k.cs)).run Try.prog w = .ok (.bool (sameM m k)) w := by
  obtain ⟨x0, x1, x2, x3, x4, x5, x6, x7, x8, x9, x10, s, t⟩ := m
  obtain ⟨y0, y1, y2, y3, y4, y5, y6, y7, y8, y9, y10, s', t'⟩ := k
  unfold Msg.cs sameM
  simp only
  have ha : (Op.equalIn 9999 33 (.agg #[.int .i64 x7, .int .i64 x8, .int .i64 x9, .int .i64 x10]) (.agg #[.int .i64 y7, .int .i64 y8, .int .i64 y9, .int .i64 y10])).run Try.prog w = .ok (decide (x7 = y7) && (decide (x8 = y8) && (decide (x9 = y9) && decide (x10 = y10)))) w := by
    obtain ⟨i, hi, _⟩ := Option.map_eq_some_iff.1 Try.infoI
    have hc : Try.prog.cellsOf tI = 1 := by kernel_rfl
    rw [show (9999 : Nat) = 9998 + 1 from rfl, run_equalIn_array (P := Try.prog) w 9998 _ _ Try.underlying33 hi, hc]
    simp only [Op.eqItems, show List.range 4 = [0, 1, 2, 3] from rfl, Sem.run_bind]
    go_simp
    repeat' split
    all_goals simp_all
  go_simp
  simp only [tl_inj]
  repeat' split
  all_goals simp_all
end Go.Proofs.Ytodjmeodcmbdoaa
