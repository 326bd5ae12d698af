/- The walk of the law MailBack: it returns true. No condition but the row's own. -/
import Derived.Test.YtedpjflkmnjlhaaMaiK
set_option linter.unusedVariables false
set_option linter.unusedSimpArgs false
namespace Go.Proofs.Ytedpjflkmnjlhaa
open Go.RowKit
set_option maxRecDepth 100000 in
set_option maxHeartbeats 2000000 in
theorem w_MailBack (a0 : Array Value) (a1 : ByteArray) (w : World) (b0 : Sh.Is w (.pair (.int .i64) (.pair (.int .i64) (.pair (.int .i64) (.pair (.int .i64) (.pair (.int .i64) (.pair (.int .i64) (.pair (.int .i64) (.pair (.pair (.int .i64) (.pair (.int .i64) (.pair (.int .i64) (.pair (.int .i64) .unit)))) (.pair .str (.pair .str .unit)))))))))) a0.toList) (b1 : a1.size ≤ 140737488351232) :
    Calls Try.prog 5 #[.agg a0, .string a1] w fun e w' => e = .returned (.bool true) ∧ Below w.heap.size w w' := by
  clear b1
  obtain ⟨m, hm, _, _⟩ := is_msg b0
  obtain rfl := agg_msg hm
  obtain ⟨k, a, b, c, d, e, er, p0, p1, p2, p3, s, t⟩ := m
  obtain ⟨g, hg⟩ : ∃ g, w.heap.size = g := ⟨_, rfl⟩
  have HS := Lib.hid ((Sep.nil w).newBlk #[.int .i64 k, .int .i64 a, .int .i64 b, .int .i64 c, .int .i64 d, .int .i64 e, .int .i64 er, .int .i64 p0, .int .i64 p1, .int .i64 p2, .int .i64 p3, .string s, .string t] tMsg hg)
  have HG := Lib.hid hg
  clear hg hm b0
  unfold Msg.cs
  simp only
  go_enter Try.func5, Try.ntmps5
  go_upto_region 1 with fail
  simp only [HG.out]
  generalize w.alloc (.cells #[.int .i64 k, .int .i64 a, .int .i64 b, .int .i64 c, .int .i64 d, .int .i64 e, .int .i64 er, .int .i64 p0, .int .i64 p1, .int .i64 p2, .int .i64 p3, .string s, .string t] tMsg) = w1 at *
  by_cases h14 : 16384 < a1.size
  · have f1 : (16384 : Int) < (a1.size : Int) := by omega
    go_wp2_with (go_at_call 8; refine (awake_any _).mono ?_; rintro e1 w2 ⟨rfl, hB⟩; have HS := Lib.hid (HS.out.step hB); clear hB)
    go_ret
    exact ⟨rfl, HS.out.bel⟩
  have f1 : ¬ (16384 : Int) < (a1.size : Int) := by omega
  have f2 : decide ((16384 : Int) < (a1.size : Int)) = false := decide_eq_false f1
  have HZ := Lib.hid (show a1.size ≤ 65536 by omega)
  clear h14
  go_upto_region 5 with (go_at_call 8; refine (awake_any _).mono ?_; rintro e1 w2 ⟨rfl, hB⟩; have HS := Lib.hid (HS.out.step hB); clear hB)
  clear f1 f2
  have hz := (show Blk w2 g #[.int .i64 k, .int .i64 a, .int .i64 b, .int .i64 c, .int .i64 d, .int .i64 e, .int .i64 er, .int .i64 p0, .int .i64 p1, .int .i64 p2, .int .i64 p3, .string s, .string t] tMsg from HS.out.hd)
  have y0 := hz.cell 0; have y1 := hz.cell 1; have y2 := hz.cell 2; have y3 := hz.cell 3; have y4 := hz.cell 4; have y5 := hz.cell 5; have y6 := hz.cell 6; have y7 := hz.cell 7; have y8 := hz.cell 8; have y9 := hz.cell 9; have y10 := hz.cell 10; have y11 := hz.cell 11; have y12 := hz.cell 12
  simp at y0 y1 y2 y3 y4 y5 y6 y7 y8 y9 y10 y11 y12
  clear hz
  have hbz : ∀ w, (Instr.build tMsg #[]).run Try.prog w = .ok (.agg #[.int .i64 0, .int .i64 0, .int .i64 0, .int .i64 0, .int .i64 0, .int .i64 0, .int .i64 0, .int .i64 0, .int .i64 0, .int .i64 0, .int .i64 0, .string { data := #[] }, .string { data := #[] }]) w := buildZ
  cases hm : mayM ⟨k, a, b, c, d, e, er, p0, p1, p2, p3, s, t⟩
  case' false =>
    obtain ⟨k1, k2⟩ := mOut_no hm
    have HM := Lib.hid hm
    clear hm
    go_upto_region 6 with (go_at_call 9; refine (mencode_any ⟨k, a, b, c, d, e, er, p0, p1, p2, p3, s, t⟩ _).mono ?_; rw [k1, k2]; rintro e1 w3 ⟨rfl, hB⟩; have HS := Lib.hid (HS.out.step hB); clear hB)
    clear y0 y1 y2 y3 y4 y5 y6 y7 y8 y9 y10 y11 y12 k1 k2
    have hz := (show Blk w3 g #[.int .i64 k, .int .i64 a, .int .i64 b, .int .i64 c, .int .i64 d, .int .i64 e, .int .i64 er, .int .i64 p0, .int .i64 p1, .int .i64 p2, .int .i64 p3, .string s, .string t] tMsg from HS.out.hd)
    have y0 := hz.cell 0; have y1 := hz.cell 1; have y2 := hz.cell 2; have y3 := hz.cell 3; have y4 := hz.cell 4; have y5 := hz.cell 5; have y6 := hz.cell 6; have y7 := hz.cell 7; have y8 := hz.cell 8; have y9 := hz.cell 9; have y10 := hz.cell 10; have y11 := hz.cell 11; have y12 := hz.cell 12
    simp at y0 y1 y2 y3 y4 y5 y6 y7 y8 y9 y10 y11 y12
    clear hz
    go_upto_region 12 with (go_at_call 11; refine (mmay_any ⟨k, a, b, c, d, e, er, p0, p1, p2, p3, s, t⟩ _).mono ?_; rw [HM.out]; rintro e1 w9 ⟨rfl, hB⟩; have HS := Lib.hid (HS.out.step hB); clear hB)
    clear y0 y1 y2 y3 y4 y5 y6 y7 y8 y9 y10 y11 y12
  case' true =>
    obtain ⟨k1, k2⟩ := mOut_dec hm
    obtain ⟨k3, k4⟩ := mOut_size hm
    have k5 := (mOut_yes hm).2
    have HM := Lib.hid hm
    obtain ⟨x, hx⟩ : ∃ x, mOut ⟨k, a, b, c, d, e, er, p0, p1, p2, p3, s, t⟩ = x := ⟨_, rfl⟩
    have HX := Lib.hid hx
    rw [hx] at k1 k2 k3 k4
    have HK := Lib.hid (And.intro k1 k2); have HK5 := Lib.hid k5
    have HXZ := Lib.hid (show x.size ≤ 65536 by omega)
    have x1 : ¬ (200 : Int) < (x.size : Int) := by omega
    have x2 : decide ((200 : Int) < (x.size : Int)) = false := decide_eq_false x1
    clear hm hx k1 k2 k3 k4 k5
    go_upto_region 6 with (go_at_call 9; refine (mencode_any ⟨k, a, b, c, d, e, er, p0, p1, p2, p3, s, t⟩ _).mono ?_; rw [HX.out, HK5.out]; rintro e1 w3 ⟨rfl, hB⟩; have HS := Lib.hid (HS.out.step hB); clear hB)
    clear y0 y1 y2 y3 y4 y5 y6 y7 y8 y9 y10 y11 y12
    go_upto_region 8 with (go_at_call 13; refine (mdecode_any x _ HXZ.out).mono ?_; rw [HK.out.1, HK.out.2]; unfold Msg.cs; simp only; rintro e1 w4 ⟨rfl, hB⟩; have HS := Lib.hid ((HS.out.step hB).newBlk #[.int .i64 k, .int .i64 a, .int .i64 b, .int .i64 c, .int .i64 d, .int .i64 e, .int .i64 er, .int .i64 p0, .int .i64 p1, .int .i64 p2, .int .i64 p3, .string s, .string t] tMsg (g := w4.heap.size) rfl); clear hB)
    generalize w4.alloc (.cells #[.int .i64 k, .int .i64 a, .int .i64 b, .int .i64 c, .int .i64 d, .int .i64 e, .int .i64 er, .int .i64 p0, .int .i64 p1, .int .i64 p2, .int .i64 p3, .string s, .string t] tMsg) = w5 at *
    generalize w4.heap.size = g4 at *
    have hz := (show Blk w5 g4 #[.int .i64 k, .int .i64 a, .int .i64 b, .int .i64 c, .int .i64 d, .int .i64 e, .int .i64 er, .int .i64 p0, .int .i64 p1, .int .i64 p2, .int .i64 p3, .string s, .string t] tMsg from HS.out.hd)
    have y0 := hz.cell 0; have y1 := hz.cell 1; have y2 := hz.cell 2; have y3 := hz.cell 3; have y4 := hz.cell 4; have y5 := hz.cell 5; have y6 := hz.cell 6; have y7 := hz.cell 7; have y8 := hz.cell 8; have y9 := hz.cell 9; have y10 := hz.cell 10; have y11 := hz.cell 11; have y12 := hz.cell 12
    simp at y0 y1 y2 y3 y4 y5 y6 y7 y8 y9 y10 y11 y12
    clear hz
    have hz := (show Blk w5 g #[.int .i64 k, .int .i64 a, .int .i64 b, .int .i64 c, .int .i64 d, .int .i64 e, .int .i64 er, .int .i64 p0, .int .i64 p1, .int .i64 p2, .int .i64 p3, .string s, .string t] tMsg from HS.out.h2)
    have z0 := hz.cell 0; have z1 := hz.cell 1; have z2 := hz.cell 2; have z3 := hz.cell 3; have z4 := hz.cell 4; have z5 := hz.cell 5; have z6 := hz.cell 6; have z7 := hz.cell 7; have z8 := hz.cell 8; have z9 := hz.cell 9; have z10 := hz.cell 10; have z11 := hz.cell 11; have z12 := hz.cell 12
    simp at z0 z1 z2 z3 z4 z5 z6 z7 z8 z9 z10 z11 z12
    clear hz
    have heq : ∀ w, (binOp .neq tMsg (.agg #[.int .i64 k, .int .i64 a, .int .i64 b, .int .i64 c, .int .i64 d, .int .i64 e, .int .i64 er, .int .i64 p0, .int .i64 p1, .int .i64 p2, .int .i64 p3, .string s, .string t]) (.agg #[.int .i64 k, .int .i64 a, .int .i64 b, .int .i64 c, .int .i64 d, .int .i64 e, .int .i64 er, .int .i64 p0, .int .i64 p1, .int .i64 p2, .int .i64 p3, .string s, .string t])).run Try.prog w = .ok (.bool false) w := fun w => (neq_msg ⟨k, a, b, c, d, e, er, p0, p1, p2, p3, s, t⟩ ⟨k, a, b, c, d, e, er, p0, p1, p2, p3, s, t⟩ w).trans (by rw [sameM_iff.2 rfl]; rfl)
    go_upto_region 12 with (go_at_call 11; refine (mmay_any ⟨k, a, b, c, d, e, er, p0, p1, p2, p3, s, t⟩ _).mono ?_; rw [HM.out]; rintro e1 w9 ⟨rfl, hB⟩; have HS := Lib.hid (HS.out.step hB); clear hB)
    clear y0 y1 y2 y3 y4 y5 y6 y7 y8 y9 y10 y11 y12 z0 z1 z2 z3 z4 z5 z6 z7 z8 z9 z10 z11 z12 heq x1 x2
    have HS := Lib.hid HS.out.tail
  all_goals
    cases hd : decM a1.data.toList with
    | none =>
      have HK := Lib.hid (d_none rfl hd)
      clear hd
      go_upto_region 13 with (go_at_call 13; refine (mdecode_any a1 _ HZ.out).mono ?_; rw [HK.out.1, HK.out.2]; unfold zM Msg.cs; simp only; rintro e1 v4 ⟨rfl, hB⟩; have HS := Lib.hid ((HS.out.step hB).newBlk #[.int .i64 0, .int .i64 0, .int .i64 0, .int .i64 0, .int .i64 0, .int .i64 0, .int .i64 0, .int .i64 0, .int .i64 0, .int .i64 0, .int .i64 0, .string { data := #[] }, .string { data := #[] }] tMsg (g := v4.heap.size) rfl); clear hB)
      generalize v4.alloc (.cells #[.int .i64 0, .int .i64 0, .int .i64 0, .int .i64 0, .int .i64 0, .int .i64 0, .int .i64 0, .int .i64 0, .int .i64 0, .int .i64 0, .int .i64 0, .string { data := #[] }, .string { data := #[] }] tMsg) = v5 at *
      generalize v4.heap.size = f4 at *
      have hz := (show Blk v5 f4 #[.int .i64 0, .int .i64 0, .int .i64 0, .int .i64 0, .int .i64 0, .int .i64 0, .int .i64 0, .int .i64 0, .int .i64 0, .int .i64 0, .int .i64 0, .string { data := #[] }, .string { data := #[] }] tMsg from HS.out.hd)
      have y0 := hz.cell 0; have y1 := hz.cell 1; have y2 := hz.cell 2; have y3 := hz.cell 3; have y4 := hz.cell 4; have y5 := hz.cell 5; have y6 := hz.cell 6; have y7 := hz.cell 7; have y8 := hz.cell 8; have y9 := hz.cell 9; have y10 := hz.cell 10; have y11 := hz.cell 11; have y12 := hz.cell 12
      simp at y0 y1 y2 y3 y4 y5 y6 y7 y8 y9 y10 y11 y12
      clear hz
      have heq : ∀ w, (binOp .eql tMsg (.agg #[.int .i64 0, .int .i64 0, .int .i64 0, .int .i64 0, .int .i64 0, .int .i64 0, .int .i64 0, .int .i64 0, .int .i64 0, .int .i64 0, .int .i64 0, .string { data := #[] }, .string { data := #[] }]) (.agg #[.int .i64 0, .int .i64 0, .int .i64 0, .int .i64 0, .int .i64 0, .int .i64 0, .int .i64 0, .int .i64 0, .int .i64 0, .int .i64 0, .int .i64 0, .string { data := #[] }, .string { data := #[] }])).run Try.prog w = .ok (.bool true) w := fun w => (eql_msg zM zM w).trans (by rw [sameM_iff.2 rfl])
      go_wp2_with fail
      go_ret
      exact ⟨rfl, HS.out.bel⟩
    | some q =>
      obtain ⟨kq, aq, bq, cq, dq, eq, erq, p0q, p1q, p2q, p3q, sq, tq⟩ := q
      have HK := Lib.hid (d_some rfl hd)
      obtain ⟨q1, q2⟩ := mOut_of hd
      have HQ := Lib.hid (And.intro q2 (mOut_yes q1).2)
      clear hd q1 q2
      go_upto_region 13 with (go_at_call 13; refine (mdecode_any a1 _ HZ.out).mono ?_; rw [HK.out.1, HK.out.2]; unfold Msg.cs; simp only; rintro e1 v4 ⟨rfl, hB⟩; have HS := Lib.hid ((HS.out.step hB).newBlk #[.int .i64 kq, .int .i64 aq, .int .i64 bq, .int .i64 cq, .int .i64 dq, .int .i64 eq, .int .i64 erq, .int .i64 p0q, .int .i64 p1q, .int .i64 p2q, .int .i64 p3q, .string sq, .string tq] tMsg (g := v4.heap.size) rfl); clear hB)
      generalize v4.alloc (.cells #[.int .i64 kq, .int .i64 aq, .int .i64 bq, .int .i64 cq, .int .i64 dq, .int .i64 eq, .int .i64 erq, .int .i64 p0q, .int .i64 p1q, .int .i64 p2q, .int .i64 p3q, .string sq, .string tq] tMsg) = v5 at *
      generalize v4.heap.size = f4 at *
      have hz := (show Blk v5 f4 #[.int .i64 kq, .int .i64 aq, .int .i64 bq, .int .i64 cq, .int .i64 dq, .int .i64 eq, .int .i64 erq, .int .i64 p0q, .int .i64 p1q, .int .i64 p2q, .int .i64 p3q, .string sq, .string tq] tMsg from HS.out.hd)
      have y0 := hz.cell 0; have y1 := hz.cell 1; have y2 := hz.cell 2; have y3 := hz.cell 3; have y4 := hz.cell 4; have y5 := hz.cell 5; have y6 := hz.cell 6; have y7 := hz.cell 7; have y8 := hz.cell 8; have y9 := hz.cell 9; have y10 := hz.cell 10; have y11 := hz.cell 11; have y12 := hz.cell 12
      simp at y0 y1 y2 y3 y4 y5 y6 y7 y8 y9 y10 y11 y12
      clear hz
      go_wp2_with (go_at_call 9; refine (mencode_any ⟨kq, aq, bq, cq, dq, eq, erq, p0q, p1q, p2q, p3q, sq, tq⟩ _).mono ?_; rw [HQ.out.1, HQ.out.2]; rintro e1 v6 ⟨rfl, hB⟩; have HS := Lib.hid (HS.out.step hB); clear hB)
      go_ret
      exact ⟨by simp, HS.out.bel⟩
end Go.Proofs.Ytedpjflkmnjlhaa
