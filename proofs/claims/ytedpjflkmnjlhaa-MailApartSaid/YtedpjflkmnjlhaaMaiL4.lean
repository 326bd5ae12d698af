/- The walk of the law MailApart: it returns true. No condition but the row's own. -/
import Derived.Test.YtedpjflkmnjlhaaMaiA
set_option linter.unusedVariables false
set_option linter.unusedSimpArgs false
namespace Go.Proofs.Ytedpjflkmnjlhaa
open Go.RowKit
theorem mOut_inj {m k : Msg} (h : mayM m = true) (h' : mayM k = true) : mOut m = mOut k ↔ m = k := by
  constructor
  · intro e
    unfold mOut at e
    rw [if_pos h, if_pos h'] at e
    have e' := str_inj.1 e
    have h1 := decM_enc h
    rw [e', decM_enc h'] at h1
    exact (Option.some.inj h1).symm
  · rintro rfl; rfl
set_option maxRecDepth 100000 in
set_option maxHeartbeats 2000000 in
theorem w_MailApart (a0 : Array Value) (a1 : Array Value) (w : World) (b0 : Sh.Is w (.pair (.int .i64) (.pair (.int .i64) (.pair (.int .i64) (.pair (.int .i64) (.pair (.int .i64) (.pair (.int .i64) (.pair (.int .i64) (.pair (.pair (.int .i64) (.pair (.int .i64) (.pair (.int .i64) (.pair (.int .i64) .unit)))) (.pair .str (.pair .str .unit)))))))))) a0.toList) (b1 : Sh.Is w (.pair (.int .i64) (.pair (.int .i64) (.pair (.int .i64) (.pair (.int .i64) (.pair (.int .i64) (.pair (.int .i64) (.pair (.int .i64) (.pair (.pair (.int .i64) (.pair (.int .i64) (.pair (.int .i64) (.pair (.int .i64) .unit)))) (.pair .str (.pair .str .unit)))))))))) a1.toList) :
    Calls Try.prog 6 #[.agg a0, .agg a1] w fun e w' => e = .returned (.bool true) ∧ Below w.heap.size w w' := by
  obtain ⟨m, hm, _, _⟩ := is_msg b0
  obtain rfl := agg_msg hm
  obtain ⟨k, a, b, c, d, e, er, p0, p1, p2, p3, s, t⟩ := m
  obtain ⟨m', hm', _, _⟩ := is_msg b1
  obtain rfl := agg_msg hm'
  obtain ⟨k', a', b', c', d', e', er', p0', p1', p2', p3', s', t'⟩ := m'
  obtain ⟨g, hg⟩ : ∃ g, w.heap.size = g := ⟨_, rfl⟩
  have HS := Lib.hid (((Sep.nil w).newBlk #[.int .i64 k, .int .i64 a, .int .i64 b, .int .i64 c, .int .i64 d, .int .i64 e, .int .i64 er, .int .i64 p0, .int .i64 p1, .int .i64 p2, .int .i64 p3, .string s, .string t] tMsg hg).newBlk #[.int .i64 k', .int .i64 a', .int .i64 b', .int .i64 c', .int .i64 d', .int .i64 e', .int .i64 er', .int .i64 p0', .int .i64 p1', .int .i64 p2', .int .i64 p3', .string s', .string t'] tMsg (g := g + 1) (by simp [hg]))
  have HG := Lib.hid hg
  clear hg hm b0 hm' b1
  unfold Msg.cs
  simp only
  go_enter Try.func6, Try.ntmps6
  go_upto_region 1 with fail
  simp only [HG.out]
  generalize (w.alloc (.cells #[.int .i64 k, .int .i64 a, .int .i64 b, .int .i64 c, .int .i64 d, .int .i64 e, .int .i64 er, .int .i64 p0, .int .i64 p1, .int .i64 p2, .int .i64 p3, .string s, .string t] tMsg)).alloc (.cells #[.int .i64 k', .int .i64 a', .int .i64 b', .int .i64 c', .int .i64 d', .int .i64 e', .int .i64 er', .int .i64 p0', .int .i64 p1', .int .i64 p2', .int .i64 p3', .string s', .string t'] tMsg) = w1 at *
  go_upto_region 3 with (go_at_call 8; refine (awake_any _).mono ?_; rintro e1 w2 ⟨rfl, hB⟩; have HS := Lib.hid (HS.out.step hB); clear hB)
  have hz := (show Blk w2 g #[.int .i64 k, .int .i64 a, .int .i64 b, .int .i64 c, .int .i64 d, .int .i64 e, .int .i64 er, .int .i64 p0, .int .i64 p1, .int .i64 p2, .int .i64 p3, .string s, .string t] tMsg from HS.out.h2)
  have y0 := hz.cell 0; have y1 := hz.cell 1; have y2 := hz.cell 2; have y3 := hz.cell 3; have y4 := hz.cell 4; have y5 := hz.cell 5; have y6 := hz.cell 6; have y7 := hz.cell 7; have y8 := hz.cell 8; have y9 := hz.cell 9; have y10 := hz.cell 10; have y11 := hz.cell 11; have y12 := hz.cell 12
  simp at y0 y1 y2 y3 y4 y5 y6 y7 y8 y9 y10 y11 y12
  clear hz
  go_upto_region 4 with (go_at_call 9; refine (mencode_any ⟨k, a, b, c, d, e, er, p0, p1, p2, p3, s, t⟩ _).mono ?_; rintro e1 w3 ⟨rfl, hB⟩; have HS := Lib.hid (HS.out.step hB); clear hB)
  clear y0 y1 y2 y3 y4 y5 y6 y7 y8 y9 y10 y11 y12
  have hz := (show Blk w3 (g+1) #[.int .i64 k', .int .i64 a', .int .i64 b', .int .i64 c', .int .i64 d', .int .i64 e', .int .i64 er', .int .i64 p0', .int .i64 p1', .int .i64 p2', .int .i64 p3', .string s', .string t'] tMsg from HS.out.hd)
  have y0 := hz.cell 0; have y1 := hz.cell 1; have y2 := hz.cell 2; have y3 := hz.cell 3; have y4 := hz.cell 4; have y5 := hz.cell 5; have y6 := hz.cell 6; have y7 := hz.cell 7; have y8 := hz.cell 8; have y9 := hz.cell 9; have y10 := hz.cell 10; have y11 := hz.cell 11; have y12 := hz.cell 12
  simp at y0 y1 y2 y3 y4 y5 y6 y7 y8 y9 y10 y11 y12
  clear hz
  go_upto_region 5 with (go_at_call 9; refine (mencode_any ⟨k', a', b', c', d', e', er', p0', p1', p2', p3', s', t'⟩ _).mono ?_; rintro e1 w4 ⟨rfl, hB⟩; have HS := Lib.hid (HS.out.step hB); clear hB)
  clear y0 y1 y2 y3 y4 y5 y6 y7 y8 y9 y10 y11 y12
  have hz := (show Blk w4 (g+1) #[.int .i64 k', .int .i64 a', .int .i64 b', .int .i64 c', .int .i64 d', .int .i64 e', .int .i64 er', .int .i64 p0', .int .i64 p1', .int .i64 p2', .int .i64 p3', .string s', .string t'] tMsg from HS.out.hd)
  have y0 := hz.cell 0; have y1 := hz.cell 1; have y2 := hz.cell 2; have y3 := hz.cell 3; have y4 := hz.cell 4; have y5 := hz.cell 5; have y6 := hz.cell 6; have y7 := hz.cell 7; have y8 := hz.cell 8; have y9 := hz.cell 9; have y10 := hz.cell 10; have y11 := hz.cell 11; have y12 := hz.cell 12
  simp at y0 y1 y2 y3 y4 y5 y6 y7 y8 y9 y10 y11 y12
  clear hz
  have hz := (show Blk w4 g #[.int .i64 k, .int .i64 a, .int .i64 b, .int .i64 c, .int .i64 d, .int .i64 e, .int .i64 er, .int .i64 p0, .int .i64 p1, .int .i64 p2, .int .i64 p3, .string s, .string t] tMsg from HS.out.h2)
  have z0 := hz.cell 0; have z1 := hz.cell 1; have z2 := hz.cell 2; have z3 := hz.cell 3; have z4 := hz.cell 4; have z5 := hz.cell 5; have z6 := hz.cell 6; have z7 := hz.cell 7; have z8 := hz.cell 8; have z9 := hz.cell 9; have z10 := hz.cell 10; have z11 := hz.cell 11; have z12 := hz.cell 12
  simp at z0 z1 z2 z3 z4 z5 z6 z7 z8 z9 z10 z11 z12
  clear hz
  cases h1 : mayM ⟨k, a, b, c, d, e, er, p0, p1, p2, p3, s, t⟩
  · have e1 : mEr ⟨k, a, b, c, d, e, er, p0, p1, p2, p3, s, t⟩ = 4 := by unfold mEr; rw [h1]; rfl
    rw [e1]
    clear h1
    go_wp2_with fail
    go_ret
    exact ⟨rfl, HS.out.bel⟩
  have e1 : mEr ⟨k, a, b, c, d, e, er, p0, p1, p2, p3, s, t⟩ = 0 := by unfold mEr; rw [h1]; rfl
  rw [e1]
  cases h2 : mayM ⟨k', a', b', c', d', e', er', p0', p1', p2', p3', s', t'⟩
  · have e2 : mEr ⟨k', a', b', c', d', e', er', p0', p1', p2', p3', s', t'⟩ = 4 := by unfold mEr; rw [h2]; rfl
    rw [e2]
    clear h1 h2 e1
    go_wp2_with fail
    go_ret
    exact ⟨rfl, HS.out.bel⟩
  have e2 : mEr ⟨k', a', b', c', d', e', er', p0', p1', p2', p3', s', t'⟩ = 0 := by unfold mEr; rw [h2]; rfl
  rw [e2]
  have HI := Lib.hid (mOut_inj h1 h2)
  clear h1 h2 e1 e2
  have heq : ∀ w, (binOp .eql tMsg (.agg #[.int .i64 k, .int .i64 a, .int .i64 b, .int .i64 c, .int .i64 d, .int .i64 e, .int .i64 er, .int .i64 p0, .int .i64 p1, .int .i64 p2, .int .i64 p3, .string s, .string t]) (.agg #[.int .i64 k', .int .i64 a', .int .i64 b', .int .i64 c', .int .i64 d', .int .i64 e', .int .i64 er', .int .i64 p0', .int .i64 p1', .int .i64 p2', .int .i64 p3', .string s', .string t'])).run Try.prog w = .ok (.bool (sameM ⟨k, a, b, c, d, e, er, p0, p1, p2, p3, s, t⟩ ⟨k', a', b', c', d', e', er', p0', p1', p2', p3', s', t'⟩)) w := eql_msg ⟨k, a, b, c, d, e, er, p0, p1, p2, p3, s, t⟩ ⟨k', a', b', c', d', e', er', p0', p1', p2', p3', s', t'⟩
  cases hs : sameM ⟨k, a, b, c, d, e, er, p0, p1, p2, p3, s, t⟩ ⟨k', a', b', c', d', e', er', p0', p1', p2', p3', s', t'⟩
  · rw [hs] at heq
    have hne : ((mOut ⟨k, a, b, c, d, e, er, p0, p1, p2, p3, s, t⟩).toList == (mOut ⟨k', a', b', c', d', e', er', p0', p1', p2', p3', s', t'⟩).toList) = false := str_ne (fun e => by rw [sameM_iff.2 (HI.out.1 e)] at hs; cases hs)
    clear hs
    go_wp2_with fail
    go_ret
    exact ⟨by simp_all, HS.out.bel⟩
  · rw [hs] at heq
    have hne : mOut ⟨k, a, b, c, d, e, er, p0, p1, p2, p3, s, t⟩ = mOut ⟨k', a', b', c', d', e', er', p0', p1', p2', p3', s', t'⟩ := HI.out.2 (sameM_iff.1 hs)
    rw [hne]
    clear hs hne
    go_wp2_with fail
    go_ret
    exact ⟨by simp_all, HS.out.bel⟩
end Go.Proofs.Ytedpjflkmnjlhaa
