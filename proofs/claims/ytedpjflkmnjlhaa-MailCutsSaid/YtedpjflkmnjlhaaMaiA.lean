/- The walk of awake: it returns true. No condition. -/
import Derived.Test.YtedpjflkmnjlhaaMaiB
set_option linter.unusedVariables false
set_option linter.unusedSimpArgs false
namespace Go.Proofs.Ytedpjflkmnjlhaa
open Go.RowKit
def aM : Msg := ⟨1, 2, 0, 0, -1, 0, 0, 0, 0, 0, 0, { data := #[] }, { data := #[] }⟩
theorem numB1 {n : Int} (h : zig n < 128) : numB n = [b8 (zig n)] := varB_lt h
theorem aw_enc : encB aM.rc = [1, 42, 4, 0, 0, 1, 0, 0, 0, 0, 0, 0, 0, 0] := by
  unfold encB bodB aM Msg.rc
  simp only [List.flatMap_cons, List.flatMap_nil, numB1 (show zig 2 < 128 by decide), numB1 (show zig 0 < 128 by decide), numB1 (show zig (-1) < 128 by decide)]
  rfl
theorem aw_may : mayM aM = true := by rfl
theorem aw_may0 : mayM zM = false := by rfl
theorem aw_str : mOut aM = { data := #[1, 42, 4, 0, 0, 1, 0, 0, 0, 0, 0, 0, 0, 0] } := by
  unfold mOut
  rw [if_pos aw_may, aw_enc]
theorem aw_er : mEr aM = 0 := by
  unfold mEr
  rw [if_pos aw_may]
theorem aw_d1 : dMsg { data := #[1, 42, 4, 0, 0, 1, 0, 0, 0, 0, 0, 0, 0, 0] } = aM ∧ dEr { data := #[1, 42, 4, 0, 0, 1, 0, 0, 0, 0, 0, 0, 0, 0] } = 0 :=
  d_some rfl (by rw [← aw_enc]; exact decM_enc aw_may)
theorem aw_d2 : dMsg { data := #[63] } = zM ∧ dEr { data := #[63] } = 4 := d_none rfl (decM_none rfl)
set_option maxRecDepth 100000 in
set_option maxHeartbeats 2000000 in
theorem awake_any (w : World) : Calls Try.prog 8 #[] w fun e w' => e = .returned (.bool true) ∧ Below w.heap.size w w' := by
  have hb1 : ∀ w, (Instr.build tMsg #[(0, .int .i64 1), (1, .int .i64 2), (4, .int .i64 (-1))]).run Try.prog w = .ok (.agg #[.int .i64 1, .int .i64 2, .int .i64 0, .int .i64 0, .int .i64 (-1), .int .i64 0, .int .i64 0, .int .i64 0, .int .i64 0, .int .i64 0, .int .i64 0, .string { data := #[] }, .string { data := #[] }]) w := fun w => run_build w tMsg _ _ (by kernel_rfl)
  have hbz : ∀ w, (Instr.build tMsg #[]).run Try.prog w = .ok (.agg #[.int .i64 0, .int .i64 0, .int .i64 0, .int .i64 0, .int .i64 0, .int .i64 0, .int .i64 0, .int .i64 0, .int .i64 0, .int .i64 0, .int .i64 0, .string { data := #[] }, .string { data := #[] }]) w := buildZ
  have heq : ∀ w, (binOp .eql tMsg (.agg #[.int .i64 1, .int .i64 2, .int .i64 0, .int .i64 0, .int .i64 (-1), .int .i64 0, .int .i64 0, .int .i64 0, .int .i64 0, .int .i64 0, .int .i64 0, .string { data := #[] }, .string { data := #[] }]) (.agg #[.int .i64 1, .int .i64 2, .int .i64 0, .int .i64 0, .int .i64 (-1), .int .i64 0, .int .i64 0, .int .i64 0, .int .i64 0, .int .i64 0, .int .i64 0, .string { data := #[] }, .string { data := #[] }])).run Try.prog w = .ok (.bool true) w := fun w => (eql_msg aM aM w).trans (by rw [sameM_iff.2 rfl])
  obtain ⟨g, hg⟩ : ∃ g, w.heap.size = g := ⟨_, rfl⟩
  have HS := Lib.hid ((Sep.nil w).newBlk #[.int .i64 1, .int .i64 2, .int .i64 0, .int .i64 0, .int .i64 (-1), .int .i64 0, .int .i64 0, .int .i64 0, .int .i64 0, .int .i64 0, .int .i64 0, .string { data := #[] }, .string { data := #[] }] tMsg hg)
  have HG := Lib.hid hg
  clear hg
  go_enter Try.func8, Try.ntmps8
  go_upto_region 2 with fail
  rw [HG.out]
  generalize w.alloc (.cells #[.int .i64 1, .int .i64 2, .int .i64 0, .int .i64 0, .int .i64 (-1), .int .i64 0, .int .i64 0, .int .i64 0, .int .i64 0, .int .i64 0, .int .i64 0, .string { data := #[] }, .string { data := #[] }] tMsg) = w1 at *
  have hz := (show Blk w1 g #[.int .i64 1, .int .i64 2, .int .i64 0, .int .i64 0, .int .i64 (-1), .int .i64 0, .int .i64 0, .int .i64 0, .int .i64 0, .int .i64 0, .int .i64 0, .string { data := #[] }, .string { data := #[] }] tMsg from HS.out.hd)
  have y0 := hz.cell 0; have y1 := hz.cell 1; have y2 := hz.cell 2; have y3 := hz.cell 3; have y4 := hz.cell 4; have y5 := hz.cell 5; have y6 := hz.cell 6; have y7 := hz.cell 7; have y8 := hz.cell 8; have y9 := hz.cell 9; have y10 := hz.cell 10; have y11 := hz.cell 11; have y12 := hz.cell 12
  simp at y0 y1 y2 y3 y4 y5 y6 y7 y8 y9 y10 y11 y12
  clear hz
  go_upto_region 3 with (go_at_call 9; refine (mencode_any aM _).mono ?_; rw [aw_str, aw_er]; rintro e1 w2 ⟨rfl, hB⟩; have HS := Lib.hid (HS.out.step hB); clear hB)
  clear y0 y1 y2 y3 y4 y5 y6 y7 y8 y9 y10 y11 y12
  go_upto_region 4 with (go_at_call 13; refine (mdecode_any _ _ (by decide)).mono ?_; rw [aw_d1.1, aw_d1.2]; unfold aM Msg.cs; simp only; rintro e1 w3 ⟨rfl, hB⟩; have HS := Lib.hid ((HS.out.step hB).newBlk #[.int .i64 1, .int .i64 2, .int .i64 0, .int .i64 0, .int .i64 (-1), .int .i64 0, .int .i64 0, .int .i64 0, .int .i64 0, .int .i64 0, .int .i64 0, .string { data := #[] }, .string { data := #[] }] tMsg (g := w3.heap.size) rfl); clear hB)
  generalize w3.alloc (.cells #[.int .i64 1, .int .i64 2, .int .i64 0, .int .i64 0, .int .i64 (-1), .int .i64 0, .int .i64 0, .int .i64 0, .int .i64 0, .int .i64 0, .int .i64 0, .string { data := #[] }, .string { data := #[] }] tMsg) = w4 at *
  generalize w3.heap.size = g4 at *
  go_upto_region 5 with (go_at_call 13; refine (mdecode_any _ _ (by decide)).mono ?_; rw [aw_d2.1, aw_d2.2]; unfold zM Msg.cs; simp only; rintro e1 w5 ⟨rfl, hB⟩; have HS := Lib.hid ((HS.out.step hB).newBlk #[.int .i64 0, .int .i64 0, .int .i64 0, .int .i64 0, .int .i64 0, .int .i64 0, .int .i64 0, .int .i64 0, .int .i64 0, .int .i64 0, .int .i64 0, .string { data := #[] }, .string { data := #[] }] tMsg (g := w5.heap.size) rfl).tail; clear hB)
  generalize w5.alloc (.cells #[.int .i64 0, .int .i64 0, .int .i64 0, .int .i64 0, .int .i64 0, .int .i64 0, .int .i64 0, .int .i64 0, .int .i64 0, .int .i64 0, .int .i64 0, .string { data := #[] }, .string { data := #[] }] tMsg) = w6 at *
  have hz := (show Blk w6 g4 #[.int .i64 1, .int .i64 2, .int .i64 0, .int .i64 0, .int .i64 (-1), .int .i64 0, .int .i64 0, .int .i64 0, .int .i64 0, .int .i64 0, .int .i64 0, .string { data := #[] }, .string { data := #[] }] tMsg from HS.out.hd)
  have y0 := hz.cell 0; have y1 := hz.cell 1; have y2 := hz.cell 2; have y3 := hz.cell 3; have y4 := hz.cell 4; have y5 := hz.cell 5; have y6 := hz.cell 6; have y7 := hz.cell 7; have y8 := hz.cell 8; have y9 := hz.cell 9; have y10 := hz.cell 10; have y11 := hz.cell 11; have y12 := hz.cell 12
  simp at y0 y1 y2 y3 y4 y5 y6 y7 y8 y9 y10 y11 y12
  clear hz
  have hz := (show Blk w6 g #[.int .i64 1, .int .i64 2, .int .i64 0, .int .i64 0, .int .i64 (-1), .int .i64 0, .int .i64 0, .int .i64 0, .int .i64 0, .int .i64 0, .int .i64 0, .string { data := #[] }, .string { data := #[] }] tMsg from HS.out.h2)
  have z0 := hz.cell 0; have z1 := hz.cell 1; have z2 := hz.cell 2; have z3 := hz.cell 3; have z4 := hz.cell 4; have z5 := hz.cell 5; have z6 := hz.cell 6; have z7 := hz.cell 7; have z8 := hz.cell 8; have z9 := hz.cell 9; have z10 := hz.cell 10; have z11 := hz.cell 11; have z12 := hz.cell 12
  simp at z0 z1 z2 z3 z4 z5 z6 z7 z8 z9 z10 z11 z12
  clear hz
  clear hb1
  have HM1 : Hid (∀ w, Calls Try.prog 11 #[.agg #[.int .i64 1, .int .i64 2, .int .i64 0, .int .i64 0, .int .i64 (-1), .int .i64 0, .int .i64 0, .int .i64 0, .int .i64 0, .int .i64 0, .int .i64 0, .string { data := #[] }, .string { data := #[] }]] w fun e w' => e = .returned (.bool true) ∧ Below w.heap.size w w') := Lib.hid (fun w => by
    have h := mmay_any aM w
    rw [aw_may] at h
    exact h)
  have HM2 : Hid (∀ w, Calls Try.prog 11 #[.agg #[.int .i64 0, .int .i64 0, .int .i64 0, .int .i64 0, .int .i64 0, .int .i64 0, .int .i64 0, .int .i64 0, .int .i64 0, .int .i64 0, .int .i64 0, .string { data := #[] }, .string { data := #[] }]] w fun e w' => e = .returned (.bool false) ∧ Below w.heap.size w w') := Lib.hid (fun w => by
    have h := mmay_any zM w
    rw [aw_may0] at h
    exact h)
  go_wp2_with (first
    | (go_at_call 11; with_reducible refine (HM1.out _).mono ?_; rintro e1 w7 ⟨rfl, hB⟩; have HS := Lib.hid (HS.out.step hB); clear hB)
    | (go_at_call 11; with_reducible refine (HM2.out _).mono ?_; rintro e1 w8 ⟨rfl, hB⟩; have HS := Lib.hid (HS.out.step hB); clear hB))
  go_ret
  exact ⟨rfl, HS.out.bel⟩
end Go.Proofs.Ytedpjflkmnjlhaa
