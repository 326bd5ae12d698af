/- The walk of the law MailEncodes: it returns true. No condition but the row's own. -/
import Derived.Test.YtedpjflkmnjlhaaMaiA
set_option linter.unusedVariables false
set_option linter.unusedSimpArgs false
namespace Go.Proofs.Ytedpjflkmnjlhaa
open Go.RowKit
set_option maxRecDepth 100000 in
set_option maxHeartbeats 2000000 in
theorem w_MailEncodes (a0 : Array Value) (w : World) (b0 : Sh.Is w (.pair (.int .i64) (.pair (.int .i64) (.pair (.int .i64) (.pair (.int .i64) (.pair (.int .i64) (.pair (.int .i64) (.pair (.int .i64) (.pair (.pair (.int .i64) (.pair (.int .i64) (.pair (.int .i64) (.pair (.int .i64) .unit)))) (.pair .str (.pair .str .unit)))))))))) a0.toList) :
    Calls Try.prog 3 #[.agg a0] w fun e w' => e = .returned (.bool true) ∧ Below w.heap.size w w' := by
  obtain ⟨m, hm, _, _⟩ := is_msg b0
  obtain rfl := agg_msg hm
  obtain ⟨k, a, b, c, d, e, er, p0, p1, p2, p3, s, t⟩ := m
  obtain ⟨g, hg⟩ : ∃ g, w.heap.size = g := ⟨_, rfl⟩
  have HS := Lib.hid ((Sep.nil w).newBlk #[.int .i64 k, .int .i64 a, .int .i64 b, .int .i64 c, .int .i64 d, .int .i64 e, .int .i64 er, .int .i64 p0, .int .i64 p1, .int .i64 p2, .int .i64 p3, .string s, .string t] tMsg hg)
  have HG := Lib.hid hg
  clear hg hm b0
  unfold Msg.cs
  simp only
  go_enter Try.func3, Try.ntmps3
  go_upto_region 1 with fail
  simp only [HG.out]
  generalize w.alloc (.cells #[.int .i64 k, .int .i64 a, .int .i64 b, .int .i64 c, .int .i64 d, .int .i64 e, .int .i64 er, .int .i64 p0, .int .i64 p1, .int .i64 p2, .int .i64 p3, .string s, .string t] tMsg) = w1 at *
  go_upto_region 3 with (go_at_call 8; refine (awake_any _).mono ?_; rintro e1 w2 ⟨rfl, hB⟩; have HS := Lib.hid (HS.out.step hB); clear hB)
  have hz := (show Blk w2 g #[.int .i64 k, .int .i64 a, .int .i64 b, .int .i64 c, .int .i64 d, .int .i64 e, .int .i64 er, .int .i64 p0, .int .i64 p1, .int .i64 p2, .int .i64 p3, .string s, .string t] tMsg from HS.out.hd)
  have y0 := hz.cell 0; have y1 := hz.cell 1; have y2 := hz.cell 2; have y3 := hz.cell 3; have y4 := hz.cell 4; have y5 := hz.cell 5; have y6 := hz.cell 6; have y7 := hz.cell 7; have y8 := hz.cell 8; have y9 := hz.cell 9; have y10 := hz.cell 10; have y11 := hz.cell 11; have y12 := hz.cell 12
  simp at y0 y1 y2 y3 y4 y5 y6 y7 y8 y9 y10 y11 y12
  clear hz
  go_upto_region 4 with (go_at_call 9; refine (mencode_any ⟨k, a, b, c, d, e, er, p0, p1, p2, p3, s, t⟩ _).mono ?_; rintro e1 w3 ⟨rfl, hB⟩; have HS := Lib.hid (HS.out.step hB); clear hB)
  clear y0 y1 y2 y3 y4 y5 y6 y7 y8 y9 y10 y11 y12
  have hz := (show Blk w3 g #[.int .i64 k, .int .i64 a, .int .i64 b, .int .i64 c, .int .i64 d, .int .i64 e, .int .i64 er, .int .i64 p0, .int .i64 p1, .int .i64 p2, .int .i64 p3, .string s, .string t] tMsg from HS.out.hd)
  have y0 := hz.cell 0; have y1 := hz.cell 1; have y2 := hz.cell 2; have y3 := hz.cell 3; have y4 := hz.cell 4; have y5 := hz.cell 5; have y6 := hz.cell 6; have y7 := hz.cell 7; have y8 := hz.cell 8; have y9 := hz.cell 9; have y10 := hz.cell 10; have y11 := hz.cell 11; have y12 := hz.cell 12
  simp at y0 y1 y2 y3 y4 y5 y6 y7 y8 y9 y10 y11 y12
  clear hz
  go_upto_region 5 with (go_at_call 10; refine (rmencode_any ⟨k, a, b, c, d, e, er, p0, p1, p2, p3, s, t⟩ _).mono ?_; rintro e1 w4 ⟨rfl, hB⟩; have HS := Lib.hid (HS.out.step hB); clear hB)
  clear y0 y1 y2 y3 y4 y5 y6 y7 y8 y9 y10 y11 y12
  have HCS : Hid (∀ w', Below w4.heap.size w4 w' → w'.cell? ⟨g, 0, none⟩ = some (.int .i64 k) ∧ w'.cell? ⟨g, 1, none⟩ = some (.int .i64 a) ∧ w'.cell? ⟨g, 2, none⟩ = some (.int .i64 b) ∧ w'.cell? ⟨g, 3, none⟩ = some (.int .i64 c) ∧ w'.cell? ⟨g, 4, none⟩ = some (.int .i64 d) ∧ w'.cell? ⟨g, 5, none⟩ = some (.int .i64 e) ∧ w'.cell? ⟨g, 6, none⟩ = some (.int .i64 er) ∧ w'.cell? ⟨g, 7, none⟩ = some (.int .i64 p0) ∧ w'.cell? ⟨g, 8, none⟩ = some (.int .i64 p1) ∧ w'.cell? ⟨g, 9, none⟩ = some (.int .i64 p2) ∧ w'.cell? ⟨g, 10, none⟩ = some (.int .i64 p3) ∧ w'.cell? ⟨g, 11, none⟩ = some (.string s) ∧ w'.cell? ⟨g, 12, none⟩ = some (.string t)) := Lib.hid (fun w' h => by
    have hb := (show Blk w4 g #[.int .i64 k, .int .i64 a, .int .i64 b, .int .i64 c, .int .i64 d, .int .i64 e, .int .i64 er, .int .i64 p0, .int .i64 p1, .int .i64 p2, .int .i64 p3, .string s, .string t] tMsg from HS.out.hd).bel h
    exact ⟨hb.cell 0, hb.cell 1, hb.cell 2, hb.cell 3, hb.cell 4, hb.cell 5, hb.cell 6, hb.cell 7, hb.cell 8, hb.cell 9, hb.cell 10, hb.cell 11, hb.cell 12⟩)
  generalize mOut ⟨k, a, b, c, d, e, er, p0, p1, p2, p3, s, t⟩ = x at *
  generalize mEr ⟨k, a, b, c, d, e, er, p0, p1, p2, p3, s, t⟩ = y at *
  obtain ⟨r, hr⟩ : ∃ r, mayM ⟨k, a, b, c, d, e, er, p0, p1, p2, p3, s, t⟩ = r := ⟨_, rfl⟩
  have HM := Lib.hid hr
  clear hr
  have HB := Lib.hid (show Below w4.heap.size w4 w4.drew from Below.drew (Below.refl _ _))
  refine wp_region_L (fun w' => w'.cell? ⟨g, 0, none⟩ = some (.int .i64 k) ∧ w'.cell? ⟨g, 1, none⟩ = some (.int .i64 a) ∧ w'.cell? ⟨g, 2, none⟩ = some (.int .i64 b) ∧ w'.cell? ⟨g, 3, none⟩ = some (.int .i64 c) ∧ w'.cell? ⟨g, 4, none⟩ = some (.int .i64 d) ∧ w'.cell? ⟨g, 5, none⟩ = some (.int .i64 e) ∧ w'.cell? ⟨g, 6, none⟩ = some (.int .i64 er) ∧ w'.cell? ⟨g, 7, none⟩ = some (.int .i64 p0) ∧ w'.cell? ⟨g, 8, none⟩ = some (.int .i64 p1) ∧ w'.cell? ⟨g, 9, none⟩ = some (.int .i64 p2) ∧ w'.cell? ⟨g, 10, none⟩ = some (.int .i64 p3) ∧ w'.cell? ⟨g, 11, none⟩ = some (.string s) ∧ w'.cell? ⟨g, 12, none⟩ = some (.string t)) 16 (by kernel_rfl) (HCS.out _ HB.out) (fun hHeld => ?_)
  refine reg_take (i := 0) (d := 19) (v := ?_) [] rfl rfl (by kernel_rfl) (by kernel_rfl) (fun _ _ _ h => h) (Or.inl ⟨by rfl, ?_⟩) (by assumption) ?_
  rotate_left
  · (intro w hSw; (try dsimp only at hSw); go_simp; first | done | with_reducible rfl)
  try simp only [List.setIfInBounds_toArray, List.set_cons_zero, List.set_cons_succ]
  refine reg_take (i := 1) (d := 20) (v := ?_) [] rfl rfl (by kernel_rfl) (by kernel_rfl) (fun _ _ _ h => h) (Or.inl ⟨by rfl, ?_⟩) (by assumption) ?_
  rotate_left
  · (intro w hSw; (try dsimp only at hSw); go_simp; first | done | with_reducible rfl)
  try simp only [List.setIfInBounds_toArray, List.set_cons_zero, List.set_cons_succ]
  refine reg_take (i := 2) (d := 21) (v := ?_) [] rfl rfl (by kernel_rfl) (by kernel_rfl) (fun _ _ _ h => h) (Or.inl ⟨by rfl, ?_⟩) (by assumption) ?_
  rotate_left
  · (intro w hSw; (try dsimp only at hSw); go_simp; first | done | with_reducible rfl)
  try simp only [List.setIfInBounds_toArray, List.set_cons_zero, List.set_cons_succ]
  refine reg_take (i := 3) (d := 22) (v := ?_) [] rfl rfl (by kernel_rfl) (by kernel_rfl) (fun _ _ _ h => h) (Or.inl ⟨by rfl, ?_⟩) (by assumption) ?_
  rotate_left
  · (intro w hSw; (try dsimp only at hSw); go_simp; first | done | with_reducible rfl)
  try simp only [List.setIfInBounds_toArray, List.set_cons_zero, List.set_cons_succ]
  refine reg_take (i := 4) (d := 23) (v := ?_) [] rfl rfl (by kernel_rfl) (by kernel_rfl) (fun _ _ _ h => h) (Or.inl ⟨by rfl, ?_⟩) (by assumption) ?_
  rotate_left
  · (intro w hSw; (try dsimp only at hSw); go_simp; first | done | with_reducible rfl)
  try simp only [List.setIfInBounds_toArray, List.set_cons_zero, List.set_cons_succ]
  refine reg_take (i := 5) (d := 24) (v := ?_) [] rfl rfl (by kernel_rfl) (by kernel_rfl) (fun _ _ _ h => h) (Or.inl ⟨by rfl, ?_⟩) (by assumption) ?_
  rotate_left
  · (intro w hSw; (try dsimp only at hSw); go_simp; first | done | with_reducible rfl)
  try simp only [List.setIfInBounds_toArray, List.set_cons_zero, List.set_cons_succ]
  refine reg_take (i := 6) (d := 25) (v := ?_) [] rfl rfl (by kernel_rfl) (by kernel_rfl) (fun _ _ _ h => h) (Or.inl ⟨by rfl, ?_⟩) (by assumption) ?_
  rotate_left
  · (intro w hSw; (try dsimp only at hSw); go_simp; first | done | with_reducible rfl)
  try simp only [List.setIfInBounds_toArray, List.set_cons_zero, List.set_cons_succ]
  refine reg_take (i := 7) (d := 26) (v := ?_) [] rfl rfl (by kernel_rfl) (by kernel_rfl) (fun _ _ _ h => h) (Or.inl ⟨by rfl, ?_⟩) (by assumption) ?_
  rotate_left
  · (intro w hSw; (try dsimp only at hSw); go_simp; first | done | with_reducible rfl)
  try simp only [List.setIfInBounds_toArray, List.set_cons_zero, List.set_cons_succ]
  refine reg_take (i := 8) (d := 27) (v := ?_) [] rfl rfl (by kernel_rfl) (by kernel_rfl) (fun _ _ _ h => h) (Or.inl ⟨by rfl, ?_⟩) (by assumption) ?_
  rotate_left
  · (intro w hSw; (try dsimp only at hSw); go_simp; first | done | with_reducible rfl)
  try simp only [List.setIfInBounds_toArray, List.set_cons_zero, List.set_cons_succ]
  refine reg_take (i := 9) (d := 28) (v := ?_) [] rfl rfl (by kernel_rfl) (by kernel_rfl) (fun _ _ _ h => h) (Or.inl ⟨by rfl, ?_⟩) (by assumption) ?_
  rotate_left
  · (intro w hSw; (try dsimp only at hSw); go_simp; first | done | with_reducible rfl)
  try simp only [List.setIfInBounds_toArray, List.set_cons_zero, List.set_cons_succ]
  refine reg_take (i := 11) (d := 30) (v := ?_) [] rfl rfl (by kernel_rfl) (by kernel_rfl) (fun _ _ _ h => h) (Or.inl ⟨by rfl, ?_⟩) (by assumption) ?_
  rotate_left
  · (intro w hSw; (try dsimp only at hSw); go_simp; first | done | with_reducible rfl)
  try simp only [List.setIfInBounds_toArray, List.set_cons_zero, List.set_cons_succ]
  refine wpAnyL_ready (rs := [10]) (by kernel_rfl) rfl ?_
  refine (AllL.cons rfl (fun K hK => ?_) AllL.nil)
  go_simp
  go_at_call 11
  refine (mmay_any ⟨k, a, b, c, d, e, er, p0, p1, p2, p3, s, t⟩ _).mono ?_
  rw [HM.out]
  rintro e4 w5 ⟨rfl, hB⟩
  have HB := Lib.hid (HB.out.trans (hB.mono HB.out.size))
  clear hB
  go_simp
  refine hK.out _ _ (HCS.out _ HB.out) (fun hHeld => ?_)
  try simp only [List.setIfInBounds_toArray, List.set_cons_zero, List.set_cons_succ]
  refine wpAnyL_ready (rs := [12]) (by kernel_rfl) rfl ?_
  refine (AllL.cons rfl (fun K hK => ?_) AllL.nil)
  go_simp
  go_at_call 12
  refine (rmmay_any ⟨k, a, b, c, d, e, er, p0, p1, p2, p3, s, t⟩ _).mono ?_
  rw [HM.out]
  rintro e4 w5 ⟨rfl, hB⟩
  have HB := Lib.hid (HB.out.trans (hB.mono HB.out.size))
  clear hB
  go_simp
  refine hK.out _ _ (HCS.out _ HB.out) (fun hHeld => ?_)
  try simp only [List.setIfInBounds_toArray, List.set_cons_zero, List.set_cons_succ]
  refine reg_take (i := 13) (d := 32) (v := ?_) [] rfl rfl (by kernel_rfl) (by kernel_rfl) (fun _ _ _ h => h) (Or.inl ⟨by rfl, ?_⟩) (by assumption) ?_
  rotate_left
  · (intro w hSw; (try dsimp only at hSw); go_simp; first | done | with_reducible rfl)
  try simp only [List.setIfInBounds_toArray, List.set_cons_zero, List.set_cons_succ]
  refine reg_take (i := 14) (d := 33) (v := ?_) [] rfl rfl (by kernel_rfl) (by kernel_rfl) (fun _ _ _ h => h) (Or.inl ⟨by rfl, ?_⟩) (by assumption) ?_
  rotate_left
  · (intro w hSw; (try dsimp only at hSw); go_simp; first | done | with_reducible rfl)
  try simp only [List.setIfInBounds_toArray, List.set_cons_zero, List.set_cons_succ]
  refine reg_take (i := 15) (d := 2) (v := ?_) [] rfl rfl (by kernel_rfl) (by kernel_rfl) (fun _ _ _ h => h) (Or.inl ⟨by rfl, ?_⟩) (by assumption) ?_
  rotate_left
  · (intro w hSw; (try dsimp only at hSw); go_simp; first | done | with_reducible rfl)
  try simp only [List.setIfInBounds_toArray, List.set_cons_zero, List.set_cons_succ]
  refine wpAnyL_done (by kernel_rfl) ?_ _
  go_wp2_with fail
  go_ret
  exact ⟨by simp, (HS.out.step HB.out).bel⟩
end Go.Proofs.Ytedpjflkmnjlhaa
