/- The walks of the document's package client: letters that are taken. Conditions: sizes. -/
import Derived.Test.YtodjmeodcmbdoaaCliT
set_option linter.unusedVariables false
set_option linter.unusedSimpArgs false
namespace Go.Proofs.Ytodjmeodcmbdoaa
open Go.RowKit
section
variable {w W : World} {l : List Th} {b : Nat} {cv rv : Value} {c : Cst}
set_option maxRecDepth 100000 in
set_option maxHeartbeats 8000000 in
theorem rtake_sep (h : Sep w W (tCli tRc b cv rv c :: l)) (g : Good c) (x : Let) (hx : x.body.size ≤ 65536) :
    Calls Try.prog 16 #[.pointer (some ⟨b, 0, none⟩), .agg x.cs] W fun e W' => e = .returned (.bool (c.takeB x)) ∧ ∃ rv', Sep w W' (tCli tRc b cv rv' (c.take x) :: l) := by
  obtain ⟨pl, nd, cs, rs⟩ := c
  obtain ⟨fr, tp, body⟩ := x
  obtain ⟨m0, hm0⟩ : ∃ m0, dMsg body = m0 := ⟨_, rfl⟩
  obtain ⟨er0, her0⟩ : ∃ m0, dEr body = m0 := ⟨_, rfl⟩
  have he01 : er0 = 0 ∨ er0 = 4 := by
    rw [← her0]; unfold dEr; split <;> simp
  obtain ⟨n, hn⟩ : ∃ n, cs.length = n := ⟨_, rfl⟩
  obtain ⟨m, hm⟩ : ∃ m, rs.length = m := ⟨_, rfl⟩
  have HN := Lib.hid (And.intro hn hm)
  have HGD := Lib.hid g
  have hmn : m ≤ n := by rw [← hn, ← hm]; exact g.m
  have hn1 : n ≤ 1000 := by rw [← hn]; exact g.n
  have hnd := g.node
  simp only at hnd
  have HT := Lib.hid (And.intro (show takeX ⟨pl, nd, cs, rs⟩ ⟨fr, tp, body⟩ er0 m0 = (Cst.mk pl nd cs rs).take ⟨fr, tp, body⟩ by rw [← hm0, ← her0]; rfl) (show takeY ⟨pl, nd, cs, rs⟩ ⟨fr, tp, body⟩ er0 m0 = (Cst.mk pl nd cs rs).takeB ⟨fr, tp, body⟩ by rw [← hm0, ← her0]; rfl))
  rw [← HT.out.1, ← HT.out.2]
  clear HT
  obtain ⟨k, a, bb, c0, d, ee, er, p0, p1, p2, p3, s, t⟩ := m0
  have HD := Lib.hid (And.intro hm0 her0)
  have HZ := Lib.hid hx
  obtain ⟨⟨A1, q1, rfl, _⟩, ⟨A2, q2, rfl, _⟩⟩ := h.cliForm
  obtain ⟨gL, hgL⟩ : ∃ k, W.heap.size = k := ⟨_, rfl⟩
  have HS := Lib.hid ((h.newBlk #[.int .i64 fr, .int .i64 tp, .string body] tLt hgL).sw)
  simp only [hn, hm] at HS
  have HG := Lib.hid hgL
  clear hm0 her0 hx h g hgL
  unfold Let.cs
  simp only [hn, hm]
  clear hn hm
  go_enter Try.func16, Try.ntmps16
  go_upto_region 1 with fail
  rw [HG.out]
  generalize W.alloc (.cells #[.int .i64 fr, .int .i64 tp, .string body] tLt) = W1 at *
  have y2 := (show Blk W1 gL #[.int .i64 fr, .int .i64 tp, .string body] tLt from HS.out.h2).cell 2
  simp at y2
  go_upto_region 2 with (go_at_call 24; refine (rmdecode_any _ _ HZ.out).mono ?_; rw [HD.out.1, HD.out.2]; unfold Msg.cs; simp only; rintro e1 w2 ⟨rfl, hB⟩; have HS := Lib.hid (((HS.out.step hB).newBlk #[.int .i64 k, .int .i64 a, .int .i64 bb, .int .i64 c0, .int .i64 d, .int .i64 ee, .int .i64 er, .int .i64 p0, .int .i64 p1, .int .i64 p2, .int .i64 p3, .string s, .string t] tMsg (g := w2.heap.size) rfl).sw); clear hB)
  generalize w2.alloc (.cells #[.int .i64 k, .int .i64 a, .int .i64 bb, .int .i64 c0, .int .i64 d, .int .i64 ee, .int .i64 er, .int .i64 p0, .int .i64 p1, .int .i64 p2, .int .i64 p3, .string s, .string t] tMsg) = w3 at *
  generalize w2.heap.size = gM at *
  clear y2 HD HZ HG
  rcases he01 with rfl | rfl
  rotate_left
  · have HF := Lib.hid (ctake_no (c := ⟨pl, nd, cs, rs⟩) (x := ⟨fr, tp, body⟩) (e0 := 4) (m := ⟨k, a, bb, c0, d, ee, er, p0, p1, p2, p3, s, t⟩) (by rintro ⟨j1, j2, j3, j4, j5, j6⟩; simp only at j1 j2 j3 j4 j5 j6; cases j1))
    have HC : Hid (∀ w', Sep w w' (tCli tRc b (.slice A1 n q1) (.slice A2 m q2) ⟨pl, nd, cs, rs⟩ :: tBlk gM #[.int .i64 k, .int .i64 a, .int .i64 bb, .int .i64 c0, .int .i64 d, .int .i64 ee, .int .i64 er, .int .i64 p0, .int .i64 p1, .int .i64 p2, .int .i64 p3, .string s, .string t] tMsg :: tBlk gL #[.int .i64 fr, .int .i64 tp, .string body] tLt :: l) → w'.cell? ⟨gL, 0, none⟩ = some (.int .i64 fr) ∧ w'.cell? ⟨gL, 1, none⟩ = some (.int .i64 tp) ∧ w'.cell? ⟨gM, 0, none⟩ = some (.int .i64 k) ∧ w'.cell? ⟨gM, 3, none⟩ = some (.int .i64 c0) ∧ w'.cell? ⟨b, 0, none⟩ = some (.int .i64 pl) ∧ w'.cell? ⟨b, 2, none⟩ = some (.slice A2 m q2)) := Lib.hid (fun w' h => ⟨(show Blk w' gL #[.int .i64 fr, .int .i64 tp, .string body] tLt from h.h3).cell 0, (show Blk w' gL #[.int .i64 fr, .int .i64 tp, .string body] tLt from h.h3).cell 1, (show Blk w' gM #[.int .i64 k, .int .i64 a, .int .i64 bb, .int .i64 c0, .int .i64 d, .int .i64 ee, .int .i64 er, .int .i64 p0, .int .i64 p1, .int .i64 p2, .int .i64 p3, .string s, .string t] tMsg from h.h2).cell 0, (show Blk w' gM #[.int .i64 k, .int .i64 a, .int .i64 bb, .int .i64 c0, .int .i64 d, .int .i64 ee, .int .i64 er, .int .i64 p0, .int .i64 p1, .int .i64 p2, .int .i64 p3, .string s, .string t] tMsg from h.h2).cell 3, h.cliCells.1, h.cliCells.2.2.1⟩)
    have HS := Lib.hid HS.out.drew
    refine wp_region_L (fun w' => w'.cell? ⟨gL, 0, none⟩ = some (.int .i64 fr) ∧ w'.cell? ⟨gL, 1, none⟩ = some (.int .i64 tp) ∧ w'.cell? ⟨gM, 0, none⟩ = some (.int .i64 k) ∧ w'.cell? ⟨gM, 3, none⟩ = some (.int .i64 c0) ∧ w'.cell? ⟨b, 0, none⟩ = some (.int .i64 pl) ∧ w'.cell? ⟨b, 2, none⟩ = some (.slice A2 m q2)) 42 (by kernel_rfl) (HC.out _ HS.out) (fun hHeld => ?_)
    refine reg_take (i := 0) (d := 13) (v := ?_) [] rfl rfl (by kernel_rfl) (by kernel_rfl) (fun _ _ _ h => h) (Or.inl ⟨by rfl, ?_⟩) (by assumption) ?_
    rotate_left
    · (intro w hSw; (try dsimp only at hSw); go_simp; first | done | with_reducible rfl)
    try simp only [List.setIfInBounds_toArray, List.set_cons_zero, List.set_cons_succ]
    refine reg_take (i := 1) (d := 14) (v := ?_) [] rfl rfl (by kernel_rfl) (by kernel_rfl) (fun _ _ _ h => h) (Or.inl ⟨by rfl, ?_⟩) (by assumption) ?_
    rotate_left
    · (intro w hSw; (try dsimp only at hSw); go_simp; first | done | with_reducible rfl)
    try simp only [List.setIfInBounds_toArray, List.set_cons_zero, List.set_cons_succ]
    refine reg_take (i := 2) (d := 15) (v := ?_) [] rfl rfl (by kernel_rfl) (by kernel_rfl) (fun _ _ _ h => h) (Or.inl ⟨by rfl, ?_⟩) (by assumption) ?_
    rotate_left
    · (intro w hSw; (try dsimp only at hSw); go_simp; first | done | with_reducible rfl)
    try simp only [List.setIfInBounds_toArray, List.set_cons_zero, List.set_cons_succ]
    refine reg_take (i := 3) (d := 16) (v := undef) [] rfl rfl (by kernel_rfl) (by kernel_rfl) (fun _ _ _ h => h) (Or.inr ⟨by rfl, rfl⟩) (by assumption) ?_
    try simp only [List.setIfInBounds_toArray, List.set_cons_zero, List.set_cons_succ]
    refine reg_take (i := 4) (d := 17) (v := undef) [] rfl rfl (by kernel_rfl) (by kernel_rfl) (fun _ _ _ h => h) (Or.inr ⟨by rfl, rfl⟩) (by assumption) ?_
    try simp only [List.setIfInBounds_toArray, List.set_cons_zero, List.set_cons_succ]
    refine reg_take (i := 5) (d := 18) (v := undef) [] rfl rfl (by kernel_rfl) (by kernel_rfl) (fun _ _ _ h => h) (Or.inr ⟨by rfl, rfl⟩) (by assumption) ?_
    try simp only [List.setIfInBounds_toArray, List.set_cons_zero, List.set_cons_succ]
    refine reg_take (i := 6) (d := 19) (v := undef) [] rfl rfl (by kernel_rfl) (by kernel_rfl) (fun _ _ _ h => h) (Or.inr ⟨by rfl, rfl⟩) (by assumption) ?_
    try simp only [List.setIfInBounds_toArray, List.set_cons_zero, List.set_cons_succ]
    refine reg_take (i := 7) (d := 20) (v := undef) [] rfl rfl (by kernel_rfl) (by kernel_rfl) (fun _ _ _ h => h) (Or.inr ⟨by rfl, rfl⟩) (by assumption) ?_
    try simp only [List.setIfInBounds_toArray, List.set_cons_zero, List.set_cons_succ]
    refine reg_take (i := 8) (d := 21) (v := undef) [] rfl rfl (by kernel_rfl) (by kernel_rfl) (fun _ _ _ h => h) (Or.inr ⟨by rfl, rfl⟩) (by assumption) ?_
    try simp only [List.setIfInBounds_toArray, List.set_cons_zero, List.set_cons_succ]
    refine reg_take (i := 9) (d := 22) (v := undef) [] rfl rfl (by kernel_rfl) (by kernel_rfl) (fun _ _ _ h => h) (Or.inr ⟨by rfl, rfl⟩) (by assumption) ?_
    try simp only [List.setIfInBounds_toArray, List.set_cons_zero, List.set_cons_succ]
    refine reg_take (i := 10) (d := 23) (v := ?_) [] rfl rfl (by kernel_rfl) (by kernel_rfl) (fun _ _ _ h => h) (Or.inl ⟨by rfl, ?_⟩) (by assumption) ?_
    rotate_left
    · (intro w hSw; (try dsimp only at hSw); go_simp; first | done | with_reducible rfl)
    try simp only [List.setIfInBounds_toArray, List.set_cons_zero, List.set_cons_succ]
    refine reg_take (i := 11) (d := 24) (v := ?_) [] rfl rfl (by kernel_rfl) (by kernel_rfl) (fun _ _ _ h => h) (Or.inl ⟨by rfl, ?_⟩) (by assumption) ?_
    rotate_left
    · (intro w hSw; (try dsimp only at hSw); go_simp; first | done | with_reducible rfl)
    try simp only [List.setIfInBounds_toArray, List.set_cons_zero, List.set_cons_succ]
    refine reg_take (i := 12) (d := 25) (v := undef) [] rfl rfl (by kernel_rfl) (by kernel_rfl) (fun _ _ _ h => h) (Or.inr ⟨by rfl, rfl⟩) (by assumption) ?_
    try simp only [List.setIfInBounds_toArray, List.set_cons_zero, List.set_cons_succ]
    refine reg_take (i := 13) (d := 26) (v := undef) [] rfl rfl (by kernel_rfl) (by kernel_rfl) (fun _ _ _ h => h) (Or.inr ⟨by rfl, rfl⟩) (by assumption) ?_
    try simp only [List.setIfInBounds_toArray, List.set_cons_zero, List.set_cons_succ]
    refine reg_take (i := 14) (d := 27) (v := undef) [] rfl rfl (by kernel_rfl) (by kernel_rfl) (fun _ _ _ h => h) (Or.inr ⟨by rfl, rfl⟩) (by assumption) ?_
    try simp only [List.setIfInBounds_toArray, List.set_cons_zero, List.set_cons_succ]
    refine reg_take (i := 15) (d := 28) (v := undef) [] rfl rfl (by kernel_rfl) (by kernel_rfl) (fun _ _ _ h => h) (Or.inr ⟨by rfl, rfl⟩) (by assumption) ?_
    try simp only [List.setIfInBounds_toArray, List.set_cons_zero, List.set_cons_succ]
    refine reg_take (i := 16) (d := 29) (v := undef) [] rfl rfl (by kernel_rfl) (by kernel_rfl) (fun _ _ _ h => h) (Or.inr ⟨by rfl, rfl⟩) (by assumption) ?_
    try simp only [List.setIfInBounds_toArray, List.set_cons_zero, List.set_cons_succ]
    refine reg_take (i := 17) (d := 30) (v := undef) [] rfl rfl (by kernel_rfl) (by kernel_rfl) (fun _ _ _ h => h) (Or.inr ⟨by rfl, rfl⟩) (by assumption) ?_
    try simp only [List.setIfInBounds_toArray, List.set_cons_zero, List.set_cons_succ]
    refine reg_take (i := 18) (d := 31) (v := undef) [] rfl rfl (by kernel_rfl) (by kernel_rfl) (fun _ _ _ h => h) (Or.inr ⟨by rfl, rfl⟩) (by assumption) ?_
    try simp only [List.setIfInBounds_toArray, List.set_cons_zero, List.set_cons_succ]
    refine reg_take (i := 19) (d := 32) (v := undef) [] rfl rfl (by kernel_rfl) (by kernel_rfl) (fun _ _ _ h => h) (Or.inr ⟨by rfl, rfl⟩) (by assumption) ?_
    try simp only [List.setIfInBounds_toArray, List.set_cons_zero, List.set_cons_succ]
    refine reg_take (i := 20) (d := 33) (v := ?_) [] rfl rfl (by kernel_rfl) (by kernel_rfl) (fun _ _ _ h => h) (Or.inl ⟨by rfl, ?_⟩) (by assumption) ?_
    rotate_left
    · (intro w hSw; (try dsimp only at hSw); go_simp; first | done | with_reducible rfl)
    try simp only [List.setIfInBounds_toArray, List.set_cons_zero, List.set_cons_succ]
    refine reg_take (i := 21) (d := 34) (v := ?_) [] rfl rfl (by kernel_rfl) (by kernel_rfl) (fun _ _ _ h => h) (Or.inl ⟨by rfl, ?_⟩) (by assumption) ?_
    rotate_left
    · (intro w hSw; (try dsimp only at hSw); go_simp; first | done | with_reducible rfl)
    try simp only [List.setIfInBounds_toArray, List.set_cons_zero, List.set_cons_succ]
    refine reg_take (i := 22) (d := 35) (v := undef) [] rfl rfl (by kernel_rfl) (by kernel_rfl) (fun _ _ _ h => h) (Or.inr ⟨by rfl, rfl⟩) (by assumption) ?_
    try simp only [List.setIfInBounds_toArray, List.set_cons_zero, List.set_cons_succ]
    refine reg_take (i := 23) (d := 36) (v := undef) [] rfl rfl (by kernel_rfl) (by kernel_rfl) (fun _ _ _ h => h) (Or.inr ⟨by rfl, rfl⟩) (by assumption) ?_
    try simp only [List.setIfInBounds_toArray, List.set_cons_zero, List.set_cons_succ]
    refine reg_take (i := 24) (d := 37) (v := undef) [] rfl rfl (by kernel_rfl) (by kernel_rfl) (fun _ _ _ h => h) (Or.inr ⟨by rfl, rfl⟩) (by assumption) ?_
    try simp only [List.setIfInBounds_toArray, List.set_cons_zero, List.set_cons_succ]
    refine reg_take (i := 25) (d := 38) (v := ?_) [] rfl rfl (by kernel_rfl) (by kernel_rfl) (fun _ _ _ h => h) (Or.inl ⟨by rfl, ?_⟩) (by assumption) ?_
    rotate_left
    · (intro w hSw; (try dsimp only at hSw); go_simp; first | done | with_reducible rfl)
    try simp only [List.setIfInBounds_toArray, List.set_cons_zero, List.set_cons_succ]
    refine reg_take (i := 26) (d := 39) (v := ?_) [] rfl rfl (by kernel_rfl) (by kernel_rfl) (fun _ _ _ h => h) (Or.inl ⟨by rfl, ?_⟩) (by assumption) ?_
    rotate_left
    · (intro w hSw; (try dsimp only at hSw); go_simp; first | done | with_reducible rfl)
    try simp only [List.setIfInBounds_toArray, List.set_cons_zero, List.set_cons_succ]
    refine reg_take (i := 27) (d := 40) (v := undef) [] rfl rfl (by kernel_rfl) (by kernel_rfl) (fun _ _ _ h => h) (Or.inr ⟨by rfl, rfl⟩) (by assumption) ?_
    try simp only [List.setIfInBounds_toArray, List.set_cons_zero, List.set_cons_succ]
    refine reg_take (i := 28) (d := 41) (v := undef) [] rfl rfl (by kernel_rfl) (by kernel_rfl) (fun _ _ _ h => h) (Or.inr ⟨by rfl, rfl⟩) (by assumption) ?_
    try simp only [List.setIfInBounds_toArray, List.set_cons_zero, List.set_cons_succ]
    refine reg_take (i := 29) (d := 42) (v := undef) [] rfl rfl (by kernel_rfl) (by kernel_rfl) (fun _ _ _ h => h) (Or.inr ⟨by rfl, rfl⟩) (by assumption) ?_
    try simp only [List.setIfInBounds_toArray, List.set_cons_zero, List.set_cons_succ]
    refine reg_take (i := 30) (d := 43) (v := ?_) [] rfl rfl (by kernel_rfl) (by kernel_rfl) (fun _ _ _ h => h) (Or.inl ⟨by rfl, ?_⟩) (by assumption) ?_
    rotate_left
    · (intro w hSw; (try dsimp only at hSw); go_simp; first | done | with_reducible rfl)
    try simp only [List.setIfInBounds_toArray, List.set_cons_zero, List.set_cons_succ]
    refine reg_take (i := 31) (d := 44) (v := ?_) [] rfl rfl (by kernel_rfl) (by kernel_rfl) (fun _ _ _ h => h) (Or.inl ⟨by rfl, ?_⟩) (by assumption) ?_
    rotate_left
    · (intro w hSw; (try dsimp only at hSw); go_simp; first | done | with_reducible rfl)
    try simp only [List.setIfInBounds_toArray, List.set_cons_zero, List.set_cons_succ]
    refine reg_take (i := 32) (d := 45) (v := undef) [] rfl rfl (by kernel_rfl) (by kernel_rfl) (fun _ _ _ h => h) (Or.inr ⟨by rfl, rfl⟩) (by assumption) ?_
    try simp only [List.setIfInBounds_toArray, List.set_cons_zero, List.set_cons_succ]
    refine reg_take (i := 33) (d := 46) (v := undef) [] rfl rfl (by kernel_rfl) (by kernel_rfl) (fun _ _ _ h => h) (Or.inr ⟨by rfl, rfl⟩) (by assumption) ?_
    try simp only [List.setIfInBounds_toArray, List.set_cons_zero, List.set_cons_succ]
    refine reg_take (i := 34) (d := 47) (v := undef) [] rfl rfl (by kernel_rfl) (by kernel_rfl) (fun _ _ _ h => h) (Or.inr ⟨by rfl, rfl⟩) (by assumption) ?_
    try simp only [List.setIfInBounds_toArray, List.set_cons_zero, List.set_cons_succ]
    refine reg_take (i := 35) (d := 48) (v := undef) [] rfl rfl (by kernel_rfl) (by kernel_rfl) (fun _ _ _ h => h) (Or.inr ⟨by rfl, rfl⟩) (by assumption) ?_
    try simp only [List.setIfInBounds_toArray, List.set_cons_zero, List.set_cons_succ]
    refine reg_take (i := 36) (d := 49) (v := undef) [] rfl rfl (by kernel_rfl) (by kernel_rfl) (fun _ _ _ h => h) (Or.inr ⟨by rfl, rfl⟩) (by assumption) ?_
    try simp only [List.setIfInBounds_toArray, List.set_cons_zero, List.set_cons_succ]
    refine reg_take (i := 37) (d := 50) (v := undef) [] rfl rfl (by kernel_rfl) (by kernel_rfl) (fun _ _ _ h => h) (Or.inr ⟨by rfl, rfl⟩) (by assumption) ?_
    try simp only [List.setIfInBounds_toArray, List.set_cons_zero, List.set_cons_succ]
    refine reg_take (i := 38) (d := 51) (v := undef) [] rfl rfl (by kernel_rfl) (by kernel_rfl) (fun _ _ _ h => h) (Or.inr ⟨by rfl, rfl⟩) (by assumption) ?_
    try simp only [List.setIfInBounds_toArray, List.set_cons_zero, List.set_cons_succ]
    refine reg_take (i := 39) (d := 52) (v := undef) [] rfl rfl (by kernel_rfl) (by kernel_rfl) (fun _ _ _ h => h) (Or.inr ⟨by rfl, rfl⟩) (by assumption) ?_
    try simp only [List.setIfInBounds_toArray, List.set_cons_zero, List.set_cons_succ]
    refine reg_take (i := 40) (d := 53) (v := undef) [] rfl rfl (by kernel_rfl) (by kernel_rfl) (fun _ _ _ h => h) (Or.inr ⟨by rfl, rfl⟩) (by assumption) ?_
    try simp only [List.setIfInBounds_toArray, List.set_cons_zero, List.set_cons_succ]
    refine reg_take (i := 41) (d := 54) (v := ?_) [] rfl rfl (by kernel_rfl) (by kernel_rfl) (fun _ _ _ h => h) (Or.inl ⟨by rfl, ?_⟩) (by assumption) ?_
    rotate_left
    · (intro w hSw; (try dsimp only at hSw); go_simp; first | done | with_reducible rfl)
    try simp only [List.setIfInBounds_toArray, List.set_cons_zero, List.set_cons_succ]
    refine wpAnyL_done (by kernel_rfl) ?_ _
    go_wp2_with fail
    go_ret
    exact ⟨ret_bool HF.out.2.symm, _, by rw [HF.out.1]; exact HS.out.d3.d2⟩
  by_cases c1 : tp = pl
  rotate_left
  · have f1 : (tp != pl) = true := bne_iff_ne.2 c1
    have HF := Lib.hid (ctake_no (c := ⟨pl, nd, cs, rs⟩) (x := ⟨fr, tp, body⟩) (e0 := 0) (m := ⟨k, a, bb, c0, d, ee, er, p0, p1, p2, p3, s, t⟩) (by rintro ⟨j1, j2, j3, j4, j5, j6⟩; simp only at j1 j2 j3 j4 j5 j6; exact c1 j2))
    have HC : Hid (∀ w', Sep w w' (tCli tRc b (.slice A1 n q1) (.slice A2 m q2) ⟨pl, nd, cs, rs⟩ :: tBlk gM #[.int .i64 k, .int .i64 a, .int .i64 bb, .int .i64 c0, .int .i64 d, .int .i64 ee, .int .i64 er, .int .i64 p0, .int .i64 p1, .int .i64 p2, .int .i64 p3, .string s, .string t] tMsg :: tBlk gL #[.int .i64 fr, .int .i64 tp, .string body] tLt :: l) → w'.cell? ⟨gL, 0, none⟩ = some (.int .i64 fr) ∧ w'.cell? ⟨gL, 1, none⟩ = some (.int .i64 tp) ∧ w'.cell? ⟨gM, 0, none⟩ = some (.int .i64 k) ∧ w'.cell? ⟨gM, 3, none⟩ = some (.int .i64 c0) ∧ w'.cell? ⟨b, 0, none⟩ = some (.int .i64 pl) ∧ w'.cell? ⟨b, 2, none⟩ = some (.slice A2 m q2)) := Lib.hid (fun w' h => ⟨(show Blk w' gL #[.int .i64 fr, .int .i64 tp, .string body] tLt from h.h3).cell 0, (show Blk w' gL #[.int .i64 fr, .int .i64 tp, .string body] tLt from h.h3).cell 1, (show Blk w' gM #[.int .i64 k, .int .i64 a, .int .i64 bb, .int .i64 c0, .int .i64 d, .int .i64 ee, .int .i64 er, .int .i64 p0, .int .i64 p1, .int .i64 p2, .int .i64 p3, .string s, .string t] tMsg from h.h2).cell 0, (show Blk w' gM #[.int .i64 k, .int .i64 a, .int .i64 bb, .int .i64 c0, .int .i64 d, .int .i64 ee, .int .i64 er, .int .i64 p0, .int .i64 p1, .int .i64 p2, .int .i64 p3, .string s, .string t] tMsg from h.h2).cell 3, h.cliCells.1, h.cliCells.2.2.1⟩)
    have HS := Lib.hid HS.out.drew
    refine wp_region_L (fun w' => w'.cell? ⟨gL, 0, none⟩ = some (.int .i64 fr) ∧ w'.cell? ⟨gL, 1, none⟩ = some (.int .i64 tp) ∧ w'.cell? ⟨gM, 0, none⟩ = some (.int .i64 k) ∧ w'.cell? ⟨gM, 3, none⟩ = some (.int .i64 c0) ∧ w'.cell? ⟨b, 0, none⟩ = some (.int .i64 pl) ∧ w'.cell? ⟨b, 2, none⟩ = some (.slice A2 m q2)) 42 (by kernel_rfl) (HC.out _ HS.out) (fun hHeld => ?_)
    refine reg_take (i := 0) (d := 13) (v := ?_) [] rfl rfl (by kernel_rfl) (by kernel_rfl) (fun _ _ _ h => h) (Or.inl ⟨by rfl, ?_⟩) (by assumption) ?_
    rotate_left
    · (intro w hSw; (try dsimp only at hSw); go_simp; first | done | with_reducible rfl)
    try simp only [List.setIfInBounds_toArray, List.set_cons_zero, List.set_cons_succ]
    refine reg_take (i := 1) (d := 14) (v := ?_) [] rfl rfl (by kernel_rfl) (by kernel_rfl) (fun _ _ _ h => h) (Or.inl ⟨by rfl, ?_⟩) (by assumption) ?_
    rotate_left
    · (intro w hSw; (try dsimp only at hSw); go_simp; first | done | with_reducible rfl)
    try simp only [List.setIfInBounds_toArray, List.set_cons_zero, List.set_cons_succ]
    refine reg_take (i := 2) (d := 15) (v := ?_) [] rfl rfl (by kernel_rfl) (by kernel_rfl) (fun _ _ _ h => h) (Or.inl ⟨by rfl, ?_⟩) (by assumption) ?_
    rotate_left
    · (intro w hSw; (try dsimp only at hSw); go_simp; first | done | with_reducible rfl)
    try simp only [List.setIfInBounds_toArray, List.set_cons_zero, List.set_cons_succ]
    refine reg_take (i := 3) (d := 16) (v := ?_) [] rfl rfl (by kernel_rfl) (by kernel_rfl) (fun _ _ _ h => h) (Or.inl ⟨by rfl, ?_⟩) (by assumption) ?_
    rotate_left
    · (intro w hSw; (try dsimp only at hSw); go_simp; first | done | with_reducible rfl)
    try simp only [List.setIfInBounds_toArray, List.set_cons_zero, List.set_cons_succ]
    refine reg_take (i := 4) (d := 17) (v := ?_) [] rfl rfl (by kernel_rfl) (by kernel_rfl) (fun _ _ _ h => h) (Or.inl ⟨by rfl, ?_⟩) (by assumption) ?_
    rotate_left
    · (intro w hSw; (try dsimp only at hSw); go_simp; first | done | with_reducible rfl)
    try simp only [List.setIfInBounds_toArray, List.set_cons_zero, List.set_cons_succ]
    refine reg_take (i := 5) (d := 18) (v := ?_) [] rfl rfl (by kernel_rfl) (by kernel_rfl) (fun _ _ _ h => h) (Or.inl ⟨by rfl, ?_⟩) (by assumption) ?_
    rotate_left
    · (intro w hSw; (try dsimp only at hSw); go_simp; first | done | with_reducible rfl)
    try simp only [List.setIfInBounds_toArray, List.set_cons_zero, List.set_cons_succ]
    refine reg_take (i := 6) (d := 19) (v := ?_) [] rfl rfl (by kernel_rfl) (by kernel_rfl) (fun _ _ _ h => h) (Or.inl ⟨by rfl, ?_⟩) (by assumption) ?_
    rotate_left
    · (intro w hSw; (try dsimp only at hSw); go_simp; first | done | with_reducible rfl)
    try simp only [List.setIfInBounds_toArray, List.set_cons_zero, List.set_cons_succ]
    refine reg_take (i := 7) (d := 20) (v := ?_) [] rfl rfl (by kernel_rfl) (by kernel_rfl) (fun _ _ _ h => h) (Or.inl ⟨by rfl, ?_⟩) (by assumption) ?_
    rotate_left
    · (intro w hSw; (try dsimp only at hSw); go_simp; first | done | with_reducible rfl)
    try simp only [List.setIfInBounds_toArray, List.set_cons_zero, List.set_cons_succ]
    refine reg_take (i := 8) (d := 21) (v := ?_) [] rfl rfl (by kernel_rfl) (by kernel_rfl) (fun _ _ _ h => h) (Or.inl ⟨by rfl, ?_⟩) (by assumption) ?_
    rotate_left
    · (intro w hSw; (try dsimp only at hSw); go_simp; first | done | with_reducible rfl)
    try simp only [List.setIfInBounds_toArray, List.set_cons_zero, List.set_cons_succ]
    refine reg_take (i := 9) (d := 22) (v := ?_) [] rfl rfl (by kernel_rfl) (by kernel_rfl) (fun _ _ _ h => h) (Or.inl ⟨by rfl, ?_⟩) (by assumption) ?_
    rotate_left
    · (intro w hSw; (try dsimp only at hSw); go_simp; first | done | with_reducible rfl)
    try simp only [List.setIfInBounds_toArray, List.set_cons_zero, List.set_cons_succ]
    refine reg_take (i := 10) (d := 23) (v := ?_) [] rfl rfl (by kernel_rfl) (by kernel_rfl) (fun _ _ _ h => h) (Or.inl ⟨by rfl, ?_⟩) (by assumption) ?_
    rotate_left
    · (intro w hSw; (try dsimp only at hSw); go_simp; first | done | with_reducible rfl)
    try simp only [List.setIfInBounds_toArray, List.set_cons_zero, List.set_cons_succ]
    refine reg_take (i := 11) (d := 24) (v := ?_) [] rfl rfl (by kernel_rfl) (by kernel_rfl) (fun _ _ _ h => h) (Or.inl ⟨by rfl, ?_⟩) (by assumption) ?_
    rotate_left
    · (intro w hSw; (try dsimp only at hSw); go_simp; first | done | with_reducible rfl)
    try simp only [List.setIfInBounds_toArray, List.set_cons_zero, List.set_cons_succ]
    refine reg_take (i := 12) (d := 25) (v := undef) [] rfl rfl (by kernel_rfl) (by kernel_rfl) (fun _ _ _ h => h) (Or.inr ⟨by rfl, rfl⟩) (by assumption) ?_
    try simp only [List.setIfInBounds_toArray, List.set_cons_zero, List.set_cons_succ]
    refine reg_take (i := 13) (d := 26) (v := undef) [] rfl rfl (by kernel_rfl) (by kernel_rfl) (fun _ _ _ h => h) (Or.inr ⟨by rfl, rfl⟩) (by assumption) ?_
    try simp only [List.setIfInBounds_toArray, List.set_cons_zero, List.set_cons_succ]
    refine reg_take (i := 14) (d := 27) (v := undef) [] rfl rfl (by kernel_rfl) (by kernel_rfl) (fun _ _ _ h => h) (Or.inr ⟨by rfl, rfl⟩) (by assumption) ?_
    try simp only [List.setIfInBounds_toArray, List.set_cons_zero, List.set_cons_succ]
    refine reg_take (i := 15) (d := 28) (v := undef) [] rfl rfl (by kernel_rfl) (by kernel_rfl) (fun _ _ _ h => h) (Or.inr ⟨by rfl, rfl⟩) (by assumption) ?_
    try simp only [List.setIfInBounds_toArray, List.set_cons_zero, List.set_cons_succ]
    refine reg_take (i := 16) (d := 29) (v := undef) [] rfl rfl (by kernel_rfl) (by kernel_rfl) (fun _ _ _ h => h) (Or.inr ⟨by rfl, rfl⟩) (by assumption) ?_
    try simp only [List.setIfInBounds_toArray, List.set_cons_zero, List.set_cons_succ]
    refine reg_take (i := 17) (d := 30) (v := undef) [] rfl rfl (by kernel_rfl) (by kernel_rfl) (fun _ _ _ h => h) (Or.inr ⟨by rfl, rfl⟩) (by assumption) ?_
    try simp only [List.setIfInBounds_toArray, List.set_cons_zero, List.set_cons_succ]
    refine reg_take (i := 18) (d := 31) (v := undef) [] rfl rfl (by kernel_rfl) (by kernel_rfl) (fun _ _ _ h => h) (Or.inr ⟨by rfl, rfl⟩) (by assumption) ?_
    try simp only [List.setIfInBounds_toArray, List.set_cons_zero, List.set_cons_succ]
    refine reg_take (i := 19) (d := 32) (v := undef) [] rfl rfl (by kernel_rfl) (by kernel_rfl) (fun _ _ _ h => h) (Or.inr ⟨by rfl, rfl⟩) (by assumption) ?_
    try simp only [List.setIfInBounds_toArray, List.set_cons_zero, List.set_cons_succ]
    refine reg_take (i := 20) (d := 33) (v := ?_) [] rfl rfl (by kernel_rfl) (by kernel_rfl) (fun _ _ _ h => h) (Or.inl ⟨by rfl, ?_⟩) (by assumption) ?_
    rotate_left
    · (intro w hSw; (try dsimp only at hSw); go_simp; first | done | with_reducible rfl)
    try simp only [List.setIfInBounds_toArray, List.set_cons_zero, List.set_cons_succ]
    refine reg_take (i := 21) (d := 34) (v := ?_) [] rfl rfl (by kernel_rfl) (by kernel_rfl) (fun _ _ _ h => h) (Or.inl ⟨by rfl, ?_⟩) (by assumption) ?_
    rotate_left
    · (intro w hSw; (try dsimp only at hSw); go_simp; first | done | with_reducible rfl)
    try simp only [List.setIfInBounds_toArray, List.set_cons_zero, List.set_cons_succ]
    refine reg_take (i := 22) (d := 35) (v := undef) [] rfl rfl (by kernel_rfl) (by kernel_rfl) (fun _ _ _ h => h) (Or.inr ⟨by rfl, rfl⟩) (by assumption) ?_
    try simp only [List.setIfInBounds_toArray, List.set_cons_zero, List.set_cons_succ]
    refine reg_take (i := 23) (d := 36) (v := undef) [] rfl rfl (by kernel_rfl) (by kernel_rfl) (fun _ _ _ h => h) (Or.inr ⟨by rfl, rfl⟩) (by assumption) ?_
    try simp only [List.setIfInBounds_toArray, List.set_cons_zero, List.set_cons_succ]
    refine reg_take (i := 24) (d := 37) (v := undef) [] rfl rfl (by kernel_rfl) (by kernel_rfl) (fun _ _ _ h => h) (Or.inr ⟨by rfl, rfl⟩) (by assumption) ?_
    try simp only [List.setIfInBounds_toArray, List.set_cons_zero, List.set_cons_succ]
    refine reg_take (i := 25) (d := 38) (v := ?_) [] rfl rfl (by kernel_rfl) (by kernel_rfl) (fun _ _ _ h => h) (Or.inl ⟨by rfl, ?_⟩) (by assumption) ?_
    rotate_left
    · (intro w hSw; (try dsimp only at hSw); go_simp; first | done | with_reducible rfl)
    try simp only [List.setIfInBounds_toArray, List.set_cons_zero, List.set_cons_succ]
    refine reg_take (i := 26) (d := 39) (v := ?_) [] rfl rfl (by kernel_rfl) (by kernel_rfl) (fun _ _ _ h => h) (Or.inl ⟨by rfl, ?_⟩) (by assumption) ?_
    rotate_left
    · (intro w hSw; (try dsimp only at hSw); go_simp; first | done | with_reducible rfl)
    try simp only [List.setIfInBounds_toArray, List.set_cons_zero, List.set_cons_succ]
    refine reg_take (i := 27) (d := 40) (v := undef) [] rfl rfl (by kernel_rfl) (by kernel_rfl) (fun _ _ _ h => h) (Or.inr ⟨by rfl, rfl⟩) (by assumption) ?_
    try simp only [List.setIfInBounds_toArray, List.set_cons_zero, List.set_cons_succ]
    refine reg_take (i := 28) (d := 41) (v := undef) [] rfl rfl (by kernel_rfl) (by kernel_rfl) (fun _ _ _ h => h) (Or.inr ⟨by rfl, rfl⟩) (by assumption) ?_
    try simp only [List.setIfInBounds_toArray, List.set_cons_zero, List.set_cons_succ]
    refine reg_take (i := 29) (d := 42) (v := undef) [] rfl rfl (by kernel_rfl) (by kernel_rfl) (fun _ _ _ h => h) (Or.inr ⟨by rfl, rfl⟩) (by assumption) ?_
    try simp only [List.setIfInBounds_toArray, List.set_cons_zero, List.set_cons_succ]
    refine reg_take (i := 30) (d := 43) (v := ?_) [] rfl rfl (by kernel_rfl) (by kernel_rfl) (fun _ _ _ h => h) (Or.inl ⟨by rfl, ?_⟩) (by assumption) ?_
    rotate_left
    · (intro w hSw; (try dsimp only at hSw); go_simp; first | done | with_reducible rfl)
    try simp only [List.setIfInBounds_toArray, List.set_cons_zero, List.set_cons_succ]
    refine reg_take (i := 31) (d := 44) (v := ?_) [] rfl rfl (by kernel_rfl) (by kernel_rfl) (fun _ _ _ h => h) (Or.inl ⟨by rfl, ?_⟩) (by assumption) ?_
    rotate_left
    · (intro w hSw; (try dsimp only at hSw); go_simp; first | done | with_reducible rfl)
    try simp only [List.setIfInBounds_toArray, List.set_cons_zero, List.set_cons_succ]
    refine reg_take (i := 32) (d := 45) (v := undef) [] rfl rfl (by kernel_rfl) (by kernel_rfl) (fun _ _ _ h => h) (Or.inr ⟨by rfl, rfl⟩) (by assumption) ?_
    try simp only [List.setIfInBounds_toArray, List.set_cons_zero, List.set_cons_succ]
    refine reg_take (i := 33) (d := 46) (v := undef) [] rfl rfl (by kernel_rfl) (by kernel_rfl) (fun _ _ _ h => h) (Or.inr ⟨by rfl, rfl⟩) (by assumption) ?_
    try simp only [List.setIfInBounds_toArray, List.set_cons_zero, List.set_cons_succ]
    refine reg_take (i := 34) (d := 47) (v := undef) [] rfl rfl (by kernel_rfl) (by kernel_rfl) (fun _ _ _ h => h) (Or.inr ⟨by rfl, rfl⟩) (by assumption) ?_
    try simp only [List.setIfInBounds_toArray, List.set_cons_zero, List.set_cons_succ]
    refine reg_take (i := 35) (d := 48) (v := undef) [] rfl rfl (by kernel_rfl) (by kernel_rfl) (fun _ _ _ h => h) (Or.inr ⟨by rfl, rfl⟩) (by assumption) ?_
    try simp only [List.setIfInBounds_toArray, List.set_cons_zero, List.set_cons_succ]
    refine reg_take (i := 36) (d := 49) (v := undef) [] rfl rfl (by kernel_rfl) (by kernel_rfl) (fun _ _ _ h => h) (Or.inr ⟨by rfl, rfl⟩) (by assumption) ?_
    try simp only [List.setIfInBounds_toArray, List.set_cons_zero, List.set_cons_succ]
    refine reg_take (i := 37) (d := 50) (v := undef) [] rfl rfl (by kernel_rfl) (by kernel_rfl) (fun _ _ _ h => h) (Or.inr ⟨by rfl, rfl⟩) (by assumption) ?_
    try simp only [List.setIfInBounds_toArray, List.set_cons_zero, List.set_cons_succ]
    refine reg_take (i := 38) (d := 51) (v := undef) [] rfl rfl (by kernel_rfl) (by kernel_rfl) (fun _ _ _ h => h) (Or.inr ⟨by rfl, rfl⟩) (by assumption) ?_
    try simp only [List.setIfInBounds_toArray, List.set_cons_zero, List.set_cons_succ]
    refine reg_take (i := 39) (d := 52) (v := undef) [] rfl rfl (by kernel_rfl) (by kernel_rfl) (fun _ _ _ h => h) (Or.inr ⟨by rfl, rfl⟩) (by assumption) ?_
    try simp only [List.setIfInBounds_toArray, List.set_cons_zero, List.set_cons_succ]
    refine reg_take (i := 40) (d := 53) (v := undef) [] rfl rfl (by kernel_rfl) (by kernel_rfl) (fun _ _ _ h => h) (Or.inr ⟨by rfl, rfl⟩) (by assumption) ?_
    try simp only [List.setIfInBounds_toArray, List.set_cons_zero, List.set_cons_succ]
    refine reg_take (i := 41) (d := 54) (v := ?_) [] rfl rfl (by kernel_rfl) (by kernel_rfl) (fun _ _ _ h => h) (Or.inl ⟨by rfl, ?_⟩) (by assumption) ?_
    rotate_left
    · (intro w hSw; (try dsimp only at hSw); go_simp; first | done | with_reducible rfl)
    try simp only [List.setIfInBounds_toArray, List.set_cons_zero, List.set_cons_succ]
    refine wpAnyL_done (by kernel_rfl) ?_ _
    go_wp2_with fail
    go_ret
    exact ⟨ret_bool HF.out.2.symm, _, by rw [HF.out.1]; exact HS.out.d3.d2⟩
  subst c1
  by_cases c2 : fr = 0 ∨ fr = 1
  rotate_left
  · have f2 : (fr != 0) = true := bne_iff_ne.2 (by omega)
    have f2' : ¬ fr = 0 := by omega
    have f3 : (fr != 1) = true := bne_iff_ne.2 (by omega)
    have f3' : ¬ fr = 1 := by omega
    have HF := Lib.hid (ctake_no (c := ⟨tp, nd, cs, rs⟩) (x := ⟨fr, tp, body⟩) (e0 := 0) (m := ⟨k, a, bb, c0, d, ee, er, p0, p1, p2, p3, s, t⟩) (by rintro ⟨j1, j2, j3, j4, j5, j6⟩; simp only at j1 j2 j3 j4 j5 j6; exact c2 j3))
    clear c2
    have HC : Hid (∀ w', Sep w w' (tCli tRc b (.slice A1 n q1) (.slice A2 m q2) ⟨tp, nd, cs, rs⟩ :: tBlk gM #[.int .i64 k, .int .i64 a, .int .i64 bb, .int .i64 c0, .int .i64 d, .int .i64 ee, .int .i64 er, .int .i64 p0, .int .i64 p1, .int .i64 p2, .int .i64 p3, .string s, .string t] tMsg :: tBlk gL #[.int .i64 fr, .int .i64 tp, .string body] tLt :: l) → w'.cell? ⟨gL, 0, none⟩ = some (.int .i64 fr) ∧ w'.cell? ⟨gL, 1, none⟩ = some (.int .i64 tp) ∧ w'.cell? ⟨gM, 0, none⟩ = some (.int .i64 k) ∧ w'.cell? ⟨gM, 3, none⟩ = some (.int .i64 c0) ∧ w'.cell? ⟨b, 0, none⟩ = some (.int .i64 tp) ∧ w'.cell? ⟨b, 2, none⟩ = some (.slice A2 m q2)) := Lib.hid (fun w' h => ⟨(show Blk w' gL #[.int .i64 fr, .int .i64 tp, .string body] tLt from h.h3).cell 0, (show Blk w' gL #[.int .i64 fr, .int .i64 tp, .string body] tLt from h.h3).cell 1, (show Blk w' gM #[.int .i64 k, .int .i64 a, .int .i64 bb, .int .i64 c0, .int .i64 d, .int .i64 ee, .int .i64 er, .int .i64 p0, .int .i64 p1, .int .i64 p2, .int .i64 p3, .string s, .string t] tMsg from h.h2).cell 0, (show Blk w' gM #[.int .i64 k, .int .i64 a, .int .i64 bb, .int .i64 c0, .int .i64 d, .int .i64 ee, .int .i64 er, .int .i64 p0, .int .i64 p1, .int .i64 p2, .int .i64 p3, .string s, .string t] tMsg from h.h2).cell 3, h.cliCells.1, h.cliCells.2.2.1⟩)
    have HS := Lib.hid HS.out.drew
    refine wp_region_L (fun w' => w'.cell? ⟨gL, 0, none⟩ = some (.int .i64 fr) ∧ w'.cell? ⟨gL, 1, none⟩ = some (.int .i64 tp) ∧ w'.cell? ⟨gM, 0, none⟩ = some (.int .i64 k) ∧ w'.cell? ⟨gM, 3, none⟩ = some (.int .i64 c0) ∧ w'.cell? ⟨b, 0, none⟩ = some (.int .i64 tp) ∧ w'.cell? ⟨b, 2, none⟩ = some (.slice A2 m q2)) 42 (by kernel_rfl) (HC.out _ HS.out) (fun hHeld => ?_)
    refine reg_take (i := 0) (d := 13) (v := ?_) [] rfl rfl (by kernel_rfl) (by kernel_rfl) (fun _ _ _ h => h) (Or.inl ⟨by rfl, ?_⟩) (by assumption) ?_
    rotate_left
    · (intro w hSw; (try dsimp only at hSw); go_simp; first | done | with_reducible rfl)
    try simp only [List.setIfInBounds_toArray, List.set_cons_zero, List.set_cons_succ]
    refine reg_take (i := 1) (d := 14) (v := ?_) [] rfl rfl (by kernel_rfl) (by kernel_rfl) (fun _ _ _ h => h) (Or.inl ⟨by rfl, ?_⟩) (by assumption) ?_
    rotate_left
    · (intro w hSw; (try dsimp only at hSw); go_simp; first | done | with_reducible rfl)
    try simp only [List.setIfInBounds_toArray, List.set_cons_zero, List.set_cons_succ]
    refine reg_take (i := 2) (d := 15) (v := ?_) [] rfl rfl (by kernel_rfl) (by kernel_rfl) (fun _ _ _ h => h) (Or.inl ⟨by rfl, ?_⟩) (by assumption) ?_
    rotate_left
    · (intro w hSw; (try dsimp only at hSw); go_simp; first | done | with_reducible rfl)
    try simp only [List.setIfInBounds_toArray, List.set_cons_zero, List.set_cons_succ]
    refine reg_take (i := 3) (d := 16) (v := ?_) [] rfl rfl (by kernel_rfl) (by kernel_rfl) (fun _ _ _ h => h) (Or.inl ⟨by rfl, ?_⟩) (by assumption) ?_
    rotate_left
    · (intro w hSw; (try dsimp only at hSw); go_simp; first | done | with_reducible rfl)
    try simp only [List.setIfInBounds_toArray, List.set_cons_zero, List.set_cons_succ]
    refine reg_take (i := 4) (d := 17) (v := ?_) [] rfl rfl (by kernel_rfl) (by kernel_rfl) (fun _ _ _ h => h) (Or.inl ⟨by rfl, ?_⟩) (by assumption) ?_
    rotate_left
    · (intro w hSw; (try dsimp only at hSw); go_simp; first | done | with_reducible rfl)
    try simp only [List.setIfInBounds_toArray, List.set_cons_zero, List.set_cons_succ]
    refine reg_take (i := 5) (d := 18) (v := ?_) [] rfl rfl (by kernel_rfl) (by kernel_rfl) (fun _ _ _ h => h) (Or.inl ⟨by rfl, ?_⟩) (by assumption) ?_
    rotate_left
    · (intro w hSw; (try dsimp only at hSw); go_simp; first | done | with_reducible rfl)
    try simp only [List.setIfInBounds_toArray, List.set_cons_zero, List.set_cons_succ]
    refine reg_take (i := 6) (d := 19) (v := ?_) [] rfl rfl (by kernel_rfl) (by kernel_rfl) (fun _ _ _ h => h) (Or.inl ⟨by rfl, ?_⟩) (by assumption) ?_
    rotate_left
    · (intro w hSw; (try dsimp only at hSw); go_simp; first | done | with_reducible rfl)
    try simp only [List.setIfInBounds_toArray, List.set_cons_zero, List.set_cons_succ]
    refine reg_take (i := 7) (d := 20) (v := ?_) [] rfl rfl (by kernel_rfl) (by kernel_rfl) (fun _ _ _ h => h) (Or.inl ⟨by rfl, ?_⟩) (by assumption) ?_
    rotate_left
    · (intro w hSw; (try dsimp only at hSw); go_simp; first | done | with_reducible rfl)
    try simp only [List.setIfInBounds_toArray, List.set_cons_zero, List.set_cons_succ]
    refine reg_take (i := 8) (d := 21) (v := ?_) [] rfl rfl (by kernel_rfl) (by kernel_rfl) (fun _ _ _ h => h) (Or.inl ⟨by rfl, ?_⟩) (by assumption) ?_
    rotate_left
    · (intro w hSw; (try dsimp only at hSw); go_simp; first | done | with_reducible rfl)
    try simp only [List.setIfInBounds_toArray, List.set_cons_zero, List.set_cons_succ]
    refine reg_take (i := 9) (d := 22) (v := ?_) [] rfl rfl (by kernel_rfl) (by kernel_rfl) (fun _ _ _ h => h) (Or.inl ⟨by rfl, ?_⟩) (by assumption) ?_
    rotate_left
    · (intro w hSw; (try dsimp only at hSw); go_simp; first | done | with_reducible rfl)
    try simp only [List.setIfInBounds_toArray, List.set_cons_zero, List.set_cons_succ]
    refine reg_take (i := 10) (d := 23) (v := ?_) [] rfl rfl (by kernel_rfl) (by kernel_rfl) (fun _ _ _ h => h) (Or.inl ⟨by rfl, ?_⟩) (by assumption) ?_
    rotate_left
    · (intro w hSw; (try dsimp only at hSw); go_simp; first | done | with_reducible rfl)
    try simp only [List.setIfInBounds_toArray, List.set_cons_zero, List.set_cons_succ]
    refine reg_take (i := 11) (d := 24) (v := ?_) [] rfl rfl (by kernel_rfl) (by kernel_rfl) (fun _ _ _ h => h) (Or.inl ⟨by rfl, ?_⟩) (by assumption) ?_
    rotate_left
    · (intro w hSw; (try dsimp only at hSw); go_simp; first | done | with_reducible rfl)
    try simp only [List.setIfInBounds_toArray, List.set_cons_zero, List.set_cons_succ]
    refine reg_take (i := 12) (d := 25) (v := ?_) [] rfl rfl (by kernel_rfl) (by kernel_rfl) (fun _ _ _ h => h) (Or.inl ⟨by rfl, ?_⟩) (by assumption) ?_
    rotate_left
    · (intro w hSw; (try dsimp only at hSw); go_simp; first | done | with_reducible rfl)
    try simp only [List.setIfInBounds_toArray, List.set_cons_zero, List.set_cons_succ]
    refine reg_take (i := 13) (d := 26) (v := ?_) [] rfl rfl (by kernel_rfl) (by kernel_rfl) (fun _ _ _ h => h) (Or.inl ⟨by rfl, ?_⟩) (by assumption) ?_
    rotate_left
    · (intro w hSw; (try dsimp only at hSw); go_simp; first | done | with_reducible rfl)
    try simp only [List.setIfInBounds_toArray, List.set_cons_zero, List.set_cons_succ]
    refine reg_take (i := 14) (d := 27) (v := ?_) [] rfl rfl (by kernel_rfl) (by kernel_rfl) (fun _ _ _ h => h) (Or.inl ⟨by rfl, ?_⟩) (by assumption) ?_
    rotate_left
    · (intro w hSw; (try dsimp only at hSw); go_simp; first | done | with_reducible rfl)
    try simp only [List.setIfInBounds_toArray, List.set_cons_zero, List.set_cons_succ]
    refine reg_take (i := 15) (d := 28) (v := ?_) [] rfl rfl (by kernel_rfl) (by kernel_rfl) (fun _ _ _ h => h) (Or.inl ⟨by rfl, ?_⟩) (by assumption) ?_
    rotate_left
    · (intro w hSw; (try dsimp only at hSw); go_simp; first | done | with_reducible rfl)
    try simp only [List.setIfInBounds_toArray, List.set_cons_zero, List.set_cons_succ]
    refine reg_take (i := 16) (d := 29) (v := ?_) [] rfl rfl (by kernel_rfl) (by kernel_rfl) (fun _ _ _ h => h) (Or.inl ⟨by rfl, ?_⟩) (by assumption) ?_
    rotate_left
    · (intro w hSw; (try dsimp only at hSw); go_simp; first | done | with_reducible rfl)
    try simp only [List.setIfInBounds_toArray, List.set_cons_zero, List.set_cons_succ]
    refine reg_take (i := 17) (d := 30) (v := ?_) [] rfl rfl (by kernel_rfl) (by kernel_rfl) (fun _ _ _ h => h) (Or.inl ⟨by rfl, ?_⟩) (by assumption) ?_
    rotate_left
    · (intro w hSw; (try dsimp only at hSw); go_simp; first | done | with_reducible rfl)
    try simp only [List.setIfInBounds_toArray, List.set_cons_zero, List.set_cons_succ]
    refine reg_take (i := 18) (d := 31) (v := ?_) [] rfl rfl (by kernel_rfl) (by kernel_rfl) (fun _ _ _ h => h) (Or.inl ⟨by rfl, ?_⟩) (by assumption) ?_
    rotate_left
    · (intro w hSw; (try dsimp only at hSw); go_simp; first | done | with_reducible rfl)
    try simp only [List.setIfInBounds_toArray, List.set_cons_zero, List.set_cons_succ]
    refine reg_take (i := 19) (d := 32) (v := ?_) [] rfl rfl (by kernel_rfl) (by kernel_rfl) (fun _ _ _ h => h) (Or.inl ⟨by rfl, ?_⟩) (by assumption) ?_
    rotate_left
    · (intro w hSw; (try dsimp only at hSw); go_simp; first | done | with_reducible rfl)
    try simp only [List.setIfInBounds_toArray, List.set_cons_zero, List.set_cons_succ]
    refine reg_take (i := 20) (d := 33) (v := ?_) [] rfl rfl (by kernel_rfl) (by kernel_rfl) (fun _ _ _ h => h) (Or.inl ⟨by rfl, ?_⟩) (by assumption) ?_
    rotate_left
    · (intro w hSw; (try dsimp only at hSw); go_simp; first | done | with_reducible rfl)
    try simp only [List.setIfInBounds_toArray, List.set_cons_zero, List.set_cons_succ]
    refine reg_take (i := 21) (d := 34) (v := ?_) [] rfl rfl (by kernel_rfl) (by kernel_rfl) (fun _ _ _ h => h) (Or.inl ⟨by rfl, ?_⟩) (by assumption) ?_
    rotate_left
    · (intro w hSw; (try dsimp only at hSw); go_simp; first | done | with_reducible rfl)
    try simp only [List.setIfInBounds_toArray, List.set_cons_zero, List.set_cons_succ]
    refine reg_take (i := 22) (d := 35) (v := undef) [] rfl rfl (by kernel_rfl) (by kernel_rfl) (fun _ _ _ h => h) (Or.inr ⟨by rfl, rfl⟩) (by assumption) ?_
    try simp only [List.setIfInBounds_toArray, List.set_cons_zero, List.set_cons_succ]
    refine reg_take (i := 23) (d := 36) (v := undef) [] rfl rfl (by kernel_rfl) (by kernel_rfl) (fun _ _ _ h => h) (Or.inr ⟨by rfl, rfl⟩) (by assumption) ?_
    try simp only [List.setIfInBounds_toArray, List.set_cons_zero, List.set_cons_succ]
    refine reg_take (i := 24) (d := 37) (v := undef) [] rfl rfl (by kernel_rfl) (by kernel_rfl) (fun _ _ _ h => h) (Or.inr ⟨by rfl, rfl⟩) (by assumption) ?_
    try simp only [List.setIfInBounds_toArray, List.set_cons_zero, List.set_cons_succ]
    refine reg_take (i := 25) (d := 38) (v := ?_) [] rfl rfl (by kernel_rfl) (by kernel_rfl) (fun _ _ _ h => h) (Or.inl ⟨by rfl, ?_⟩) (by assumption) ?_
    rotate_left
    · (intro w hSw; (try dsimp only at hSw); go_simp; first | done | with_reducible rfl)
    try simp only [List.setIfInBounds_toArray, List.set_cons_zero, List.set_cons_succ]
    refine reg_take (i := 26) (d := 39) (v := ?_) [] rfl rfl (by kernel_rfl) (by kernel_rfl) (fun _ _ _ h => h) (Or.inl ⟨by rfl, ?_⟩) (by assumption) ?_
    rotate_left
    · (intro w hSw; (try dsimp only at hSw); go_simp; first | done | with_reducible rfl)
    try simp only [List.setIfInBounds_toArray, List.set_cons_zero, List.set_cons_succ]
    refine reg_take (i := 27) (d := 40) (v := undef) [] rfl rfl (by kernel_rfl) (by kernel_rfl) (fun _ _ _ h => h) (Or.inr ⟨by rfl, rfl⟩) (by assumption) ?_
    try simp only [List.setIfInBounds_toArray, List.set_cons_zero, List.set_cons_succ]
    refine reg_take (i := 28) (d := 41) (v := undef) [] rfl rfl (by kernel_rfl) (by kernel_rfl) (fun _ _ _ h => h) (Or.inr ⟨by rfl, rfl⟩) (by assumption) ?_
    try simp only [List.setIfInBounds_toArray, List.set_cons_zero, List.set_cons_succ]
    refine reg_take (i := 29) (d := 42) (v := undef) [] rfl rfl (by kernel_rfl) (by kernel_rfl) (fun _ _ _ h => h) (Or.inr ⟨by rfl, rfl⟩) (by assumption) ?_
    try simp only [List.setIfInBounds_toArray, List.set_cons_zero, List.set_cons_succ]
    refine reg_take (i := 30) (d := 43) (v := ?_) [] rfl rfl (by kernel_rfl) (by kernel_rfl) (fun _ _ _ h => h) (Or.inl ⟨by rfl, ?_⟩) (by assumption) ?_
    rotate_left
    · (intro w hSw; (try dsimp only at hSw); go_simp; first | done | with_reducible rfl)
    try simp only [List.setIfInBounds_toArray, List.set_cons_zero, List.set_cons_succ]
    refine reg_take (i := 31) (d := 44) (v := ?_) [] rfl rfl (by kernel_rfl) (by kernel_rfl) (fun _ _ _ h => h) (Or.inl ⟨by rfl, ?_⟩) (by assumption) ?_
    rotate_left
    · (intro w hSw; (try dsimp only at hSw); go_simp; first | done | with_reducible rfl)
    try simp only [List.setIfInBounds_toArray, List.set_cons_zero, List.set_cons_succ]
    refine reg_take (i := 32) (d := 45) (v := undef) [] rfl rfl (by kernel_rfl) (by kernel_rfl) (fun _ _ _ h => h) (Or.inr ⟨by rfl, rfl⟩) (by assumption) ?_
    try simp only [List.setIfInBounds_toArray, List.set_cons_zero, List.set_cons_succ]
    refine reg_take (i := 33) (d := 46) (v := undef) [] rfl rfl (by kernel_rfl) (by kernel_rfl) (fun _ _ _ h => h) (Or.inr ⟨by rfl, rfl⟩) (by assumption) ?_
    try simp only [List.setIfInBounds_toArray, List.set_cons_zero, List.set_cons_succ]
    refine reg_take (i := 34) (d := 47) (v := undef) [] rfl rfl (by kernel_rfl) (by kernel_rfl) (fun _ _ _ h => h) (Or.inr ⟨by rfl, rfl⟩) (by assumption) ?_
    try simp only [List.setIfInBounds_toArray, List.set_cons_zero, List.set_cons_succ]
    refine reg_take (i := 35) (d := 48) (v := undef) [] rfl rfl (by kernel_rfl) (by kernel_rfl) (fun _ _ _ h => h) (Or.inr ⟨by rfl, rfl⟩) (by assumption) ?_
    try simp only [List.setIfInBounds_toArray, List.set_cons_zero, List.set_cons_succ]
    refine reg_take (i := 36) (d := 49) (v := undef) [] rfl rfl (by kernel_rfl) (by kernel_rfl) (fun _ _ _ h => h) (Or.inr ⟨by rfl, rfl⟩) (by assumption) ?_
    try simp only [List.setIfInBounds_toArray, List.set_cons_zero, List.set_cons_succ]
    refine reg_take (i := 37) (d := 50) (v := undef) [] rfl rfl (by kernel_rfl) (by kernel_rfl) (fun _ _ _ h => h) (Or.inr ⟨by rfl, rfl⟩) (by assumption) ?_
    try simp only [List.setIfInBounds_toArray, List.set_cons_zero, List.set_cons_succ]
    refine reg_take (i := 38) (d := 51) (v := undef) [] rfl rfl (by kernel_rfl) (by kernel_rfl) (fun _ _ _ h => h) (Or.inr ⟨by rfl, rfl⟩) (by assumption) ?_
    try simp only [List.setIfInBounds_toArray, List.set_cons_zero, List.set_cons_succ]
    refine reg_take (i := 39) (d := 52) (v := undef) [] rfl rfl (by kernel_rfl) (by kernel_rfl) (fun _ _ _ h => h) (Or.inr ⟨by rfl, rfl⟩) (by assumption) ?_
    try simp only [List.setIfInBounds_toArray, List.set_cons_zero, List.set_cons_succ]
    refine reg_take (i := 40) (d := 53) (v := undef) [] rfl rfl (by kernel_rfl) (by kernel_rfl) (fun _ _ _ h => h) (Or.inr ⟨by rfl, rfl⟩) (by assumption) ?_
    try simp only [List.setIfInBounds_toArray, List.set_cons_zero, List.set_cons_succ]
    refine reg_take (i := 41) (d := 54) (v := ?_) [] rfl rfl (by kernel_rfl) (by kernel_rfl) (fun _ _ _ h => h) (Or.inl ⟨by rfl, ?_⟩) (by assumption) ?_
    rotate_left
    · (intro w hSw; (try dsimp only at hSw); go_simp; first | done | with_reducible rfl)
    try simp only [List.setIfInBounds_toArray, List.set_cons_zero, List.set_cons_succ]
    refine wpAnyL_done (by kernel_rfl) ?_ _
    go_wp2_with fail
    go_ret
    exact ⟨ret_bool HF.out.2.symm, _, by rw [HF.out.1]; exact HS.out.d3.d2⟩
  have HFR := Lib.hid c2
  rcases c2 with rfl | rfl
  · by_cases c4 : k = 15
    rotate_left
    · have f4 : (k != 15) = true := bne_iff_ne.2 c4
      have f4' : ¬ k = 15 := c4
      have HF := Lib.hid (ctake_no (c := ⟨tp, nd, cs, rs⟩) (x := ⟨0, tp, body⟩) (e0 := 0) (m := ⟨k, a, bb, c0, d, ee, er, p0, p1, p2, p3, s, t⟩) (by rintro ⟨j1, j2, j3, j4, j5, j6⟩; simp only at j1 j2 j3 j4 j5 j6; exact c4 j4))
      clear c4
      have HC : Hid (∀ w', Sep w w' (tCli tRc b (.slice A1 n q1) (.slice A2 m q2) ⟨tp, nd, cs, rs⟩ :: tBlk gM #[.int .i64 k, .int .i64 a, .int .i64 bb, .int .i64 c0, .int .i64 d, .int .i64 ee, .int .i64 er, .int .i64 p0, .int .i64 p1, .int .i64 p2, .int .i64 p3, .string s, .string t] tMsg :: tBlk gL #[.int .i64 0, .int .i64 tp, .string body] tLt :: l) → w'.cell? ⟨gL, 0, none⟩ = some (.int .i64 0) ∧ w'.cell? ⟨gL, 1, none⟩ = some (.int .i64 tp) ∧ w'.cell? ⟨gM, 0, none⟩ = some (.int .i64 k) ∧ w'.cell? ⟨gM, 3, none⟩ = some (.int .i64 c0) ∧ w'.cell? ⟨b, 0, none⟩ = some (.int .i64 tp) ∧ w'.cell? ⟨b, 2, none⟩ = some (.slice A2 m q2)) := Lib.hid (fun w' h => ⟨(show Blk w' gL #[.int .i64 0, .int .i64 tp, .string body] tLt from h.h3).cell 0, (show Blk w' gL #[.int .i64 0, .int .i64 tp, .string body] tLt from h.h3).cell 1, (show Blk w' gM #[.int .i64 k, .int .i64 a, .int .i64 bb, .int .i64 c0, .int .i64 d, .int .i64 ee, .int .i64 er, .int .i64 p0, .int .i64 p1, .int .i64 p2, .int .i64 p3, .string s, .string t] tMsg from h.h2).cell 0, (show Blk w' gM #[.int .i64 k, .int .i64 a, .int .i64 bb, .int .i64 c0, .int .i64 d, .int .i64 ee, .int .i64 er, .int .i64 p0, .int .i64 p1, .int .i64 p2, .int .i64 p3, .string s, .string t] tMsg from h.h2).cell 3, h.cliCells.1, h.cliCells.2.2.1⟩)
      have HS := Lib.hid HS.out.drew
      refine wp_region_L (fun w' => w'.cell? ⟨gL, 0, none⟩ = some (.int .i64 0) ∧ w'.cell? ⟨gL, 1, none⟩ = some (.int .i64 tp) ∧ w'.cell? ⟨gM, 0, none⟩ = some (.int .i64 k) ∧ w'.cell? ⟨gM, 3, none⟩ = some (.int .i64 c0) ∧ w'.cell? ⟨b, 0, none⟩ = some (.int .i64 tp) ∧ w'.cell? ⟨b, 2, none⟩ = some (.slice A2 m q2)) 42 (by kernel_rfl) (HC.out _ HS.out) (fun hHeld => ?_)
      refine reg_take (i := 0) (d := 13) (v := ?_) [] rfl rfl (by kernel_rfl) (by kernel_rfl) (fun _ _ _ h => h) (Or.inl ⟨by rfl, ?_⟩) (by assumption) ?_
      rotate_left
      · (intro w hSw; (try dsimp only at hSw); go_simp; first | done | with_reducible rfl)
      try simp only [List.setIfInBounds_toArray, List.set_cons_zero, List.set_cons_succ]
      refine reg_take (i := 1) (d := 14) (v := ?_) [] rfl rfl (by kernel_rfl) (by kernel_rfl) (fun _ _ _ h => h) (Or.inl ⟨by rfl, ?_⟩) (by assumption) ?_
      rotate_left
      · (intro w hSw; (try dsimp only at hSw); go_simp; first | done | with_reducible rfl)
      try simp only [List.setIfInBounds_toArray, List.set_cons_zero, List.set_cons_succ]
      refine reg_take (i := 2) (d := 15) (v := ?_) [] rfl rfl (by kernel_rfl) (by kernel_rfl) (fun _ _ _ h => h) (Or.inl ⟨by rfl, ?_⟩) (by assumption) ?_
      rotate_left
      · (intro w hSw; (try dsimp only at hSw); go_simp; first | done | with_reducible rfl)
      try simp only [List.setIfInBounds_toArray, List.set_cons_zero, List.set_cons_succ]
      refine reg_take (i := 3) (d := 16) (v := ?_) [] rfl rfl (by kernel_rfl) (by kernel_rfl) (fun _ _ _ h => h) (Or.inl ⟨by rfl, ?_⟩) (by assumption) ?_
      rotate_left
      · (intro w hSw; (try dsimp only at hSw); go_simp; first | done | with_reducible rfl)
      try simp only [List.setIfInBounds_toArray, List.set_cons_zero, List.set_cons_succ]
      refine reg_take (i := 4) (d := 17) (v := ?_) [] rfl rfl (by kernel_rfl) (by kernel_rfl) (fun _ _ _ h => h) (Or.inl ⟨by rfl, ?_⟩) (by assumption) ?_
      rotate_left
      · (intro w hSw; (try dsimp only at hSw); go_simp; first | done | with_reducible rfl)
      try simp only [List.setIfInBounds_toArray, List.set_cons_zero, List.set_cons_succ]
      refine reg_take (i := 5) (d := 18) (v := ?_) [] rfl rfl (by kernel_rfl) (by kernel_rfl) (fun _ _ _ h => h) (Or.inl ⟨by rfl, ?_⟩) (by assumption) ?_
      rotate_left
      · (intro w hSw; (try dsimp only at hSw); go_simp; first | done | with_reducible rfl)
      try simp only [List.setIfInBounds_toArray, List.set_cons_zero, List.set_cons_succ]
      refine reg_take (i := 6) (d := 19) (v := ?_) [] rfl rfl (by kernel_rfl) (by kernel_rfl) (fun _ _ _ h => h) (Or.inl ⟨by rfl, ?_⟩) (by assumption) ?_
      rotate_left
      · (intro w hSw; (try dsimp only at hSw); go_simp; first | done | with_reducible rfl)
      try simp only [List.setIfInBounds_toArray, List.set_cons_zero, List.set_cons_succ]
      refine reg_take (i := 7) (d := 20) (v := ?_) [] rfl rfl (by kernel_rfl) (by kernel_rfl) (fun _ _ _ h => h) (Or.inl ⟨by rfl, ?_⟩) (by assumption) ?_
      rotate_left
      · (intro w hSw; (try dsimp only at hSw); go_simp; first | done | with_reducible rfl)
      try simp only [List.setIfInBounds_toArray, List.set_cons_zero, List.set_cons_succ]
      refine reg_take (i := 8) (d := 21) (v := ?_) [] rfl rfl (by kernel_rfl) (by kernel_rfl) (fun _ _ _ h => h) (Or.inl ⟨by rfl, ?_⟩) (by assumption) ?_
      rotate_left
      · (intro w hSw; (try dsimp only at hSw); go_simp; first | done | with_reducible rfl)
      try simp only [List.setIfInBounds_toArray, List.set_cons_zero, List.set_cons_succ]
      refine reg_take (i := 9) (d := 22) (v := ?_) [] rfl rfl (by kernel_rfl) (by kernel_rfl) (fun _ _ _ h => h) (Or.inl ⟨by rfl, ?_⟩) (by assumption) ?_
      rotate_left
      · (intro w hSw; (try dsimp only at hSw); go_simp; first | done | with_reducible rfl)
      try simp only [List.setIfInBounds_toArray, List.set_cons_zero, List.set_cons_succ]
      refine reg_take (i := 10) (d := 23) (v := ?_) [] rfl rfl (by kernel_rfl) (by kernel_rfl) (fun _ _ _ h => h) (Or.inl ⟨by rfl, ?_⟩) (by assumption) ?_
      rotate_left
      · (intro w hSw; (try dsimp only at hSw); go_simp; first | done | with_reducible rfl)
      try simp only [List.setIfInBounds_toArray, List.set_cons_zero, List.set_cons_succ]
      refine reg_take (i := 11) (d := 24) (v := ?_) [] rfl rfl (by kernel_rfl) (by kernel_rfl) (fun _ _ _ h => h) (Or.inl ⟨by rfl, ?_⟩) (by assumption) ?_
      rotate_left
      · (intro w hSw; (try dsimp only at hSw); go_simp; first | done | with_reducible rfl)
      try simp only [List.setIfInBounds_toArray, List.set_cons_zero, List.set_cons_succ]
      refine reg_take (i := 12) (d := 25) (v := ?_) [] rfl rfl (by kernel_rfl) (by kernel_rfl) (fun _ _ _ h => h) (Or.inl ⟨by rfl, ?_⟩) (by assumption) ?_
      rotate_left
      · (intro w hSw; (try dsimp only at hSw); go_simp; first | done | with_reducible rfl)
      try simp only [List.setIfInBounds_toArray, List.set_cons_zero, List.set_cons_succ]
      refine reg_take (i := 13) (d := 26) (v := ?_) [] rfl rfl (by kernel_rfl) (by kernel_rfl) (fun _ _ _ h => h) (Or.inl ⟨by rfl, ?_⟩) (by assumption) ?_
      rotate_left
      · (intro w hSw; (try dsimp only at hSw); go_simp; first | done | with_reducible rfl)
      try simp only [List.setIfInBounds_toArray, List.set_cons_zero, List.set_cons_succ]
      refine reg_take (i := 14) (d := 27) (v := ?_) [] rfl rfl (by kernel_rfl) (by kernel_rfl) (fun _ _ _ h => h) (Or.inl ⟨by rfl, ?_⟩) (by assumption) ?_
      rotate_left
      · (intro w hSw; (try dsimp only at hSw); go_simp; first | done | with_reducible rfl)
      try simp only [List.setIfInBounds_toArray, List.set_cons_zero, List.set_cons_succ]
      refine reg_take (i := 15) (d := 28) (v := ?_) [] rfl rfl (by kernel_rfl) (by kernel_rfl) (fun _ _ _ h => h) (Or.inl ⟨by rfl, ?_⟩) (by assumption) ?_
      rotate_left
      · (intro w hSw; (try dsimp only at hSw); go_simp; first | done | with_reducible rfl)
      try simp only [List.setIfInBounds_toArray, List.set_cons_zero, List.set_cons_succ]
      refine reg_take (i := 16) (d := 29) (v := undef) [] rfl rfl (by kernel_rfl) (by kernel_rfl) (fun _ _ _ h => h) (Or.inr ⟨by rfl, rfl⟩) (by assumption) ?_
      try simp only [List.setIfInBounds_toArray, List.set_cons_zero, List.set_cons_succ]
      refine reg_take (i := 17) (d := 30) (v := undef) [] rfl rfl (by kernel_rfl) (by kernel_rfl) (fun _ _ _ h => h) (Or.inr ⟨by rfl, rfl⟩) (by assumption) ?_
      try simp only [List.setIfInBounds_toArray, List.set_cons_zero, List.set_cons_succ]
      refine reg_take (i := 18) (d := 31) (v := undef) [] rfl rfl (by kernel_rfl) (by kernel_rfl) (fun _ _ _ h => h) (Or.inr ⟨by rfl, rfl⟩) (by assumption) ?_
      try simp only [List.setIfInBounds_toArray, List.set_cons_zero, List.set_cons_succ]
      refine reg_take (i := 19) (d := 32) (v := ?_) [] rfl rfl (by kernel_rfl) (by kernel_rfl) (fun _ _ _ h => h) (Or.inl ⟨by rfl, ?_⟩) (by assumption) ?_
      rotate_left
      · (intro w hSw; (try dsimp only at hSw); go_simp; first | done | with_reducible rfl)
      try simp only [List.setIfInBounds_toArray, List.set_cons_zero, List.set_cons_succ]
      refine reg_take (i := 20) (d := 33) (v := ?_) [] rfl rfl (by kernel_rfl) (by kernel_rfl) (fun _ _ _ h => h) (Or.inl ⟨by rfl, ?_⟩) (by assumption) ?_
      rotate_left
      · (intro w hSw; (try dsimp only at hSw); go_simp; first | done | with_reducible rfl)
      try simp only [List.setIfInBounds_toArray, List.set_cons_zero, List.set_cons_succ]
      refine reg_take (i := 21) (d := 34) (v := ?_) [] rfl rfl (by kernel_rfl) (by kernel_rfl) (fun _ _ _ h => h) (Or.inl ⟨by rfl, ?_⟩) (by assumption) ?_
      rotate_left
      · (intro w hSw; (try dsimp only at hSw); go_simp; first | done | with_reducible rfl)
      try simp only [List.setIfInBounds_toArray, List.set_cons_zero, List.set_cons_succ]
      refine reg_take (i := 22) (d := 35) (v := ?_) [] rfl rfl (by kernel_rfl) (by kernel_rfl) (fun _ _ _ h => h) (Or.inl ⟨by rfl, ?_⟩) (by assumption) ?_
      rotate_left
      · (intro w hSw; (try dsimp only at hSw); go_simp; first | done | with_reducible rfl)
      try simp only [List.setIfInBounds_toArray, List.set_cons_zero, List.set_cons_succ]
      refine reg_take (i := 23) (d := 36) (v := ?_) [] rfl rfl (by kernel_rfl) (by kernel_rfl) (fun _ _ _ h => h) (Or.inl ⟨by rfl, ?_⟩) (by assumption) ?_
      rotate_left
      · (intro w hSw; (try dsimp only at hSw); go_simp; first | done | with_reducible rfl)
      try simp only [List.setIfInBounds_toArray, List.set_cons_zero, List.set_cons_succ]
      refine reg_take (i := 24) (d := 37) (v := ?_) [] rfl rfl (by kernel_rfl) (by kernel_rfl) (fun _ _ _ h => h) (Or.inl ⟨by rfl, ?_⟩) (by assumption) ?_
      rotate_left
      · (intro w hSw; (try dsimp only at hSw); go_simp; first | done | with_reducible rfl)
      try simp only [List.setIfInBounds_toArray, List.set_cons_zero, List.set_cons_succ]
      refine reg_take (i := 25) (d := 38) (v := ?_) [] rfl rfl (by kernel_rfl) (by kernel_rfl) (fun _ _ _ h => h) (Or.inl ⟨by rfl, ?_⟩) (by assumption) ?_
      rotate_left
      · (intro w hSw; (try dsimp only at hSw); go_simp; first | done | with_reducible rfl)
      try simp only [List.setIfInBounds_toArray, List.set_cons_zero, List.set_cons_succ]
      refine reg_take (i := 26) (d := 39) (v := ?_) [] rfl rfl (by kernel_rfl) (by kernel_rfl) (fun _ _ _ h => h) (Or.inl ⟨by rfl, ?_⟩) (by assumption) ?_
      rotate_left
      · (intro w hSw; (try dsimp only at hSw); go_simp; first | done | with_reducible rfl)
      try simp only [List.setIfInBounds_toArray, List.set_cons_zero, List.set_cons_succ]
      refine reg_take (i := 27) (d := 40) (v := undef) [] rfl rfl (by kernel_rfl) (by kernel_rfl) (fun _ _ _ h => h) (Or.inr ⟨by rfl, rfl⟩) (by assumption) ?_
      try simp only [List.setIfInBounds_toArray, List.set_cons_zero, List.set_cons_succ]
      refine reg_take (i := 28) (d := 41) (v := undef) [] rfl rfl (by kernel_rfl) (by kernel_rfl) (fun _ _ _ h => h) (Or.inr ⟨by rfl, rfl⟩) (by assumption) ?_
      try simp only [List.setIfInBounds_toArray, List.set_cons_zero, List.set_cons_succ]
      refine reg_take (i := 29) (d := 42) (v := undef) [] rfl rfl (by kernel_rfl) (by kernel_rfl) (fun _ _ _ h => h) (Or.inr ⟨by rfl, rfl⟩) (by assumption) ?_
      try simp only [List.setIfInBounds_toArray, List.set_cons_zero, List.set_cons_succ]
      refine reg_take (i := 30) (d := 43) (v := ?_) [] rfl rfl (by kernel_rfl) (by kernel_rfl) (fun _ _ _ h => h) (Or.inl ⟨by rfl, ?_⟩) (by assumption) ?_
      rotate_left
      · (intro w hSw; (try dsimp only at hSw); go_simp; first | done | with_reducible rfl)
      try simp only [List.setIfInBounds_toArray, List.set_cons_zero, List.set_cons_succ]
      refine reg_take (i := 31) (d := 44) (v := ?_) [] rfl rfl (by kernel_rfl) (by kernel_rfl) (fun _ _ _ h => h) (Or.inl ⟨by rfl, ?_⟩) (by assumption) ?_
      rotate_left
      · (intro w hSw; (try dsimp only at hSw); go_simp; first | done | with_reducible rfl)
      try simp only [List.setIfInBounds_toArray, List.set_cons_zero, List.set_cons_succ]
      refine reg_take (i := 32) (d := 45) (v := undef) [] rfl rfl (by kernel_rfl) (by kernel_rfl) (fun _ _ _ h => h) (Or.inr ⟨by rfl, rfl⟩) (by assumption) ?_
      try simp only [List.setIfInBounds_toArray, List.set_cons_zero, List.set_cons_succ]
      refine reg_take (i := 33) (d := 46) (v := undef) [] rfl rfl (by kernel_rfl) (by kernel_rfl) (fun _ _ _ h => h) (Or.inr ⟨by rfl, rfl⟩) (by assumption) ?_
      try simp only [List.setIfInBounds_toArray, List.set_cons_zero, List.set_cons_succ]
      refine reg_take (i := 34) (d := 47) (v := undef) [] rfl rfl (by kernel_rfl) (by kernel_rfl) (fun _ _ _ h => h) (Or.inr ⟨by rfl, rfl⟩) (by assumption) ?_
      try simp only [List.setIfInBounds_toArray, List.set_cons_zero, List.set_cons_succ]
      refine reg_take (i := 35) (d := 48) (v := undef) [] rfl rfl (by kernel_rfl) (by kernel_rfl) (fun _ _ _ h => h) (Or.inr ⟨by rfl, rfl⟩) (by assumption) ?_
      try simp only [List.setIfInBounds_toArray, List.set_cons_zero, List.set_cons_succ]
      refine reg_take (i := 36) (d := 49) (v := undef) [] rfl rfl (by kernel_rfl) (by kernel_rfl) (fun _ _ _ h => h) (Or.inr ⟨by rfl, rfl⟩) (by assumption) ?_
      try simp only [List.setIfInBounds_toArray, List.set_cons_zero, List.set_cons_succ]
      refine reg_take (i := 37) (d := 50) (v := undef) [] rfl rfl (by kernel_rfl) (by kernel_rfl) (fun _ _ _ h => h) (Or.inr ⟨by rfl, rfl⟩) (by assumption) ?_
      try simp only [List.setIfInBounds_toArray, List.set_cons_zero, List.set_cons_succ]
      refine reg_take (i := 38) (d := 51) (v := undef) [] rfl rfl (by kernel_rfl) (by kernel_rfl) (fun _ _ _ h => h) (Or.inr ⟨by rfl, rfl⟩) (by assumption) ?_
      try simp only [List.setIfInBounds_toArray, List.set_cons_zero, List.set_cons_succ]
      refine reg_take (i := 39) (d := 52) (v := undef) [] rfl rfl (by kernel_rfl) (by kernel_rfl) (fun _ _ _ h => h) (Or.inr ⟨by rfl, rfl⟩) (by assumption) ?_
      try simp only [List.setIfInBounds_toArray, List.set_cons_zero, List.set_cons_succ]
      refine reg_take (i := 40) (d := 53) (v := undef) [] rfl rfl (by kernel_rfl) (by kernel_rfl) (fun _ _ _ h => h) (Or.inr ⟨by rfl, rfl⟩) (by assumption) ?_
      try simp only [List.setIfInBounds_toArray, List.set_cons_zero, List.set_cons_succ]
      refine reg_take (i := 41) (d := 54) (v := ?_) [] rfl rfl (by kernel_rfl) (by kernel_rfl) (fun _ _ _ h => h) (Or.inl ⟨by rfl, ?_⟩) (by assumption) ?_
      rotate_left
      · (intro w hSw; (try dsimp only at hSw); go_simp; first | done | with_reducible rfl)
      try simp only [List.setIfInBounds_toArray, List.set_cons_zero, List.set_cons_succ]
      refine wpAnyL_done (by kernel_rfl) ?_ _
      go_wp2_with fail
      go_ret
      exact ⟨ret_bool HF.out.2.symm, _, by rw [HF.out.1]; exact HS.out.d3.d2⟩
    subst c4
    by_cases c5 : m < n
    rotate_left
    · have f5 : (n : Int) - (m : Int) = 0 := by omega
      have f5' : ((n : Int) - (m : Int) == 0) = true := beq_iff_eq.2 f5
      have HF := Lib.hid (ctake_no (c := ⟨tp, nd, cs, rs⟩) (x := ⟨0, tp, body⟩) (e0 := 0) (m := ⟨15, a, bb, c0, d, ee, er, p0, p1, p2, p3, s, t⟩) (by rintro ⟨j1, j2, j3, j4, j5, j6⟩; simp only at j1 j2 j3 j4 j5 j6; rw [HN.out.1, HN.out.2] at j5; exact c5 j5))
      clear c5 hmn
      have HC : Hid (∀ w', Sep w w' (tCli tRc b (.slice A1 n q1) (.slice A2 m q2) ⟨tp, nd, cs, rs⟩ :: tBlk gM #[.int .i64 15, .int .i64 a, .int .i64 bb, .int .i64 c0, .int .i64 d, .int .i64 ee, .int .i64 er, .int .i64 p0, .int .i64 p1, .int .i64 p2, .int .i64 p3, .string s, .string t] tMsg :: tBlk gL #[.int .i64 0, .int .i64 tp, .string body] tLt :: l) → w'.cell? ⟨gL, 0, none⟩ = some (.int .i64 0) ∧ w'.cell? ⟨gL, 1, none⟩ = some (.int .i64 tp) ∧ w'.cell? ⟨gM, 0, none⟩ = some (.int .i64 15) ∧ w'.cell? ⟨gM, 3, none⟩ = some (.int .i64 c0) ∧ w'.cell? ⟨b, 0, none⟩ = some (.int .i64 tp) ∧ w'.cell? ⟨b, 2, none⟩ = some (.slice A2 m q2)) := Lib.hid (fun w' h => ⟨(show Blk w' gL #[.int .i64 0, .int .i64 tp, .string body] tLt from h.h3).cell 0, (show Blk w' gL #[.int .i64 0, .int .i64 tp, .string body] tLt from h.h3).cell 1, (show Blk w' gM #[.int .i64 15, .int .i64 a, .int .i64 bb, .int .i64 c0, .int .i64 d, .int .i64 ee, .int .i64 er, .int .i64 p0, .int .i64 p1, .int .i64 p2, .int .i64 p3, .string s, .string t] tMsg from h.h2).cell 0, (show Blk w' gM #[.int .i64 15, .int .i64 a, .int .i64 bb, .int .i64 c0, .int .i64 d, .int .i64 ee, .int .i64 er, .int .i64 p0, .int .i64 p1, .int .i64 p2, .int .i64 p3, .string s, .string t] tMsg from h.h2).cell 3, h.cliCells.1, h.cliCells.2.2.1⟩)
      have HS := Lib.hid HS.out.drew
      refine wp_region_L (fun w' => w'.cell? ⟨gL, 0, none⟩ = some (.int .i64 0) ∧ w'.cell? ⟨gL, 1, none⟩ = some (.int .i64 tp) ∧ w'.cell? ⟨gM, 0, none⟩ = some (.int .i64 15) ∧ w'.cell? ⟨gM, 3, none⟩ = some (.int .i64 c0) ∧ w'.cell? ⟨b, 0, none⟩ = some (.int .i64 tp) ∧ w'.cell? ⟨b, 2, none⟩ = some (.slice A2 m q2)) 42 (by kernel_rfl) (HC.out _ HS.out) (fun hHeld => ?_)
      refine reg_take (i := 0) (d := 13) (v := ?_) [] rfl rfl (by kernel_rfl) (by kernel_rfl) (fun _ _ _ h => h) (Or.inl ⟨by rfl, ?_⟩) (by assumption) ?_
      rotate_left
      · (intro w hSw; (try dsimp only at hSw); go_simp; first | done | with_reducible rfl)
      try simp only [List.setIfInBounds_toArray, List.set_cons_zero, List.set_cons_succ]
      refine reg_take (i := 1) (d := 14) (v := ?_) [] rfl rfl (by kernel_rfl) (by kernel_rfl) (fun _ _ _ h => h) (Or.inl ⟨by rfl, ?_⟩) (by assumption) ?_
      rotate_left
      · (intro w hSw; (try dsimp only at hSw); go_simp; first | done | with_reducible rfl)
      try simp only [List.setIfInBounds_toArray, List.set_cons_zero, List.set_cons_succ]
      refine reg_take (i := 2) (d := 15) (v := ?_) [] rfl rfl (by kernel_rfl) (by kernel_rfl) (fun _ _ _ h => h) (Or.inl ⟨by rfl, ?_⟩) (by assumption) ?_
      rotate_left
      · (intro w hSw; (try dsimp only at hSw); go_simp; first | done | with_reducible rfl)
      try simp only [List.setIfInBounds_toArray, List.set_cons_zero, List.set_cons_succ]
      refine reg_take (i := 3) (d := 16) (v := ?_) [] rfl rfl (by kernel_rfl) (by kernel_rfl) (fun _ _ _ h => h) (Or.inl ⟨by rfl, ?_⟩) (by assumption) ?_
      rotate_left
      · (intro w hSw; (try dsimp only at hSw); go_simp; first | done | with_reducible rfl)
      try simp only [List.setIfInBounds_toArray, List.set_cons_zero, List.set_cons_succ]
      refine reg_take (i := 4) (d := 17) (v := ?_) [] rfl rfl (by kernel_rfl) (by kernel_rfl) (fun _ _ _ h => h) (Or.inl ⟨by rfl, ?_⟩) (by assumption) ?_
      rotate_left
      · (intro w hSw; (try dsimp only at hSw); go_simp; first | done | with_reducible rfl)
      try simp only [List.setIfInBounds_toArray, List.set_cons_zero, List.set_cons_succ]
      refine reg_take (i := 5) (d := 18) (v := ?_) [] rfl rfl (by kernel_rfl) (by kernel_rfl) (fun _ _ _ h => h) (Or.inl ⟨by rfl, ?_⟩) (by assumption) ?_
      rotate_left
      · (intro w hSw; (try dsimp only at hSw); go_simp; first | done | with_reducible rfl)
      try simp only [List.setIfInBounds_toArray, List.set_cons_zero, List.set_cons_succ]
      refine reg_take (i := 6) (d := 19) (v := ?_) [] rfl rfl (by kernel_rfl) (by kernel_rfl) (fun _ _ _ h => h) (Or.inl ⟨by rfl, ?_⟩) (by assumption) ?_
      rotate_left
      · (intro w hSw; (try dsimp only at hSw); go_simp; first | done | with_reducible rfl)
      try simp only [List.setIfInBounds_toArray, List.set_cons_zero, List.set_cons_succ]
      refine reg_take (i := 7) (d := 20) (v := ?_) [] rfl rfl (by kernel_rfl) (by kernel_rfl) (fun _ _ _ h => h) (Or.inl ⟨by rfl, ?_⟩) (by assumption) ?_
      rotate_left
      · (intro w hSw; (try dsimp only at hSw); go_simp; first | done | with_reducible rfl)
      try simp only [List.setIfInBounds_toArray, List.set_cons_zero, List.set_cons_succ]
      refine reg_take (i := 8) (d := 21) (v := ?_) [] rfl rfl (by kernel_rfl) (by kernel_rfl) (fun _ _ _ h => h) (Or.inl ⟨by rfl, ?_⟩) (by assumption) ?_
      rotate_left
      · (intro w hSw; (try dsimp only at hSw); go_simp; first | done | with_reducible rfl)
      try simp only [List.setIfInBounds_toArray, List.set_cons_zero, List.set_cons_succ]
      refine reg_take (i := 9) (d := 22) (v := ?_) [] rfl rfl (by kernel_rfl) (by kernel_rfl) (fun _ _ _ h => h) (Or.inl ⟨by rfl, ?_⟩) (by assumption) ?_
      rotate_left
      · (intro w hSw; (try dsimp only at hSw); go_simp; first | done | with_reducible rfl)
      try simp only [List.setIfInBounds_toArray, List.set_cons_zero, List.set_cons_succ]
      refine reg_take (i := 10) (d := 23) (v := ?_) [] rfl rfl (by kernel_rfl) (by kernel_rfl) (fun _ _ _ h => h) (Or.inl ⟨by rfl, ?_⟩) (by assumption) ?_
      rotate_left
      · (intro w hSw; (try dsimp only at hSw); go_simp; first | done | with_reducible rfl)
      try simp only [List.setIfInBounds_toArray, List.set_cons_zero, List.set_cons_succ]
      refine reg_take (i := 11) (d := 24) (v := ?_) [] rfl rfl (by kernel_rfl) (by kernel_rfl) (fun _ _ _ h => h) (Or.inl ⟨by rfl, ?_⟩) (by assumption) ?_
      rotate_left
      · (intro w hSw; (try dsimp only at hSw); go_simp; first | done | with_reducible rfl)
      try simp only [List.setIfInBounds_toArray, List.set_cons_zero, List.set_cons_succ]
      refine reg_take (i := 12) (d := 25) (v := ?_) [] rfl rfl (by kernel_rfl) (by kernel_rfl) (fun _ _ _ h => h) (Or.inl ⟨by rfl, ?_⟩) (by assumption) ?_
      rotate_left
      · (intro w hSw; (try dsimp only at hSw); go_simp; first | done | with_reducible rfl)
      try simp only [List.setIfInBounds_toArray, List.set_cons_zero, List.set_cons_succ]
      refine reg_take (i := 13) (d := 26) (v := ?_) [] rfl rfl (by kernel_rfl) (by kernel_rfl) (fun _ _ _ h => h) (Or.inl ⟨by rfl, ?_⟩) (by assumption) ?_
      rotate_left
      · (intro w hSw; (try dsimp only at hSw); go_simp; first | done | with_reducible rfl)
      try simp only [List.setIfInBounds_toArray, List.set_cons_zero, List.set_cons_succ]
      refine reg_take (i := 14) (d := 27) (v := ?_) [] rfl rfl (by kernel_rfl) (by kernel_rfl) (fun _ _ _ h => h) (Or.inl ⟨by rfl, ?_⟩) (by assumption) ?_
      rotate_left
      · (intro w hSw; (try dsimp only at hSw); go_simp; first | done | with_reducible rfl)
      try simp only [List.setIfInBounds_toArray, List.set_cons_zero, List.set_cons_succ]
      refine reg_take (i := 15) (d := 28) (v := ?_) [] rfl rfl (by kernel_rfl) (by kernel_rfl) (fun _ _ _ h => h) (Or.inl ⟨by rfl, ?_⟩) (by assumption) ?_
      rotate_left
      · (intro w hSw; (try dsimp only at hSw); go_simp; first | done | with_reducible rfl)
      try simp only [List.setIfInBounds_toArray, List.set_cons_zero, List.set_cons_succ]
      refine reg_take (i := 16) (d := 29) (v := undef) [] rfl rfl (by kernel_rfl) (by kernel_rfl) (fun _ _ _ h => h) (Or.inr ⟨by rfl, rfl⟩) (by assumption) ?_
      try simp only [List.setIfInBounds_toArray, List.set_cons_zero, List.set_cons_succ]
      refine reg_take (i := 17) (d := 30) (v := undef) [] rfl rfl (by kernel_rfl) (by kernel_rfl) (fun _ _ _ h => h) (Or.inr ⟨by rfl, rfl⟩) (by assumption) ?_
      try simp only [List.setIfInBounds_toArray, List.set_cons_zero, List.set_cons_succ]
      refine reg_take (i := 18) (d := 31) (v := undef) [] rfl rfl (by kernel_rfl) (by kernel_rfl) (fun _ _ _ h => h) (Or.inr ⟨by rfl, rfl⟩) (by assumption) ?_
      try simp only [List.setIfInBounds_toArray, List.set_cons_zero, List.set_cons_succ]
      refine reg_take (i := 19) (d := 32) (v := ?_) [] rfl rfl (by kernel_rfl) (by kernel_rfl) (fun _ _ _ h => h) (Or.inl ⟨by rfl, ?_⟩) (by assumption) ?_
      rotate_left
      · (intro w hSw; (try dsimp only at hSw); go_simp; first | done | with_reducible rfl)
      try simp only [List.setIfInBounds_toArray, List.set_cons_zero, List.set_cons_succ]
      refine reg_take (i := 20) (d := 33) (v := ?_) [] rfl rfl (by kernel_rfl) (by kernel_rfl) (fun _ _ _ h => h) (Or.inl ⟨by rfl, ?_⟩) (by assumption) ?_
      rotate_left
      · (intro w hSw; (try dsimp only at hSw); go_simp; first | done | with_reducible rfl)
      try simp only [List.setIfInBounds_toArray, List.set_cons_zero, List.set_cons_succ]
      refine reg_take (i := 21) (d := 34) (v := ?_) [] rfl rfl (by kernel_rfl) (by kernel_rfl) (fun _ _ _ h => h) (Or.inl ⟨by rfl, ?_⟩) (by assumption) ?_
      rotate_left
      · (intro w hSw; (try dsimp only at hSw); go_simp; first | done | with_reducible rfl)
      try simp only [List.setIfInBounds_toArray, List.set_cons_zero, List.set_cons_succ]
      refine reg_take (i := 22) (d := 35) (v := ?_) [] rfl rfl (by kernel_rfl) (by kernel_rfl) (fun _ _ _ h => h) (Or.inl ⟨by rfl, ?_⟩) (by assumption) ?_
      rotate_left
      · (intro w hSw; (try dsimp only at hSw); go_simp; first | done | with_reducible rfl)
      try simp only [List.setIfInBounds_toArray, List.set_cons_zero, List.set_cons_succ]
      refine reg_take (i := 23) (d := 36) (v := ?_) [] rfl rfl (by kernel_rfl) (by kernel_rfl) (fun _ _ _ h => h) (Or.inl ⟨by rfl, ?_⟩) (by assumption) ?_
      rotate_left
      · (intro w hSw; (try dsimp only at hSw); go_simp; first | done | with_reducible rfl)
      try simp only [List.setIfInBounds_toArray, List.set_cons_zero, List.set_cons_succ]
      refine reg_take (i := 24) (d := 37) (v := ?_) [] rfl rfl (by kernel_rfl) (by kernel_rfl) (fun _ _ _ h => h) (Or.inl ⟨by rfl, ?_⟩) (by assumption) ?_
      rotate_left
      · (intro w hSw; (try dsimp only at hSw); go_simp; first | done | with_reducible rfl)
      try simp only [List.setIfInBounds_toArray, List.set_cons_zero, List.set_cons_succ]
      refine reg_take (i := 25) (d := 38) (v := ?_) [] rfl rfl (by kernel_rfl) (by kernel_rfl) (fun _ _ _ h => h) (Or.inl ⟨by rfl, ?_⟩) (by assumption) ?_
      rotate_left
      · (intro w hSw; (try dsimp only at hSw); go_simp; first | done | with_reducible rfl)
      try simp only [List.setIfInBounds_toArray, List.set_cons_zero, List.set_cons_succ]
      refine reg_take (i := 26) (d := 39) (v := ?_) [] rfl rfl (by kernel_rfl) (by kernel_rfl) (fun _ _ _ h => h) (Or.inl ⟨by rfl, ?_⟩) (by assumption) ?_
      rotate_left
      · (intro w hSw; (try dsimp only at hSw); go_simp; first | done | with_reducible rfl)
      try simp only [List.setIfInBounds_toArray, List.set_cons_zero, List.set_cons_succ]
      refine reg_take (i := 27) (d := 40) (v := ?_) [] rfl rfl (by kernel_rfl) (by kernel_rfl) (fun _ _ _ h => h) (Or.inl ⟨by rfl, ?_⟩) (by assumption) ?_
      rotate_left
      · (intro w hSw; (try dsimp only at hSw); go_simp; first | done | with_reducible rfl)
      try simp only [List.setIfInBounds_toArray, List.set_cons_zero, List.set_cons_succ]
      refine wpAnyL_ready (rs := [28]) (by kernel_rfl) rfl ?_
      refine (AllL.cons rfl (fun K hK => ?_) AllL.nil)
      go_simp
      go_at_call 21
      refine (rleft_sep HS.out HGD.out).mono ?_
      simp only [HN.out.1, HN.out.2]
      rintro e5 w5 ⟨rfl, hS5⟩
      have HS := Lib.hid hS5
      clear hS5
      go_simp
      refine hK.out _ _ (HC.out _ HS.out) (fun hHeld => ?_)
      try simp only [List.setIfInBounds_toArray, List.set_cons_zero, List.set_cons_succ]
      refine reg_take (i := 29) (d := 42) (v := ?_) [] rfl rfl (by kernel_rfl) (by kernel_rfl) (fun _ _ _ h => h) (Or.inl ⟨by rfl, ?_⟩) (by assumption) ?_
      rotate_left
      · (intro w hSw; (try dsimp only at hSw); go_simp; first | done | with_reducible rfl)
      try simp only [List.setIfInBounds_toArray, List.set_cons_zero, List.set_cons_succ]
      refine reg_take (i := 30) (d := 43) (v := ?_) [] rfl rfl (by kernel_rfl) (by kernel_rfl) (fun _ _ _ h => h) (Or.inl ⟨by rfl, ?_⟩) (by assumption) ?_
      rotate_left
      · (intro w hSw; (try dsimp only at hSw); go_simp; first | done | with_reducible rfl)
      try simp only [List.setIfInBounds_toArray, List.set_cons_zero, List.set_cons_succ]
      refine reg_take (i := 31) (d := 44) (v := ?_) [] rfl rfl (by kernel_rfl) (by kernel_rfl) (fun _ _ _ h => h) (Or.inl ⟨by rfl, ?_⟩) (by assumption) ?_
      rotate_left
      · (intro w hSw; (try dsimp only at hSw); go_simp; first | done | with_reducible rfl)
      try simp only [List.setIfInBounds_toArray, List.set_cons_zero, List.set_cons_succ]
      refine reg_take (i := 32) (d := 45) (v := undef) [] rfl rfl (by kernel_rfl) (by kernel_rfl) (fun _ _ _ h => h) (Or.inr ⟨by rfl, rfl⟩) (by assumption) ?_
      try simp only [List.setIfInBounds_toArray, List.set_cons_zero, List.set_cons_succ]
      refine reg_take (i := 33) (d := 46) (v := undef) [] rfl rfl (by kernel_rfl) (by kernel_rfl) (fun _ _ _ h => h) (Or.inr ⟨by rfl, rfl⟩) (by assumption) ?_
      try simp only [List.setIfInBounds_toArray, List.set_cons_zero, List.set_cons_succ]
      refine reg_take (i := 34) (d := 47) (v := undef) [] rfl rfl (by kernel_rfl) (by kernel_rfl) (fun _ _ _ h => h) (Or.inr ⟨by rfl, rfl⟩) (by assumption) ?_
      try simp only [List.setIfInBounds_toArray, List.set_cons_zero, List.set_cons_succ]
      refine reg_take (i := 35) (d := 48) (v := undef) [] rfl rfl (by kernel_rfl) (by kernel_rfl) (fun _ _ _ h => h) (Or.inr ⟨by rfl, rfl⟩) (by assumption) ?_
      try simp only [List.setIfInBounds_toArray, List.set_cons_zero, List.set_cons_succ]
      refine reg_take (i := 36) (d := 49) (v := undef) [] rfl rfl (by kernel_rfl) (by kernel_rfl) (fun _ _ _ h => h) (Or.inr ⟨by rfl, rfl⟩) (by assumption) ?_
      try simp only [List.setIfInBounds_toArray, List.set_cons_zero, List.set_cons_succ]
      refine reg_take (i := 37) (d := 50) (v := undef) [] rfl rfl (by kernel_rfl) (by kernel_rfl) (fun _ _ _ h => h) (Or.inr ⟨by rfl, rfl⟩) (by assumption) ?_
      try simp only [List.setIfInBounds_toArray, List.set_cons_zero, List.set_cons_succ]
      refine reg_take (i := 38) (d := 51) (v := undef) [] rfl rfl (by kernel_rfl) (by kernel_rfl) (fun _ _ _ h => h) (Or.inr ⟨by rfl, rfl⟩) (by assumption) ?_
      try simp only [List.setIfInBounds_toArray, List.set_cons_zero, List.set_cons_succ]
      refine reg_take (i := 39) (d := 52) (v := undef) [] rfl rfl (by kernel_rfl) (by kernel_rfl) (fun _ _ _ h => h) (Or.inr ⟨by rfl, rfl⟩) (by assumption) ?_
      try simp only [List.setIfInBounds_toArray, List.set_cons_zero, List.set_cons_succ]
      refine reg_take (i := 40) (d := 53) (v := undef) [] rfl rfl (by kernel_rfl) (by kernel_rfl) (fun _ _ _ h => h) (Or.inr ⟨by rfl, rfl⟩) (by assumption) ?_
      try simp only [List.setIfInBounds_toArray, List.set_cons_zero, List.set_cons_succ]
      refine reg_take (i := 41) (d := 54) (v := ?_) [] rfl rfl (by kernel_rfl) (by kernel_rfl) (fun _ _ _ h => h) (Or.inl ⟨by rfl, ?_⟩) (by assumption) ?_
      rotate_left
      · (intro w hSw; (try dsimp only at hSw); go_simp; first | done | with_reducible rfl)
      try simp only [List.setIfInBounds_toArray, List.set_cons_zero, List.set_cons_succ]
      refine wpAnyL_done (by kernel_rfl) ?_ _
      go_wp2_with fail
      go_ret
      exact ⟨ret_bool HF.out.2.symm, _, by rw [HF.out.1]; exact HS.out.d3.d2⟩
    have f5 : ¬ ((n : Int) - (m : Int) = 0) := by omega
    have f5' : ((n : Int) - (m : Int) == 0) = false := beq_eq_false_iff_ne.2 f5
    have f7 : IntKind.i64.wrap ((m : Int) + 1) = (m : Int) + 1 := IntWalk.i64_in _ (by omega)
    by_cases c6 : c0 = (m : Int) + 1
    rotate_left
    · have f6 : (c0 != (m : Int) + 1) = true := bne_iff_ne.2 c6
      have f6' : ¬ c0 = (m : Int) + 1 := c6
      have HF := Lib.hid (ctake_no (c := ⟨tp, nd, cs, rs⟩) (x := ⟨0, tp, body⟩) (e0 := 0) (m := ⟨15, a, bb, c0, d, ee, er, p0, p1, p2, p3, s, t⟩) (by rintro ⟨j1, j2, j3, j4, j5, j6⟩; simp only at j1 j2 j3 j4 j5 j6; rw [HN.out.2] at j6; exact c6 j6))
      clear c6
      have HC : Hid (∀ w', Sep w w' (tCli tRc b (.slice A1 n q1) (.slice A2 m q2) ⟨tp, nd, cs, rs⟩ :: tBlk gM #[.int .i64 15, .int .i64 a, .int .i64 bb, .int .i64 c0, .int .i64 d, .int .i64 ee, .int .i64 er, .int .i64 p0, .int .i64 p1, .int .i64 p2, .int .i64 p3, .string s, .string t] tMsg :: tBlk gL #[.int .i64 0, .int .i64 tp, .string body] tLt :: l) → w'.cell? ⟨gL, 0, none⟩ = some (.int .i64 0) ∧ w'.cell? ⟨gL, 1, none⟩ = some (.int .i64 tp) ∧ w'.cell? ⟨gM, 0, none⟩ = some (.int .i64 15) ∧ w'.cell? ⟨gM, 3, none⟩ = some (.int .i64 c0) ∧ w'.cell? ⟨b, 0, none⟩ = some (.int .i64 tp) ∧ w'.cell? ⟨b, 2, none⟩ = some (.slice A2 m q2)) := Lib.hid (fun w' h => ⟨(show Blk w' gL #[.int .i64 0, .int .i64 tp, .string body] tLt from h.h3).cell 0, (show Blk w' gL #[.int .i64 0, .int .i64 tp, .string body] tLt from h.h3).cell 1, (show Blk w' gM #[.int .i64 15, .int .i64 a, .int .i64 bb, .int .i64 c0, .int .i64 d, .int .i64 ee, .int .i64 er, .int .i64 p0, .int .i64 p1, .int .i64 p2, .int .i64 p3, .string s, .string t] tMsg from h.h2).cell 0, (show Blk w' gM #[.int .i64 15, .int .i64 a, .int .i64 bb, .int .i64 c0, .int .i64 d, .int .i64 ee, .int .i64 er, .int .i64 p0, .int .i64 p1, .int .i64 p2, .int .i64 p3, .string s, .string t] tMsg from h.h2).cell 3, h.cliCells.1, h.cliCells.2.2.1⟩)
      have HS := Lib.hid HS.out.drew
      refine wp_region_L (fun w' => w'.cell? ⟨gL, 0, none⟩ = some (.int .i64 0) ∧ w'.cell? ⟨gL, 1, none⟩ = some (.int .i64 tp) ∧ w'.cell? ⟨gM, 0, none⟩ = some (.int .i64 15) ∧ w'.cell? ⟨gM, 3, none⟩ = some (.int .i64 c0) ∧ w'.cell? ⟨b, 0, none⟩ = some (.int .i64 tp) ∧ w'.cell? ⟨b, 2, none⟩ = some (.slice A2 m q2)) 42 (by kernel_rfl) (HC.out _ HS.out) (fun hHeld => ?_)
      refine reg_take (i := 0) (d := 13) (v := ?_) [] rfl rfl (by kernel_rfl) (by kernel_rfl) (fun _ _ _ h => h) (Or.inl ⟨by rfl, ?_⟩) (by assumption) ?_
      rotate_left
      · (intro w hSw; (try dsimp only at hSw); go_simp; first | done | with_reducible rfl)
      try simp only [List.setIfInBounds_toArray, List.set_cons_zero, List.set_cons_succ]
      refine reg_take (i := 1) (d := 14) (v := ?_) [] rfl rfl (by kernel_rfl) (by kernel_rfl) (fun _ _ _ h => h) (Or.inl ⟨by rfl, ?_⟩) (by assumption) ?_
      rotate_left
      · (intro w hSw; (try dsimp only at hSw); go_simp; first | done | with_reducible rfl)
      try simp only [List.setIfInBounds_toArray, List.set_cons_zero, List.set_cons_succ]
      refine reg_take (i := 2) (d := 15) (v := ?_) [] rfl rfl (by kernel_rfl) (by kernel_rfl) (fun _ _ _ h => h) (Or.inl ⟨by rfl, ?_⟩) (by assumption) ?_
      rotate_left
      · (intro w hSw; (try dsimp only at hSw); go_simp; first | done | with_reducible rfl)
      try simp only [List.setIfInBounds_toArray, List.set_cons_zero, List.set_cons_succ]
      refine reg_take (i := 3) (d := 16) (v := ?_) [] rfl rfl (by kernel_rfl) (by kernel_rfl) (fun _ _ _ h => h) (Or.inl ⟨by rfl, ?_⟩) (by assumption) ?_
      rotate_left
      · (intro w hSw; (try dsimp only at hSw); go_simp; first | done | with_reducible rfl)
      try simp only [List.setIfInBounds_toArray, List.set_cons_zero, List.set_cons_succ]
      refine reg_take (i := 4) (d := 17) (v := ?_) [] rfl rfl (by kernel_rfl) (by kernel_rfl) (fun _ _ _ h => h) (Or.inl ⟨by rfl, ?_⟩) (by assumption) ?_
      rotate_left
      · (intro w hSw; (try dsimp only at hSw); go_simp; first | done | with_reducible rfl)
      try simp only [List.setIfInBounds_toArray, List.set_cons_zero, List.set_cons_succ]
      refine reg_take (i := 5) (d := 18) (v := ?_) [] rfl rfl (by kernel_rfl) (by kernel_rfl) (fun _ _ _ h => h) (Or.inl ⟨by rfl, ?_⟩) (by assumption) ?_
      rotate_left
      · (intro w hSw; (try dsimp only at hSw); go_simp; first | done | with_reducible rfl)
      try simp only [List.setIfInBounds_toArray, List.set_cons_zero, List.set_cons_succ]
      refine reg_take (i := 6) (d := 19) (v := ?_) [] rfl rfl (by kernel_rfl) (by kernel_rfl) (fun _ _ _ h => h) (Or.inl ⟨by rfl, ?_⟩) (by assumption) ?_
      rotate_left
      · (intro w hSw; (try dsimp only at hSw); go_simp; first | done | with_reducible rfl)
      try simp only [List.setIfInBounds_toArray, List.set_cons_zero, List.set_cons_succ]
      refine reg_take (i := 7) (d := 20) (v := ?_) [] rfl rfl (by kernel_rfl) (by kernel_rfl) (fun _ _ _ h => h) (Or.inl ⟨by rfl, ?_⟩) (by assumption) ?_
      rotate_left
      · (intro w hSw; (try dsimp only at hSw); go_simp; first | done | with_reducible rfl)
      try simp only [List.setIfInBounds_toArray, List.set_cons_zero, List.set_cons_succ]
      refine reg_take (i := 8) (d := 21) (v := ?_) [] rfl rfl (by kernel_rfl) (by kernel_rfl) (fun _ _ _ h => h) (Or.inl ⟨by rfl, ?_⟩) (by assumption) ?_
      rotate_left
      · (intro w hSw; (try dsimp only at hSw); go_simp; first | done | with_reducible rfl)
      try simp only [List.setIfInBounds_toArray, List.set_cons_zero, List.set_cons_succ]
      refine reg_take (i := 9) (d := 22) (v := ?_) [] rfl rfl (by kernel_rfl) (by kernel_rfl) (fun _ _ _ h => h) (Or.inl ⟨by rfl, ?_⟩) (by assumption) ?_
      rotate_left
      · (intro w hSw; (try dsimp only at hSw); go_simp; first | done | with_reducible rfl)
      try simp only [List.setIfInBounds_toArray, List.set_cons_zero, List.set_cons_succ]
      refine reg_take (i := 10) (d := 23) (v := ?_) [] rfl rfl (by kernel_rfl) (by kernel_rfl) (fun _ _ _ h => h) (Or.inl ⟨by rfl, ?_⟩) (by assumption) ?_
      rotate_left
      · (intro w hSw; (try dsimp only at hSw); go_simp; first | done | with_reducible rfl)
      try simp only [List.setIfInBounds_toArray, List.set_cons_zero, List.set_cons_succ]
      refine reg_take (i := 11) (d := 24) (v := ?_) [] rfl rfl (by kernel_rfl) (by kernel_rfl) (fun _ _ _ h => h) (Or.inl ⟨by rfl, ?_⟩) (by assumption) ?_
      rotate_left
      · (intro w hSw; (try dsimp only at hSw); go_simp; first | done | with_reducible rfl)
      try simp only [List.setIfInBounds_toArray, List.set_cons_zero, List.set_cons_succ]
      refine reg_take (i := 12) (d := 25) (v := ?_) [] rfl rfl (by kernel_rfl) (by kernel_rfl) (fun _ _ _ h => h) (Or.inl ⟨by rfl, ?_⟩) (by assumption) ?_
      rotate_left
      · (intro w hSw; (try dsimp only at hSw); go_simp; first | done | with_reducible rfl)
      try simp only [List.setIfInBounds_toArray, List.set_cons_zero, List.set_cons_succ]
      refine reg_take (i := 13) (d := 26) (v := ?_) [] rfl rfl (by kernel_rfl) (by kernel_rfl) (fun _ _ _ h => h) (Or.inl ⟨by rfl, ?_⟩) (by assumption) ?_
      rotate_left
      · (intro w hSw; (try dsimp only at hSw); go_simp; first | done | with_reducible rfl)
      try simp only [List.setIfInBounds_toArray, List.set_cons_zero, List.set_cons_succ]
      refine reg_take (i := 14) (d := 27) (v := ?_) [] rfl rfl (by kernel_rfl) (by kernel_rfl) (fun _ _ _ h => h) (Or.inl ⟨by rfl, ?_⟩) (by assumption) ?_
      rotate_left
      · (intro w hSw; (try dsimp only at hSw); go_simp; first | done | with_reducible rfl)
      try simp only [List.setIfInBounds_toArray, List.set_cons_zero, List.set_cons_succ]
      refine reg_take (i := 15) (d := 28) (v := ?_) [] rfl rfl (by kernel_rfl) (by kernel_rfl) (fun _ _ _ h => h) (Or.inl ⟨by rfl, ?_⟩) (by assumption) ?_
      rotate_left
      · (intro w hSw; (try dsimp only at hSw); go_simp; first | done | with_reducible rfl)
      try simp only [List.setIfInBounds_toArray, List.set_cons_zero, List.set_cons_succ]
      refine reg_take (i := 16) (d := 29) (v := undef) [] rfl rfl (by kernel_rfl) (by kernel_rfl) (fun _ _ _ h => h) (Or.inr ⟨by rfl, rfl⟩) (by assumption) ?_
      try simp only [List.setIfInBounds_toArray, List.set_cons_zero, List.set_cons_succ]
      refine reg_take (i := 17) (d := 30) (v := undef) [] rfl rfl (by kernel_rfl) (by kernel_rfl) (fun _ _ _ h => h) (Or.inr ⟨by rfl, rfl⟩) (by assumption) ?_
      try simp only [List.setIfInBounds_toArray, List.set_cons_zero, List.set_cons_succ]
      refine reg_take (i := 18) (d := 31) (v := undef) [] rfl rfl (by kernel_rfl) (by kernel_rfl) (fun _ _ _ h => h) (Or.inr ⟨by rfl, rfl⟩) (by assumption) ?_
      try simp only [List.setIfInBounds_toArray, List.set_cons_zero, List.set_cons_succ]
      refine reg_take (i := 19) (d := 32) (v := ?_) [] rfl rfl (by kernel_rfl) (by kernel_rfl) (fun _ _ _ h => h) (Or.inl ⟨by rfl, ?_⟩) (by assumption) ?_
      rotate_left
      · (intro w hSw; (try dsimp only at hSw); go_simp; first | done | with_reducible rfl)
      try simp only [List.setIfInBounds_toArray, List.set_cons_zero, List.set_cons_succ]
      refine reg_take (i := 20) (d := 33) (v := ?_) [] rfl rfl (by kernel_rfl) (by kernel_rfl) (fun _ _ _ h => h) (Or.inl ⟨by rfl, ?_⟩) (by assumption) ?_
      rotate_left
      · (intro w hSw; (try dsimp only at hSw); go_simp; first | done | with_reducible rfl)
      try simp only [List.setIfInBounds_toArray, List.set_cons_zero, List.set_cons_succ]
      refine reg_take (i := 21) (d := 34) (v := ?_) [] rfl rfl (by kernel_rfl) (by kernel_rfl) (fun _ _ _ h => h) (Or.inl ⟨by rfl, ?_⟩) (by assumption) ?_
      rotate_left
      · (intro w hSw; (try dsimp only at hSw); go_simp; first | done | with_reducible rfl)
      try simp only [List.setIfInBounds_toArray, List.set_cons_zero, List.set_cons_succ]
      refine reg_take (i := 22) (d := 35) (v := ?_) [] rfl rfl (by kernel_rfl) (by kernel_rfl) (fun _ _ _ h => h) (Or.inl ⟨by rfl, ?_⟩) (by assumption) ?_
      rotate_left
      · (intro w hSw; (try dsimp only at hSw); go_simp; first | done | with_reducible rfl)
      try simp only [List.setIfInBounds_toArray, List.set_cons_zero, List.set_cons_succ]
      refine reg_take (i := 23) (d := 36) (v := ?_) [] rfl rfl (by kernel_rfl) (by kernel_rfl) (fun _ _ _ h => h) (Or.inl ⟨by rfl, ?_⟩) (by assumption) ?_
      rotate_left
      · (intro w hSw; (try dsimp only at hSw); go_simp; first | done | with_reducible rfl)
      try simp only [List.setIfInBounds_toArray, List.set_cons_zero, List.set_cons_succ]
      refine reg_take (i := 24) (d := 37) (v := ?_) [] rfl rfl (by kernel_rfl) (by kernel_rfl) (fun _ _ _ h => h) (Or.inl ⟨by rfl, ?_⟩) (by assumption) ?_
      rotate_left
      · (intro w hSw; (try dsimp only at hSw); go_simp; first | done | with_reducible rfl)
      try simp only [List.setIfInBounds_toArray, List.set_cons_zero, List.set_cons_succ]
      refine reg_take (i := 25) (d := 38) (v := ?_) [] rfl rfl (by kernel_rfl) (by kernel_rfl) (fun _ _ _ h => h) (Or.inl ⟨by rfl, ?_⟩) (by assumption) ?_
      rotate_left
      · (intro w hSw; (try dsimp only at hSw); go_simp; first | done | with_reducible rfl)
      try simp only [List.setIfInBounds_toArray, List.set_cons_zero, List.set_cons_succ]
      refine reg_take (i := 26) (d := 39) (v := ?_) [] rfl rfl (by kernel_rfl) (by kernel_rfl) (fun _ _ _ h => h) (Or.inl ⟨by rfl, ?_⟩) (by assumption) ?_
      rotate_left
      · (intro w hSw; (try dsimp only at hSw); go_simp; first | done | with_reducible rfl)
      try simp only [List.setIfInBounds_toArray, List.set_cons_zero, List.set_cons_succ]
      refine reg_take (i := 27) (d := 40) (v := ?_) [] rfl rfl (by kernel_rfl) (by kernel_rfl) (fun _ _ _ h => h) (Or.inl ⟨by rfl, ?_⟩) (by assumption) ?_
      rotate_left
      · (intro w hSw; (try dsimp only at hSw); go_simp; first | done | with_reducible rfl)
      try simp only [List.setIfInBounds_toArray, List.set_cons_zero, List.set_cons_succ]
      refine wpAnyL_ready (rs := [28]) (by kernel_rfl) rfl ?_
      refine (AllL.cons rfl (fun K hK => ?_) AllL.nil)
      go_simp
      go_at_call 21
      refine (rleft_sep HS.out HGD.out).mono ?_
      simp only [HN.out.1, HN.out.2]
      rintro e5 w5 ⟨rfl, hS5⟩
      have HS := Lib.hid hS5
      clear hS5
      go_simp
      refine hK.out _ _ (HC.out _ HS.out) (fun hHeld => ?_)
      try simp only [List.setIfInBounds_toArray, List.set_cons_zero, List.set_cons_succ]
      refine reg_take (i := 29) (d := 42) (v := ?_) [] rfl rfl (by kernel_rfl) (by kernel_rfl) (fun _ _ _ h => h) (Or.inl ⟨by rfl, ?_⟩) (by assumption) ?_
      rotate_left
      · (intro w hSw; (try dsimp only at hSw); go_simp; first | done | with_reducible rfl)
      try simp only [List.setIfInBounds_toArray, List.set_cons_zero, List.set_cons_succ]
      refine reg_take (i := 30) (d := 43) (v := ?_) [] rfl rfl (by kernel_rfl) (by kernel_rfl) (fun _ _ _ h => h) (Or.inl ⟨by rfl, ?_⟩) (by assumption) ?_
      rotate_left
      · (intro w hSw; (try dsimp only at hSw); go_simp; first | done | with_reducible rfl)
      try simp only [List.setIfInBounds_toArray, List.set_cons_zero, List.set_cons_succ]
      refine reg_take (i := 31) (d := 44) (v := ?_) [] rfl rfl (by kernel_rfl) (by kernel_rfl) (fun _ _ _ h => h) (Or.inl ⟨by rfl, ?_⟩) (by assumption) ?_
      rotate_left
      · (intro w hSw; (try dsimp only at hSw); go_simp; first | done | with_reducible rfl)
      try simp only [List.setIfInBounds_toArray, List.set_cons_zero, List.set_cons_succ]
      refine reg_take (i := 32) (d := 45) (v := ?_) [] rfl rfl (by kernel_rfl) (by kernel_rfl) (fun _ _ _ h => h) (Or.inl ⟨by rfl, ?_⟩) (by assumption) ?_
      rotate_left
      · (intro w hSw; (try dsimp only at hSw); go_simp; first | done | with_reducible rfl)
      try simp only [List.setIfInBounds_toArray, List.set_cons_zero, List.set_cons_succ]
      refine reg_take (i := 33) (d := 46) (v := ?_) [] rfl rfl (by kernel_rfl) (by kernel_rfl) (fun _ _ _ h => h) (Or.inl ⟨by rfl, ?_⟩) (by assumption) ?_
      rotate_left
      · (intro w hSw; (try dsimp only at hSw); go_simp; first | done | with_reducible rfl)
      try simp only [List.setIfInBounds_toArray, List.set_cons_zero, List.set_cons_succ]
      refine reg_take (i := 34) (d := 47) (v := ?_) [] rfl rfl (by kernel_rfl) (by kernel_rfl) (fun _ _ _ h => h) (Or.inl ⟨by rfl, ?_⟩) (by assumption) ?_
      rotate_left
      · (intro w hSw; (try dsimp only at hSw); go_simp; first | done | with_reducible rfl)
      try simp only [List.setIfInBounds_toArray, List.set_cons_zero, List.set_cons_succ]
      refine reg_take (i := 35) (d := 48) (v := ?_) [] rfl rfl (by kernel_rfl) (by kernel_rfl) (fun _ _ _ h => h) (Or.inl ⟨by rfl, ?_⟩) (by assumption) ?_
      rotate_left
      · (intro w hSw; (try dsimp only at hSw); go_simp; first | done | with_reducible rfl)
      try simp only [List.setIfInBounds_toArray, List.set_cons_zero, List.set_cons_succ]
      refine reg_take (i := 36) (d := 49) (v := ?_) [] rfl rfl (by kernel_rfl) (by kernel_rfl) (fun _ _ _ h => h) (Or.inl ⟨by rfl, ?_⟩) (by assumption) ?_
      rotate_left
      · (intro w hSw; (try dsimp only at hSw); go_simp; first | done | with_reducible rfl)
      try simp only [List.setIfInBounds_toArray, List.set_cons_zero, List.set_cons_succ]
      refine reg_take (i := 37) (d := 50) (v := ?_) [] rfl rfl (by kernel_rfl) (by kernel_rfl) (fun _ _ _ h => h) (Or.inl ⟨by rfl, ?_⟩) (by assumption) ?_
      rotate_left
      · (intro w hSw; (try dsimp only at hSw); go_simp; first | done | with_reducible rfl)
      try simp only [List.setIfInBounds_toArray, List.set_cons_zero, List.set_cons_succ]
      refine reg_take (i := 38) (d := 51) (v := ?_) [] rfl rfl (by kernel_rfl) (by kernel_rfl) (fun _ _ _ h => h) (Or.inl ⟨by rfl, ?_⟩) (by assumption) ?_
      rotate_left
      · (intro w hSw; (try dsimp only at hSw); go_simp; first | done | with_reducible rfl)
      try simp only [List.setIfInBounds_toArray, List.set_cons_zero, List.set_cons_succ]
      refine reg_take (i := 39) (d := 52) (v := ?_) [] rfl rfl (by kernel_rfl) (by kernel_rfl) (fun _ _ _ h => h) (Or.inl ⟨by rfl, ?_⟩) (by assumption) ?_
      rotate_left
      · (intro w hSw; (try dsimp only at hSw); go_simp; first | done | with_reducible rfl)
      try simp only [List.setIfInBounds_toArray, List.set_cons_zero, List.set_cons_succ]
      refine reg_take (i := 40) (d := 53) (v := ?_) [] rfl rfl (by kernel_rfl) (by kernel_rfl) (fun _ _ _ h => h) (Or.inl ⟨by rfl, ?_⟩) (by assumption) ?_
      rotate_left
      · (intro w hSw; (try dsimp only at hSw); go_simp; first | done | with_reducible rfl)
      try simp only [List.setIfInBounds_toArray, List.set_cons_zero, List.set_cons_succ]
      refine reg_take (i := 41) (d := 54) (v := ?_) [] rfl rfl (by kernel_rfl) (by kernel_rfl) (fun _ _ _ h => h) (Or.inl ⟨by rfl, ?_⟩) (by assumption) ?_
      rotate_left
      · (intro w hSw; (try dsimp only at hSw); go_simp; first | done | with_reducible rfl)
      try simp only [List.setIfInBounds_toArray, List.set_cons_zero, List.set_cons_succ]
      refine wpAnyL_done (by kernel_rfl) ?_ _
      go_wp2_with fail
      go_ret
      exact ⟨ret_bool HF.out.2.symm, _, by rw [HF.out.1]; exact HS.out.d3.d2⟩
    subst c6
    have HH := Lib.hid (show (Cst.mk tp nd cs rs).hitsX ⟨0, tp, body⟩ 0 ⟨15, a, bb, (m : Int) + 1, d, ee, er, p0, p1, p2, p3, s, t⟩ from ⟨rfl, rfl, (.inl rfl), rfl, by simp only; rw [HN.out.1, HN.out.2]; exact c5, by simp only; rw [HN.out.2]⟩)
    have HC : Hid (∀ w', Sep w w' (tCli tRc b (.slice A1 n q1) (.slice A2 m q2) ⟨tp, nd, cs, rs⟩ :: tBlk gM #[.int .i64 15, .int .i64 a, .int .i64 bb, .int .i64 ((m : Int) + 1), .int .i64 d, .int .i64 ee, .int .i64 er, .int .i64 p0, .int .i64 p1, .int .i64 p2, .int .i64 p3, .string s, .string t] tMsg :: tBlk gL #[.int .i64 0, .int .i64 tp, .string body] tLt :: l) → w'.cell? ⟨gL, 0, none⟩ = some (.int .i64 0) ∧ w'.cell? ⟨gL, 1, none⟩ = some (.int .i64 tp) ∧ w'.cell? ⟨gM, 0, none⟩ = some (.int .i64 15) ∧ w'.cell? ⟨gM, 3, none⟩ = some (.int .i64 ((m : Int) + 1)) ∧ w'.cell? ⟨b, 0, none⟩ = some (.int .i64 tp) ∧ w'.cell? ⟨b, 2, none⟩ = some (.slice A2 m q2)) := Lib.hid (fun w' h => ⟨(show Blk w' gL #[.int .i64 0, .int .i64 tp, .string body] tLt from h.h3).cell 0, (show Blk w' gL #[.int .i64 0, .int .i64 tp, .string body] tLt from h.h3).cell 1, (show Blk w' gM #[.int .i64 15, .int .i64 a, .int .i64 bb, .int .i64 ((m : Int) + 1), .int .i64 d, .int .i64 ee, .int .i64 er, .int .i64 p0, .int .i64 p1, .int .i64 p2, .int .i64 p3, .string s, .string t] tMsg from h.h2).cell 0, (show Blk w' gM #[.int .i64 15, .int .i64 a, .int .i64 bb, .int .i64 ((m : Int) + 1), .int .i64 d, .int .i64 ee, .int .i64 er, .int .i64 p0, .int .i64 p1, .int .i64 p2, .int .i64 p3, .string s, .string t] tMsg from h.h2).cell 3, h.cliCells.1, h.cliCells.2.2.1⟩)
    have HS := Lib.hid HS.out.drew
    refine wp_region_L (fun w' => w'.cell? ⟨gL, 0, none⟩ = some (.int .i64 0) ∧ w'.cell? ⟨gL, 1, none⟩ = some (.int .i64 tp) ∧ w'.cell? ⟨gM, 0, none⟩ = some (.int .i64 15) ∧ w'.cell? ⟨gM, 3, none⟩ = some (.int .i64 ((m : Int) + 1)) ∧ w'.cell? ⟨b, 0, none⟩ = some (.int .i64 tp) ∧ w'.cell? ⟨b, 2, none⟩ = some (.slice A2 m q2)) 42 (by kernel_rfl) (HC.out _ HS.out) (fun hHeld => ?_)
    refine reg_take (i := 0) (d := 13) (v := ?_) [] rfl rfl (by kernel_rfl) (by kernel_rfl) (fun _ _ _ h => h) (Or.inl ⟨by rfl, ?_⟩) (by assumption) ?_
    rotate_left
    · (intro w hSw; (try dsimp only at hSw); go_simp; first | done | with_reducible rfl)
    try simp only [List.setIfInBounds_toArray, List.set_cons_zero, List.set_cons_succ]
    refine reg_take (i := 1) (d := 14) (v := ?_) [] rfl rfl (by kernel_rfl) (by kernel_rfl) (fun _ _ _ h => h) (Or.inl ⟨by rfl, ?_⟩) (by assumption) ?_
    rotate_left
    · (intro w hSw; (try dsimp only at hSw); go_simp; first | done | with_reducible rfl)
    try simp only [List.setIfInBounds_toArray, List.set_cons_zero, List.set_cons_succ]
    refine reg_take (i := 2) (d := 15) (v := ?_) [] rfl rfl (by kernel_rfl) (by kernel_rfl) (fun _ _ _ h => h) (Or.inl ⟨by rfl, ?_⟩) (by assumption) ?_
    rotate_left
    · (intro w hSw; (try dsimp only at hSw); go_simp; first | done | with_reducible rfl)
    try simp only [List.setIfInBounds_toArray, List.set_cons_zero, List.set_cons_succ]
    refine reg_take (i := 3) (d := 16) (v := ?_) [] rfl rfl (by kernel_rfl) (by kernel_rfl) (fun _ _ _ h => h) (Or.inl ⟨by rfl, ?_⟩) (by assumption) ?_
    rotate_left
    · (intro w hSw; (try dsimp only at hSw); go_simp; first | done | with_reducible rfl)
    try simp only [List.setIfInBounds_toArray, List.set_cons_zero, List.set_cons_succ]
    refine reg_take (i := 4) (d := 17) (v := ?_) [] rfl rfl (by kernel_rfl) (by kernel_rfl) (fun _ _ _ h => h) (Or.inl ⟨by rfl, ?_⟩) (by assumption) ?_
    rotate_left
    · (intro w hSw; (try dsimp only at hSw); go_simp; first | done | with_reducible rfl)
    try simp only [List.setIfInBounds_toArray, List.set_cons_zero, List.set_cons_succ]
    refine reg_take (i := 5) (d := 18) (v := ?_) [] rfl rfl (by kernel_rfl) (by kernel_rfl) (fun _ _ _ h => h) (Or.inl ⟨by rfl, ?_⟩) (by assumption) ?_
    rotate_left
    · (intro w hSw; (try dsimp only at hSw); go_simp; first | done | with_reducible rfl)
    try simp only [List.setIfInBounds_toArray, List.set_cons_zero, List.set_cons_succ]
    refine reg_take (i := 6) (d := 19) (v := ?_) [] rfl rfl (by kernel_rfl) (by kernel_rfl) (fun _ _ _ h => h) (Or.inl ⟨by rfl, ?_⟩) (by assumption) ?_
    rotate_left
    · (intro w hSw; (try dsimp only at hSw); go_simp; first | done | with_reducible rfl)
    try simp only [List.setIfInBounds_toArray, List.set_cons_zero, List.set_cons_succ]
    refine reg_take (i := 7) (d := 20) (v := ?_) [] rfl rfl (by kernel_rfl) (by kernel_rfl) (fun _ _ _ h => h) (Or.inl ⟨by rfl, ?_⟩) (by assumption) ?_
    rotate_left
    · (intro w hSw; (try dsimp only at hSw); go_simp; first | done | with_reducible rfl)
    try simp only [List.setIfInBounds_toArray, List.set_cons_zero, List.set_cons_succ]
    refine reg_take (i := 8) (d := 21) (v := ?_) [] rfl rfl (by kernel_rfl) (by kernel_rfl) (fun _ _ _ h => h) (Or.inl ⟨by rfl, ?_⟩) (by assumption) ?_
    rotate_left
    · (intro w hSw; (try dsimp only at hSw); go_simp; first | done | with_reducible rfl)
    try simp only [List.setIfInBounds_toArray, List.set_cons_zero, List.set_cons_succ]
    refine reg_take (i := 9) (d := 22) (v := ?_) [] rfl rfl (by kernel_rfl) (by kernel_rfl) (fun _ _ _ h => h) (Or.inl ⟨by rfl, ?_⟩) (by assumption) ?_
    rotate_left
    · (intro w hSw; (try dsimp only at hSw); go_simp; first | done | with_reducible rfl)
    try simp only [List.setIfInBounds_toArray, List.set_cons_zero, List.set_cons_succ]
    refine reg_take (i := 10) (d := 23) (v := ?_) [] rfl rfl (by kernel_rfl) (by kernel_rfl) (fun _ _ _ h => h) (Or.inl ⟨by rfl, ?_⟩) (by assumption) ?_
    rotate_left
    · (intro w hSw; (try dsimp only at hSw); go_simp; first | done | with_reducible rfl)
    try simp only [List.setIfInBounds_toArray, List.set_cons_zero, List.set_cons_succ]
    refine reg_take (i := 11) (d := 24) (v := ?_) [] rfl rfl (by kernel_rfl) (by kernel_rfl) (fun _ _ _ h => h) (Or.inl ⟨by rfl, ?_⟩) (by assumption) ?_
    rotate_left
    · (intro w hSw; (try dsimp only at hSw); go_simp; first | done | with_reducible rfl)
    try simp only [List.setIfInBounds_toArray, List.set_cons_zero, List.set_cons_succ]
    refine reg_take (i := 12) (d := 25) (v := ?_) [] rfl rfl (by kernel_rfl) (by kernel_rfl) (fun _ _ _ h => h) (Or.inl ⟨by rfl, ?_⟩) (by assumption) ?_
    rotate_left
    · (intro w hSw; (try dsimp only at hSw); go_simp; first | done | with_reducible rfl)
    try simp only [List.setIfInBounds_toArray, List.set_cons_zero, List.set_cons_succ]
    refine reg_take (i := 13) (d := 26) (v := ?_) [] rfl rfl (by kernel_rfl) (by kernel_rfl) (fun _ _ _ h => h) (Or.inl ⟨by rfl, ?_⟩) (by assumption) ?_
    rotate_left
    · (intro w hSw; (try dsimp only at hSw); go_simp; first | done | with_reducible rfl)
    try simp only [List.setIfInBounds_toArray, List.set_cons_zero, List.set_cons_succ]
    refine reg_take (i := 14) (d := 27) (v := ?_) [] rfl rfl (by kernel_rfl) (by kernel_rfl) (fun _ _ _ h => h) (Or.inl ⟨by rfl, ?_⟩) (by assumption) ?_
    rotate_left
    · (intro w hSw; (try dsimp only at hSw); go_simp; first | done | with_reducible rfl)
    try simp only [List.setIfInBounds_toArray, List.set_cons_zero, List.set_cons_succ]
    refine reg_take (i := 15) (d := 28) (v := ?_) [] rfl rfl (by kernel_rfl) (by kernel_rfl) (fun _ _ _ h => h) (Or.inl ⟨by rfl, ?_⟩) (by assumption) ?_
    rotate_left
    · (intro w hSw; (try dsimp only at hSw); go_simp; first | done | with_reducible rfl)
    try simp only [List.setIfInBounds_toArray, List.set_cons_zero, List.set_cons_succ]
    refine reg_take (i := 16) (d := 29) (v := undef) [] rfl rfl (by kernel_rfl) (by kernel_rfl) (fun _ _ _ h => h) (Or.inr ⟨by rfl, rfl⟩) (by assumption) ?_
    try simp only [List.setIfInBounds_toArray, List.set_cons_zero, List.set_cons_succ]
    refine reg_take (i := 17) (d := 30) (v := undef) [] rfl rfl (by kernel_rfl) (by kernel_rfl) (fun _ _ _ h => h) (Or.inr ⟨by rfl, rfl⟩) (by assumption) ?_
    try simp only [List.setIfInBounds_toArray, List.set_cons_zero, List.set_cons_succ]
    refine reg_take (i := 18) (d := 31) (v := undef) [] rfl rfl (by kernel_rfl) (by kernel_rfl) (fun _ _ _ h => h) (Or.inr ⟨by rfl, rfl⟩) (by assumption) ?_
    try simp only [List.setIfInBounds_toArray, List.set_cons_zero, List.set_cons_succ]
    refine reg_take (i := 19) (d := 32) (v := ?_) [] rfl rfl (by kernel_rfl) (by kernel_rfl) (fun _ _ _ h => h) (Or.inl ⟨by rfl, ?_⟩) (by assumption) ?_
    rotate_left
    · (intro w hSw; (try dsimp only at hSw); go_simp; first | done | with_reducible rfl)
    try simp only [List.setIfInBounds_toArray, List.set_cons_zero, List.set_cons_succ]
    refine reg_take (i := 20) (d := 33) (v := ?_) [] rfl rfl (by kernel_rfl) (by kernel_rfl) (fun _ _ _ h => h) (Or.inl ⟨by rfl, ?_⟩) (by assumption) ?_
    rotate_left
    · (intro w hSw; (try dsimp only at hSw); go_simp; first | done | with_reducible rfl)
    try simp only [List.setIfInBounds_toArray, List.set_cons_zero, List.set_cons_succ]
    refine reg_take (i := 21) (d := 34) (v := ?_) [] rfl rfl (by kernel_rfl) (by kernel_rfl) (fun _ _ _ h => h) (Or.inl ⟨by rfl, ?_⟩) (by assumption) ?_
    rotate_left
    · (intro w hSw; (try dsimp only at hSw); go_simp; first | done | with_reducible rfl)
    try simp only [List.setIfInBounds_toArray, List.set_cons_zero, List.set_cons_succ]
    refine reg_take (i := 22) (d := 35) (v := ?_) [] rfl rfl (by kernel_rfl) (by kernel_rfl) (fun _ _ _ h => h) (Or.inl ⟨by rfl, ?_⟩) (by assumption) ?_
    rotate_left
    · (intro w hSw; (try dsimp only at hSw); go_simp; first | done | with_reducible rfl)
    try simp only [List.setIfInBounds_toArray, List.set_cons_zero, List.set_cons_succ]
    refine reg_take (i := 23) (d := 36) (v := ?_) [] rfl rfl (by kernel_rfl) (by kernel_rfl) (fun _ _ _ h => h) (Or.inl ⟨by rfl, ?_⟩) (by assumption) ?_
    rotate_left
    · (intro w hSw; (try dsimp only at hSw); go_simp; first | done | with_reducible rfl)
    try simp only [List.setIfInBounds_toArray, List.set_cons_zero, List.set_cons_succ]
    refine reg_take (i := 24) (d := 37) (v := ?_) [] rfl rfl (by kernel_rfl) (by kernel_rfl) (fun _ _ _ h => h) (Or.inl ⟨by rfl, ?_⟩) (by assumption) ?_
    rotate_left
    · (intro w hSw; (try dsimp only at hSw); go_simp; first | done | with_reducible rfl)
    try simp only [List.setIfInBounds_toArray, List.set_cons_zero, List.set_cons_succ]
    refine reg_take (i := 25) (d := 38) (v := ?_) [] rfl rfl (by kernel_rfl) (by kernel_rfl) (fun _ _ _ h => h) (Or.inl ⟨by rfl, ?_⟩) (by assumption) ?_
    rotate_left
    · (intro w hSw; (try dsimp only at hSw); go_simp; first | done | with_reducible rfl)
    try simp only [List.setIfInBounds_toArray, List.set_cons_zero, List.set_cons_succ]
    refine reg_take (i := 26) (d := 39) (v := ?_) [] rfl rfl (by kernel_rfl) (by kernel_rfl) (fun _ _ _ h => h) (Or.inl ⟨by rfl, ?_⟩) (by assumption) ?_
    rotate_left
    · (intro w hSw; (try dsimp only at hSw); go_simp; first | done | with_reducible rfl)
    try simp only [List.setIfInBounds_toArray, List.set_cons_zero, List.set_cons_succ]
    refine reg_take (i := 27) (d := 40) (v := ?_) [] rfl rfl (by kernel_rfl) (by kernel_rfl) (fun _ _ _ h => h) (Or.inl ⟨by rfl, ?_⟩) (by assumption) ?_
    rotate_left
    · (intro w hSw; (try dsimp only at hSw); go_simp; first | done | with_reducible rfl)
    try simp only [List.setIfInBounds_toArray, List.set_cons_zero, List.set_cons_succ]
    refine wpAnyL_ready (rs := [28]) (by kernel_rfl) rfl ?_
    refine (AllL.cons rfl (fun K hK => ?_) AllL.nil)
    go_simp
    go_at_call 21
    refine (rleft_sep HS.out HGD.out).mono ?_
    simp only [HN.out.1, HN.out.2]
    rintro e5 w5 ⟨rfl, hS5⟩
    have HS := Lib.hid hS5
    clear hS5
    go_simp
    refine hK.out _ _ (HC.out _ HS.out) (fun hHeld => ?_)
    try simp only [List.setIfInBounds_toArray, List.set_cons_zero, List.set_cons_succ]
    refine reg_take (i := 29) (d := 42) (v := ?_) [] rfl rfl (by kernel_rfl) (by kernel_rfl) (fun _ _ _ h => h) (Or.inl ⟨by rfl, ?_⟩) (by assumption) ?_
    rotate_left
    · (intro w hSw; (try dsimp only at hSw); go_simp; first | done | with_reducible rfl)
    try simp only [List.setIfInBounds_toArray, List.set_cons_zero, List.set_cons_succ]
    refine reg_take (i := 30) (d := 43) (v := ?_) [] rfl rfl (by kernel_rfl) (by kernel_rfl) (fun _ _ _ h => h) (Or.inl ⟨by rfl, ?_⟩) (by assumption) ?_
    rotate_left
    · (intro w hSw; (try dsimp only at hSw); go_simp; first | done | with_reducible rfl)
    try simp only [List.setIfInBounds_toArray, List.set_cons_zero, List.set_cons_succ]
    refine reg_take (i := 31) (d := 44) (v := ?_) [] rfl rfl (by kernel_rfl) (by kernel_rfl) (fun _ _ _ h => h) (Or.inl ⟨by rfl, ?_⟩) (by assumption) ?_
    rotate_left
    · (intro w hSw; (try dsimp only at hSw); go_simp; first | done | with_reducible rfl)
    try simp only [List.setIfInBounds_toArray, List.set_cons_zero, List.set_cons_succ]
    refine reg_take (i := 32) (d := 45) (v := ?_) [] rfl rfl (by kernel_rfl) (by kernel_rfl) (fun _ _ _ h => h) (Or.inl ⟨by rfl, ?_⟩) (by assumption) ?_
    rotate_left
    · (intro w hSw; (try dsimp only at hSw); go_simp; first | done | with_reducible rfl)
    try simp only [List.setIfInBounds_toArray, List.set_cons_zero, List.set_cons_succ]
    refine reg_take (i := 33) (d := 46) (v := ?_) [] rfl rfl (by kernel_rfl) (by kernel_rfl) (fun _ _ _ h => h) (Or.inl ⟨by rfl, ?_⟩) (by assumption) ?_
    rotate_left
    · (intro w hSw; (try dsimp only at hSw); go_simp; first | done | with_reducible rfl)
    try simp only [List.setIfInBounds_toArray, List.set_cons_zero, List.set_cons_succ]
    refine reg_take (i := 34) (d := 47) (v := ?_) [] rfl rfl (by kernel_rfl) (by kernel_rfl) (fun _ _ _ h => h) (Or.inl ⟨by rfl, ?_⟩) (by assumption) ?_
    rotate_left
    · (intro w hSw; (try dsimp only at hSw); go_simp; first | done | with_reducible rfl)
    try simp only [List.setIfInBounds_toArray, List.set_cons_zero, List.set_cons_succ]
    refine reg_take (i := 35) (d := 48) (v := ?_) [] rfl rfl (by kernel_rfl) (by kernel_rfl) (fun _ _ _ h => h) (Or.inl ⟨by rfl, ?_⟩) (by assumption) ?_
    rotate_left
    · (intro w hSw; (try dsimp only at hSw); go_simp; first | done | with_reducible rfl)
    try simp only [List.setIfInBounds_toArray, List.set_cons_zero, List.set_cons_succ]
    refine reg_take (i := 36) (d := 49) (v := ?_) [] rfl rfl (by kernel_rfl) (by kernel_rfl) (fun _ _ _ h => h) (Or.inl ⟨by rfl, ?_⟩) (by assumption) ?_
    rotate_left
    · (intro w hSw; (try dsimp only at hSw); go_simp; first | done | with_reducible rfl)
    try simp only [List.setIfInBounds_toArray, List.set_cons_zero, List.set_cons_succ]
    refine reg_take (i := 37) (d := 50) (v := ?_) [] rfl rfl (by kernel_rfl) (by kernel_rfl) (fun _ _ _ h => h) (Or.inl ⟨by rfl, ?_⟩) (by assumption) ?_
    rotate_left
    · (intro w hSw; (try dsimp only at hSw); go_simp; first | done | with_reducible rfl)
    try simp only [List.setIfInBounds_toArray, List.set_cons_zero, List.set_cons_succ]
    refine reg_take (i := 38) (d := 51) (v := ?_) [] rfl rfl (by kernel_rfl) (by kernel_rfl) (fun _ _ _ h => h) (Or.inl ⟨by rfl, ?_⟩) (by assumption) ?_
    rotate_left
    · (intro w hSw; (try dsimp only at hSw); go_simp; first | done | with_reducible rfl)
    try simp only [List.setIfInBounds_toArray, List.set_cons_zero, List.set_cons_succ]
    refine reg_take (i := 39) (d := 52) (v := ?_) [] rfl rfl (by kernel_rfl) (by kernel_rfl) (fun _ _ _ h => h) (Or.inl ⟨by rfl, ?_⟩) (by assumption) ?_
    rotate_left
    · (intro w hSw; (try dsimp only at hSw); go_simp; first | done | with_reducible rfl)
    try simp only [List.setIfInBounds_toArray, List.set_cons_zero, List.set_cons_succ]
    refine reg_take (i := 40) (d := 53) (v := ?_) [] rfl rfl (by kernel_rfl) (by kernel_rfl) (fun _ _ _ h => h) (Or.inl ⟨by rfl, ?_⟩) (by assumption) ?_
    rotate_left
    · (intro w hSw; (try dsimp only at hSw); go_simp; first | done | with_reducible rfl)
    try simp only [List.setIfInBounds_toArray, List.set_cons_zero, List.set_cons_succ]
    refine reg_take (i := 41) (d := 54) (v := ?_) [] rfl rfl (by kernel_rfl) (by kernel_rfl) (fun _ _ _ h => h) (Or.inl ⟨by rfl, ?_⟩) (by assumption) ?_
    rotate_left
    · (intro w hSw; (try dsimp only at hSw); go_simp; first | done | with_reducible rfl)
    try simp only [List.setIfInBounds_toArray, List.set_cons_zero, List.set_cons_succ]
    refine wpAnyL_done (by kernel_rfl) ?_ _
    clear f5 f5'
    by_cases d1 : er = 20
    · subst d1
      have HC2 : Hid (∀ w', Sep w w' (tCli tRc b (.slice A1 n q1) (.slice A2 m q2) ⟨tp, nd, cs, rs⟩ :: tBlk gM #[.int .i64 15, .int .i64 a, .int .i64 bb, .int .i64 ((m : Int) + 1), .int .i64 d, .int .i64 ee, .int .i64 20, .int .i64 p0, .int .i64 p1, .int .i64 p2, .int .i64 p3, .string s, .string t] tMsg :: tBlk gL #[.int .i64 0, .int .i64 tp, .string body] tLt :: l) → w'.cell? ⟨gL, 0, none⟩ = some (.int .i64 0) ∧ w'.cell? ⟨gM, 6, none⟩ = some (.int .i64 20) ∧ w'.cell? ⟨gM, 11, none⟩ = some (.string s) ∧ w'.cell? ⟨b, 1, none⟩ = some (.slice A1 n q1) ∧ w'.cell? ⟨b, 2, none⟩ = some (.slice A2 m q2) ∧ w'.cell? ⟨b, 3, none⟩ = some (.int .i64 nd)) := Lib.hid (fun w' h => ⟨(show Blk w' gL #[.int .i64 0, .int .i64 tp, .string body] tLt from h.h3).cell 0, (show Blk w' gM #[.int .i64 15, .int .i64 a, .int .i64 bb, .int .i64 ((m : Int) + 1), .int .i64 d, .int .i64 ee, .int .i64 20, .int .i64 p0, .int .i64 p1, .int .i64 p2, .int .i64 p3, .string s, .string t] tMsg from h.h2).cell 6, (show Blk w' gM #[.int .i64 15, .int .i64 a, .int .i64 bb, .int .i64 ((m : Int) + 1), .int .i64 d, .int .i64 ee, .int .i64 20, .int .i64 p0, .int .i64 p1, .int .i64 p2, .int .i64 p3, .string s, .string t] tMsg from h.h2).cell 11, h.cliCells.2.1, h.cliCells.2.2.1, h.cliCells.2.2.2⟩)
      obtain ⟨x0, x6, x11, x1, x2, x3⟩ := HC2.out _ HS.out
      by_cases d2 : 0 = nd
      · subst d2
        have HF := Lib.hid (ctake_20a (c := ⟨tp, 0, cs, rs⟩) (x := ⟨0, tp, body⟩) (e0 := 0) (m := ⟨15, a, bb, (m : Int) + 1, d, ee, 20, p0, p1, p2, p3, s, t⟩) HH.out rfl rfl)
        go_upto_region 4 with fail
        have HS := Lib.hid HS.out.drew
        refine wp_region_L (fun w' => w'.cell? ⟨gL, 0, none⟩ = some (.int .i64 0) ∧ w'.cell? ⟨gM, 6, none⟩ = some (.int .i64 20) ∧ w'.cell? ⟨gM, 11, none⟩ = some (.string s) ∧ w'.cell? ⟨b, 1, none⟩ = some (.slice A1 n q1) ∧ w'.cell? ⟨b, 2, none⟩ = some (.slice A2 m q2) ∧ w'.cell? ⟨b, 3, none⟩ = some (.int .i64 0)) 12 (by kernel_rfl) (HC2.out _ HS.out) (fun hHeld => ?_)
        refine reg_take (i := 0) (d := 55) (v := ?_) [] rfl rfl (by kernel_rfl) (by kernel_rfl) (fun _ _ _ h => h) (Or.inl ⟨by rfl, ?_⟩) (by assumption) ?_
        rotate_left
        · (intro w hSw; (try dsimp only at hSw); go_simp; first | done | with_reducible rfl)
        try simp only [List.setIfInBounds_toArray, List.set_cons_zero, List.set_cons_succ]
        refine reg_take (i := 1) (d := 56) (v := ?_) [] rfl rfl (by kernel_rfl) (by kernel_rfl) (fun _ _ _ h => h) (Or.inl ⟨by rfl, ?_⟩) (by assumption) ?_
        rotate_left
        · (intro w hSw; (try dsimp only at hSw); go_simp; first | done | with_reducible rfl)
        try simp only [List.setIfInBounds_toArray, List.set_cons_zero, List.set_cons_succ]
        refine reg_take (i := 2) (d := 57) (v := ?_) [] rfl rfl (by kernel_rfl) (by kernel_rfl) (fun _ _ _ h => h) (Or.inl ⟨by rfl, ?_⟩) (by assumption) ?_
        rotate_left
        · (intro w hSw; (try dsimp only at hSw); go_simp; first | done | with_reducible rfl)
        try simp only [List.setIfInBounds_toArray, List.set_cons_zero, List.set_cons_succ]
        refine reg_take (i := 3) (d := 58) (v := ?_) [] rfl rfl (by kernel_rfl) (by kernel_rfl) (fun _ _ _ h => h) (Or.inl ⟨by rfl, ?_⟩) (by assumption) ?_
        rotate_left
        · (intro w hSw; (try dsimp only at hSw); go_simp; first | done | with_reducible rfl)
        try simp only [List.setIfInBounds_toArray, List.set_cons_zero, List.set_cons_succ]
        refine reg_take (i := 4) (d := 59) (v := ?_) [] rfl rfl (by kernel_rfl) (by kernel_rfl) (fun _ _ _ h => h) (Or.inl ⟨by rfl, ?_⟩) (by assumption) ?_
        rotate_left
        · (intro w hSw; (try dsimp only at hSw); go_simp; first | done | with_reducible rfl)
        try simp only [List.setIfInBounds_toArray, List.set_cons_zero, List.set_cons_succ]
        refine reg_take (i := 5) (d := 60) (v := ?_) [] rfl rfl (by kernel_rfl) (by kernel_rfl) (fun _ _ _ h => h) (Or.inl ⟨by rfl, ?_⟩) (by assumption) ?_
        rotate_left
        · (intro w hSw; (try dsimp only at hSw); go_simp; first | done | with_reducible rfl)
        try simp only [List.setIfInBounds_toArray, List.set_cons_zero, List.set_cons_succ]
        refine reg_take (i := 6) (d := 61) (v := ?_) [] rfl rfl (by kernel_rfl) (by kernel_rfl) (fun _ _ _ h => h) (Or.inl ⟨by rfl, ?_⟩) (by assumption) ?_
        rotate_left
        · (intro w hSw; (try dsimp only at hSw); go_simp; first | done | with_reducible rfl)
        try simp only [List.setIfInBounds_toArray, List.set_cons_zero, List.set_cons_succ]
        refine reg_take (i := 7) (d := 62) (v := ?_) [] rfl rfl (by kernel_rfl) (by kernel_rfl) (fun _ _ _ h => h) (Or.inl ⟨by rfl, ?_⟩) (by assumption) ?_
        rotate_left
        · (intro w hSw; (try dsimp only at hSw); go_simp; first | done | with_reducible rfl)
        try simp only [List.setIfInBounds_toArray, List.set_cons_zero, List.set_cons_succ]
        refine reg_take (i := 8) (d := 63) (v := ?_) [] rfl rfl (by kernel_rfl) (by kernel_rfl) (fun _ _ _ h => h) (Or.inl ⟨by rfl, ?_⟩) (by assumption) ?_
        rotate_left
        · (intro w hSw; (try dsimp only at hSw); go_simp; first | done | with_reducible rfl)
        try simp only [List.setIfInBounds_toArray, List.set_cons_zero, List.set_cons_succ]
        refine reg_take (i := 9) (d := 64) (v := ?_) [] rfl rfl (by kernel_rfl) (by kernel_rfl) (fun _ _ _ h => h) (Or.inl ⟨by rfl, ?_⟩) (by assumption) ?_
        rotate_left
        · (intro w hSw; (try dsimp only at hSw); go_simp; first | done | with_reducible rfl)
        try simp only [List.setIfInBounds_toArray, List.set_cons_zero, List.set_cons_succ]
        refine reg_take (i := 10) (d := 65) (v := ?_) [] rfl rfl (by kernel_rfl) (by kernel_rfl) (fun _ _ _ h => h) (Or.inl ⟨by rfl, ?_⟩) (by assumption) ?_
        rotate_left
        · (intro w hSw; (try dsimp only at hSw); go_simp; first | done | with_reducible rfl)
        try simp only [List.setIfInBounds_toArray, List.set_cons_zero, List.set_cons_succ]
        refine reg_take (i := 11) (d := 66) (v := ?_) [] rfl rfl (by kernel_rfl) (by kernel_rfl) (fun _ _ _ h => h) (Or.inl ⟨by rfl, ?_⟩) (by assumption) ?_
        rotate_left
        · (intro w hSw; (try dsimp only at hSw); go_simp; first | done | with_reducible rfl)
        try simp only [List.setIfInBounds_toArray, List.set_cons_zero, List.set_cons_succ]
        refine wpAnyL_done (by kernel_rfl) ?_ _
        have hw : IntKind.i64.wrap (1 - 0) = 1 - 0 := IntWalk.i64_in _ (by omega)
        have f3 := HS.out.cli.1.frozen 3
        have HS2 := Lib.hid HS.out.cliTurn
        have x6' := (show Blk _ gM _ tMsg from HS2.out.h2).cell 6
        have x6' := x6'.trans (show _ = some (Value.int .i64 20) from rfl)
        obtain ⟨x0, x6, x11, x1, x2, x3⟩ := HC2.out _ HS.out
        go_wp2_with fail
        go_ret
        exact ⟨ret_bool HF.out.2.symm, _, by rw [HF.out.1]; exact HS2.out.d3.d2⟩
      · have d3 : ((0 : Int) == nd) = false := beq_eq_false_iff_ne.2 d2
        have HF := Lib.hid (ctake_20b (c := ⟨tp, nd, cs, rs⟩) (x := ⟨0, tp, body⟩) (e0 := 0) (m := ⟨15, a, bb, (m : Int) + 1, d, ee, 20, p0, p1, p2, p3, s, t⟩) HH.out rfl d2)
        go_upto_region 4 with fail
        have HS := Lib.hid HS.out.drew
        refine wp_region_L (fun w' => w'.cell? ⟨gL, 0, none⟩ = some (.int .i64 0) ∧ w'.cell? ⟨gM, 6, none⟩ = some (.int .i64 20) ∧ w'.cell? ⟨gM, 11, none⟩ = some (.string s) ∧ w'.cell? ⟨b, 1, none⟩ = some (.slice A1 n q1) ∧ w'.cell? ⟨b, 2, none⟩ = some (.slice A2 m q2) ∧ w'.cell? ⟨b, 3, none⟩ = some (.int .i64 nd)) 12 (by kernel_rfl) (HC2.out _ HS.out) (fun hHeld => ?_)
        refine reg_take (i := 0) (d := 55) (v := ?_) [] rfl rfl (by kernel_rfl) (by kernel_rfl) (fun _ _ _ h => h) (Or.inl ⟨by rfl, ?_⟩) (by assumption) ?_
        rotate_left
        · (intro w hSw; (try dsimp only at hSw); go_simp; first | done | with_reducible rfl)
        try simp only [List.setIfInBounds_toArray, List.set_cons_zero, List.set_cons_succ]
        refine reg_take (i := 1) (d := 56) (v := ?_) [] rfl rfl (by kernel_rfl) (by kernel_rfl) (fun _ _ _ h => h) (Or.inl ⟨by rfl, ?_⟩) (by assumption) ?_
        rotate_left
        · (intro w hSw; (try dsimp only at hSw); go_simp; first | done | with_reducible rfl)
        try simp only [List.setIfInBounds_toArray, List.set_cons_zero, List.set_cons_succ]
        refine reg_take (i := 2) (d := 57) (v := ?_) [] rfl rfl (by kernel_rfl) (by kernel_rfl) (fun _ _ _ h => h) (Or.inl ⟨by rfl, ?_⟩) (by assumption) ?_
        rotate_left
        · (intro w hSw; (try dsimp only at hSw); go_simp; first | done | with_reducible rfl)
        try simp only [List.setIfInBounds_toArray, List.set_cons_zero, List.set_cons_succ]
        refine reg_take (i := 3) (d := 58) (v := ?_) [] rfl rfl (by kernel_rfl) (by kernel_rfl) (fun _ _ _ h => h) (Or.inl ⟨by rfl, ?_⟩) (by assumption) ?_
        rotate_left
        · (intro w hSw; (try dsimp only at hSw); go_simp; first | done | with_reducible rfl)
        try simp only [List.setIfInBounds_toArray, List.set_cons_zero, List.set_cons_succ]
        refine reg_take (i := 4) (d := 59) (v := ?_) [] rfl rfl (by kernel_rfl) (by kernel_rfl) (fun _ _ _ h => h) (Or.inl ⟨by rfl, ?_⟩) (by assumption) ?_
        rotate_left
        · (intro w hSw; (try dsimp only at hSw); go_simp; first | done | with_reducible rfl)
        try simp only [List.setIfInBounds_toArray, List.set_cons_zero, List.set_cons_succ]
        refine reg_take (i := 5) (d := 60) (v := ?_) [] rfl rfl (by kernel_rfl) (by kernel_rfl) (fun _ _ _ h => h) (Or.inl ⟨by rfl, ?_⟩) (by assumption) ?_
        rotate_left
        · (intro w hSw; (try dsimp only at hSw); go_simp; first | done | with_reducible rfl)
        try simp only [List.setIfInBounds_toArray, List.set_cons_zero, List.set_cons_succ]
        refine reg_take (i := 6) (d := 61) (v := ?_) [] rfl rfl (by kernel_rfl) (by kernel_rfl) (fun _ _ _ h => h) (Or.inl ⟨by rfl, ?_⟩) (by assumption) ?_
        rotate_left
        · (intro w hSw; (try dsimp only at hSw); go_simp; first | done | with_reducible rfl)
        try simp only [List.setIfInBounds_toArray, List.set_cons_zero, List.set_cons_succ]
        refine reg_take (i := 7) (d := 62) (v := ?_) [] rfl rfl (by kernel_rfl) (by kernel_rfl) (fun _ _ _ h => h) (Or.inl ⟨by rfl, ?_⟩) (by assumption) ?_
        rotate_left
        · (intro w hSw; (try dsimp only at hSw); go_simp; first | done | with_reducible rfl)
        try simp only [List.setIfInBounds_toArray, List.set_cons_zero, List.set_cons_succ]
        refine reg_take (i := 8) (d := 63) (v := ?_) [] rfl rfl (by kernel_rfl) (by kernel_rfl) (fun _ _ _ h => h) (Or.inl ⟨by rfl, ?_⟩) (by assumption) ?_
        rotate_left
        · (intro w hSw; (try dsimp only at hSw); go_simp; first | done | with_reducible rfl)
        try simp only [List.setIfInBounds_toArray, List.set_cons_zero, List.set_cons_succ]
        refine reg_take (i := 9) (d := 64) (v := ?_) [] rfl rfl (by kernel_rfl) (by kernel_rfl) (fun _ _ _ h => h) (Or.inl ⟨by rfl, ?_⟩) (by assumption) ?_
        rotate_left
        · (intro w hSw; (try dsimp only at hSw); go_simp; first | done | with_reducible rfl)
        try simp only [List.setIfInBounds_toArray, List.set_cons_zero, List.set_cons_succ]
        refine reg_take (i := 10) (d := 65) (v := ?_) [] rfl rfl (by kernel_rfl) (by kernel_rfl) (fun _ _ _ h => h) (Or.inl ⟨by rfl, ?_⟩) (by assumption) ?_
        rotate_left
        · (intro w hSw; (try dsimp only at hSw); go_simp; first | done | with_reducible rfl)
        try simp only [List.setIfInBounds_toArray, List.set_cons_zero, List.set_cons_succ]
        refine reg_take (i := 11) (d := 66) (v := ?_) [] rfl rfl (by kernel_rfl) (by kernel_rfl) (fun _ _ _ h => h) (Or.inl ⟨by rfl, ?_⟩) (by assumption) ?_
        rotate_left
        · (intro w hSw; (try dsimp only at hSw); go_simp; first | done | with_reducible rfl)
        try simp only [List.setIfInBounds_toArray, List.set_cons_zero, List.set_cons_succ]
        refine wpAnyL_done (by kernel_rfl) ?_ _
        obtain ⟨x0, x6, x11, x1, x2, x3⟩ := HC2.out _ HS.out
        go_wp2_with fail
        go_ret
        exact ⟨ret_bool HF.out.2.symm, _, by rw [HF.out.1]; exact HS.out.d3.d2⟩
    by_cases d21 : er = 21
    · subst d21
      have HC2 : Hid (∀ w', Sep w w' (tCli tRc b (.slice A1 n q1) (.slice A2 m q2) ⟨tp, nd, cs, rs⟩ :: tBlk gM #[.int .i64 15, .int .i64 a, .int .i64 bb, .int .i64 ((m : Int) + 1), .int .i64 d, .int .i64 ee, .int .i64 21, .int .i64 p0, .int .i64 p1, .int .i64 p2, .int .i64 p3, .string s, .string t] tMsg :: tBlk gL #[.int .i64 0, .int .i64 tp, .string body] tLt :: l) → w'.cell? ⟨gL, 0, none⟩ = some (.int .i64 0) ∧ w'.cell? ⟨gM, 6, none⟩ = some (.int .i64 21) ∧ w'.cell? ⟨gM, 11, none⟩ = some (.string s) ∧ w'.cell? ⟨b, 1, none⟩ = some (.slice A1 n q1) ∧ w'.cell? ⟨b, 2, none⟩ = some (.slice A2 m q2) ∧ w'.cell? ⟨b, 3, none⟩ = some (.int .i64 nd)) := Lib.hid (fun w' h => ⟨(show Blk w' gL #[.int .i64 0, .int .i64 tp, .string body] tLt from h.h3).cell 0, (show Blk w' gM #[.int .i64 15, .int .i64 a, .int .i64 bb, .int .i64 ((m : Int) + 1), .int .i64 d, .int .i64 ee, .int .i64 21, .int .i64 p0, .int .i64 p1, .int .i64 p2, .int .i64 p3, .string s, .string t] tMsg from h.h2).cell 6, (show Blk w' gM #[.int .i64 15, .int .i64 a, .int .i64 bb, .int .i64 ((m : Int) + 1), .int .i64 d, .int .i64 ee, .int .i64 21, .int .i64 p0, .int .i64 p1, .int .i64 p2, .int .i64 p3, .string s, .string t] tMsg from h.h2).cell 11, h.cliCells.2.1, h.cliCells.2.2.1, h.cliCells.2.2.2⟩)
      obtain ⟨x0, x6, x11, x1, x2, x3⟩ := HC2.out _ HS.out
      have HF := Lib.hid (ctake_er (c := ⟨tp, nd, cs, rs⟩) (x := ⟨0, tp, body⟩) (e0 := 0) (m := ⟨15, a, bb, (m : Int) + 1, d, ee, 21, p0, p1, p2, p3, s, t⟩) HH.out (.inl rfl))
      go_upto_region 4 with fail
      have HS := Lib.hid HS.out.drew
      refine wp_region_L (fun w' => w'.cell? ⟨gL, 0, none⟩ = some (.int .i64 0) ∧ w'.cell? ⟨gM, 6, none⟩ = some (.int .i64 21) ∧ w'.cell? ⟨gM, 11, none⟩ = some (.string s) ∧ w'.cell? ⟨b, 1, none⟩ = some (.slice A1 n q1) ∧ w'.cell? ⟨b, 2, none⟩ = some (.slice A2 m q2) ∧ w'.cell? ⟨b, 3, none⟩ = some (.int .i64 nd)) 12 (by kernel_rfl) (HC2.out _ HS.out) (fun hHeld => ?_)
      refine reg_take (i := 0) (d := 55) (v := ?_) [] rfl rfl (by kernel_rfl) (by kernel_rfl) (fun _ _ _ h => h) (Or.inl ⟨by rfl, ?_⟩) (by assumption) ?_
      rotate_left
      · (intro w hSw; (try dsimp only at hSw); go_simp; first | done | with_reducible rfl)
      try simp only [List.setIfInBounds_toArray, List.set_cons_zero, List.set_cons_succ]
      refine reg_take (i := 1) (d := 56) (v := ?_) [] rfl rfl (by kernel_rfl) (by kernel_rfl) (fun _ _ _ h => h) (Or.inl ⟨by rfl, ?_⟩) (by assumption) ?_
      rotate_left
      · (intro w hSw; (try dsimp only at hSw); go_simp; first | done | with_reducible rfl)
      try simp only [List.setIfInBounds_toArray, List.set_cons_zero, List.set_cons_succ]
      refine reg_take (i := 2) (d := 57) (v := ?_) [] rfl rfl (by kernel_rfl) (by kernel_rfl) (fun _ _ _ h => h) (Or.inl ⟨by rfl, ?_⟩) (by assumption) ?_
      rotate_left
      · (intro w hSw; (try dsimp only at hSw); go_simp; first | done | with_reducible rfl)
      try simp only [List.setIfInBounds_toArray, List.set_cons_zero, List.set_cons_succ]
      refine reg_take (i := 3) (d := 58) (v := ?_) [] rfl rfl (by kernel_rfl) (by kernel_rfl) (fun _ _ _ h => h) (Or.inl ⟨by rfl, ?_⟩) (by assumption) ?_
      rotate_left
      · (intro w hSw; (try dsimp only at hSw); go_simp; first | done | with_reducible rfl)
      try simp only [List.setIfInBounds_toArray, List.set_cons_zero, List.set_cons_succ]
      refine reg_take (i := 4) (d := 59) (v := undef) [] rfl rfl (by kernel_rfl) (by kernel_rfl) (fun _ _ _ h => h) (Or.inr ⟨by rfl, rfl⟩) (by assumption) ?_
      try simp only [List.setIfInBounds_toArray, List.set_cons_zero, List.set_cons_succ]
      refine reg_take (i := 5) (d := 60) (v := undef) [] rfl rfl (by kernel_rfl) (by kernel_rfl) (fun _ _ _ h => h) (Or.inr ⟨by rfl, rfl⟩) (by assumption) ?_
      try simp only [List.setIfInBounds_toArray, List.set_cons_zero, List.set_cons_succ]
      refine reg_take (i := 6) (d := 61) (v := undef) [] rfl rfl (by kernel_rfl) (by kernel_rfl) (fun _ _ _ h => h) (Or.inr ⟨by rfl, rfl⟩) (by assumption) ?_
      try simp only [List.setIfInBounds_toArray, List.set_cons_zero, List.set_cons_succ]
      refine reg_take (i := 7) (d := 62) (v := undef) [] rfl rfl (by kernel_rfl) (by kernel_rfl) (fun _ _ _ h => h) (Or.inr ⟨by rfl, rfl⟩) (by assumption) ?_
      try simp only [List.setIfInBounds_toArray, List.set_cons_zero, List.set_cons_succ]
      refine reg_take (i := 8) (d := 63) (v := undef) [] rfl rfl (by kernel_rfl) (by kernel_rfl) (fun _ _ _ h => h) (Or.inr ⟨by rfl, rfl⟩) (by assumption) ?_
      try simp only [List.setIfInBounds_toArray, List.set_cons_zero, List.set_cons_succ]
      refine reg_take (i := 9) (d := 64) (v := undef) [] rfl rfl (by kernel_rfl) (by kernel_rfl) (fun _ _ _ h => h) (Or.inr ⟨by rfl, rfl⟩) (by assumption) ?_
      try simp only [List.setIfInBounds_toArray, List.set_cons_zero, List.set_cons_succ]
      refine reg_take (i := 10) (d := 65) (v := undef) [] rfl rfl (by kernel_rfl) (by kernel_rfl) (fun _ _ _ h => h) (Or.inr ⟨by rfl, rfl⟩) (by assumption) ?_
      try simp only [List.setIfInBounds_toArray, List.set_cons_zero, List.set_cons_succ]
      refine reg_take (i := 11) (d := 66) (v := ?_) [] rfl rfl (by kernel_rfl) (by kernel_rfl) (fun _ _ _ h => h) (Or.inl ⟨by rfl, ?_⟩) (by assumption) ?_
      rotate_left
      · (intro w hSw; (try dsimp only at hSw); go_simp; first | done | with_reducible rfl)
      try simp only [List.setIfInBounds_toArray, List.set_cons_zero, List.set_cons_succ]
      refine wpAnyL_done (by kernel_rfl) ?_ _
      obtain ⟨x0, x6, x11, x1, x2, x3⟩ := HC2.out _ HS.out
      go_wp2_with fail
      go_ret
      exact ⟨ret_bool HF.out.2.symm, _, by rw [HF.out.1]; exact HS.out.d3.d2⟩
    by_cases d25 : er = 25
    · subst d25
      have HC2 : Hid (∀ w', Sep w w' (tCli tRc b (.slice A1 n q1) (.slice A2 m q2) ⟨tp, nd, cs, rs⟩ :: tBlk gM #[.int .i64 15, .int .i64 a, .int .i64 bb, .int .i64 ((m : Int) + 1), .int .i64 d, .int .i64 ee, .int .i64 25, .int .i64 p0, .int .i64 p1, .int .i64 p2, .int .i64 p3, .string s, .string t] tMsg :: tBlk gL #[.int .i64 0, .int .i64 tp, .string body] tLt :: l) → w'.cell? ⟨gL, 0, none⟩ = some (.int .i64 0) ∧ w'.cell? ⟨gM, 6, none⟩ = some (.int .i64 25) ∧ w'.cell? ⟨gM, 11, none⟩ = some (.string s) ∧ w'.cell? ⟨b, 1, none⟩ = some (.slice A1 n q1) ∧ w'.cell? ⟨b, 2, none⟩ = some (.slice A2 m q2) ∧ w'.cell? ⟨b, 3, none⟩ = some (.int .i64 nd)) := Lib.hid (fun w' h => ⟨(show Blk w' gL #[.int .i64 0, .int .i64 tp, .string body] tLt from h.h3).cell 0, (show Blk w' gM #[.int .i64 15, .int .i64 a, .int .i64 bb, .int .i64 ((m : Int) + 1), .int .i64 d, .int .i64 ee, .int .i64 25, .int .i64 p0, .int .i64 p1, .int .i64 p2, .int .i64 p3, .string s, .string t] tMsg from h.h2).cell 6, (show Blk w' gM #[.int .i64 15, .int .i64 a, .int .i64 bb, .int .i64 ((m : Int) + 1), .int .i64 d, .int .i64 ee, .int .i64 25, .int .i64 p0, .int .i64 p1, .int .i64 p2, .int .i64 p3, .string s, .string t] tMsg from h.h2).cell 11, h.cliCells.2.1, h.cliCells.2.2.1, h.cliCells.2.2.2⟩)
      obtain ⟨x0, x6, x11, x1, x2, x3⟩ := HC2.out _ HS.out
      have HF := Lib.hid (ctake_er (c := ⟨tp, nd, cs, rs⟩) (x := ⟨0, tp, body⟩) (e0 := 0) (m := ⟨15, a, bb, (m : Int) + 1, d, ee, 25, p0, p1, p2, p3, s, t⟩) HH.out (.inr rfl))
      go_upto_region 4 with fail
      have HS := Lib.hid HS.out.drew
      refine wp_region_L (fun w' => w'.cell? ⟨gL, 0, none⟩ = some (.int .i64 0) ∧ w'.cell? ⟨gM, 6, none⟩ = some (.int .i64 25) ∧ w'.cell? ⟨gM, 11, none⟩ = some (.string s) ∧ w'.cell? ⟨b, 1, none⟩ = some (.slice A1 n q1) ∧ w'.cell? ⟨b, 2, none⟩ = some (.slice A2 m q2) ∧ w'.cell? ⟨b, 3, none⟩ = some (.int .i64 nd)) 12 (by kernel_rfl) (HC2.out _ HS.out) (fun hHeld => ?_)
      refine reg_take (i := 0) (d := 55) (v := ?_) [] rfl rfl (by kernel_rfl) (by kernel_rfl) (fun _ _ _ h => h) (Or.inl ⟨by rfl, ?_⟩) (by assumption) ?_
      rotate_left
      · (intro w hSw; (try dsimp only at hSw); go_simp; first | done | with_reducible rfl)
      try simp only [List.setIfInBounds_toArray, List.set_cons_zero, List.set_cons_succ]
      refine reg_take (i := 1) (d := 56) (v := ?_) [] rfl rfl (by kernel_rfl) (by kernel_rfl) (fun _ _ _ h => h) (Or.inl ⟨by rfl, ?_⟩) (by assumption) ?_
      rotate_left
      · (intro w hSw; (try dsimp only at hSw); go_simp; first | done | with_reducible rfl)
      try simp only [List.setIfInBounds_toArray, List.set_cons_zero, List.set_cons_succ]
      refine reg_take (i := 2) (d := 57) (v := ?_) [] rfl rfl (by kernel_rfl) (by kernel_rfl) (fun _ _ _ h => h) (Or.inl ⟨by rfl, ?_⟩) (by assumption) ?_
      rotate_left
      · (intro w hSw; (try dsimp only at hSw); go_simp; first | done | with_reducible rfl)
      try simp only [List.setIfInBounds_toArray, List.set_cons_zero, List.set_cons_succ]
      refine reg_take (i := 3) (d := 58) (v := ?_) [] rfl rfl (by kernel_rfl) (by kernel_rfl) (fun _ _ _ h => h) (Or.inl ⟨by rfl, ?_⟩) (by assumption) ?_
      rotate_left
      · (intro w hSw; (try dsimp only at hSw); go_simp; first | done | with_reducible rfl)
      try simp only [List.setIfInBounds_toArray, List.set_cons_zero, List.set_cons_succ]
      refine reg_take (i := 4) (d := 59) (v := undef) [] rfl rfl (by kernel_rfl) (by kernel_rfl) (fun _ _ _ h => h) (Or.inr ⟨by rfl, rfl⟩) (by assumption) ?_
      try simp only [List.setIfInBounds_toArray, List.set_cons_zero, List.set_cons_succ]
      refine reg_take (i := 5) (d := 60) (v := undef) [] rfl rfl (by kernel_rfl) (by kernel_rfl) (fun _ _ _ h => h) (Or.inr ⟨by rfl, rfl⟩) (by assumption) ?_
      try simp only [List.setIfInBounds_toArray, List.set_cons_zero, List.set_cons_succ]
      refine reg_take (i := 6) (d := 61) (v := undef) [] rfl rfl (by kernel_rfl) (by kernel_rfl) (fun _ _ _ h => h) (Or.inr ⟨by rfl, rfl⟩) (by assumption) ?_
      try simp only [List.setIfInBounds_toArray, List.set_cons_zero, List.set_cons_succ]
      refine reg_take (i := 7) (d := 62) (v := undef) [] rfl rfl (by kernel_rfl) (by kernel_rfl) (fun _ _ _ h => h) (Or.inr ⟨by rfl, rfl⟩) (by assumption) ?_
      try simp only [List.setIfInBounds_toArray, List.set_cons_zero, List.set_cons_succ]
      refine reg_take (i := 8) (d := 63) (v := undef) [] rfl rfl (by kernel_rfl) (by kernel_rfl) (fun _ _ _ h => h) (Or.inr ⟨by rfl, rfl⟩) (by assumption) ?_
      try simp only [List.setIfInBounds_toArray, List.set_cons_zero, List.set_cons_succ]
      refine reg_take (i := 9) (d := 64) (v := undef) [] rfl rfl (by kernel_rfl) (by kernel_rfl) (fun _ _ _ h => h) (Or.inr ⟨by rfl, rfl⟩) (by assumption) ?_
      try simp only [List.setIfInBounds_toArray, List.set_cons_zero, List.set_cons_succ]
      refine reg_take (i := 10) (d := 65) (v := undef) [] rfl rfl (by kernel_rfl) (by kernel_rfl) (fun _ _ _ h => h) (Or.inr ⟨by rfl, rfl⟩) (by assumption) ?_
      try simp only [List.setIfInBounds_toArray, List.set_cons_zero, List.set_cons_succ]
      refine reg_take (i := 11) (d := 66) (v := ?_) [] rfl rfl (by kernel_rfl) (by kernel_rfl) (fun _ _ _ h => h) (Or.inl ⟨by rfl, ?_⟩) (by assumption) ?_
      rotate_left
      · (intro w hSw; (try dsimp only at hSw); go_simp; first | done | with_reducible rfl)
      try simp only [List.setIfInBounds_toArray, List.set_cons_zero, List.set_cons_succ]
      refine wpAnyL_done (by kernel_rfl) ?_ _
      obtain ⟨x0, x6, x11, x1, x2, x3⟩ := HC2.out _ HS.out
      go_wp2_with fail
      go_ret
      exact ⟨ret_bool HF.out.2.symm, _, by rw [HF.out.1]; exact HS.out.d3.d2⟩
    have g1b : (er == 20) = false := beq_eq_false_iff_ne.2 d1
    have g2b : (er == 21) = false := beq_eq_false_iff_ne.2 d21
    have g3b : (er == 25) = false := beq_eq_false_iff_ne.2 d25
    have g1 : decide (er = 20) = false := decide_eq_false d1
    have g2 : decide (er = 21) = false := decide_eq_false d21
    have g3 : decide (er = 25) = false := decide_eq_false d25
    have HF := Lib.hid (ctake_else (c := ⟨tp, nd, cs, rs⟩) (x := ⟨0, tp, body⟩) (e0 := 0) (m := ⟨15, a, bb, (m : Int) + 1, d, ee, er, p0, p1, p2, p3, s, t⟩) HH.out d1 d21 d25)
    have HC2 : Hid (∀ w', Sep w w' (tCli tRc b (.slice A1 n q1) (.slice A2 m q2) ⟨tp, nd, cs, rs⟩ :: tBlk gM #[.int .i64 15, .int .i64 a, .int .i64 bb, .int .i64 ((m : Int) + 1), .int .i64 d, .int .i64 ee, .int .i64 er, .int .i64 p0, .int .i64 p1, .int .i64 p2, .int .i64 p3, .string s, .string t] tMsg :: tBlk gL #[.int .i64 0, .int .i64 tp, .string body] tLt :: l) → w'.cell? ⟨gL, 0, none⟩ = some (.int .i64 0) ∧ w'.cell? ⟨gM, 6, none⟩ = some (.int .i64 er) ∧ w'.cell? ⟨gM, 11, none⟩ = some (.string s) ∧ w'.cell? ⟨b, 1, none⟩ = some (.slice A1 n q1) ∧ w'.cell? ⟨b, 2, none⟩ = some (.slice A2 m q2) ∧ w'.cell? ⟨b, 3, none⟩ = some (.int .i64 nd)) := Lib.hid (fun w' h => ⟨(show Blk w' gL #[.int .i64 0, .int .i64 tp, .string body] tLt from h.h3).cell 0, (show Blk w' gM #[.int .i64 15, .int .i64 a, .int .i64 bb, .int .i64 ((m : Int) + 1), .int .i64 d, .int .i64 ee, .int .i64 er, .int .i64 p0, .int .i64 p1, .int .i64 p2, .int .i64 p3, .string s, .string t] tMsg from h.h2).cell 6, (show Blk w' gM #[.int .i64 15, .int .i64 a, .int .i64 bb, .int .i64 ((m : Int) + 1), .int .i64 d, .int .i64 ee, .int .i64 er, .int .i64 p0, .int .i64 p1, .int .i64 p2, .int .i64 p3, .string s, .string t] tMsg from h.h2).cell 11, h.cliCells.2.1, h.cliCells.2.2.1, h.cliCells.2.2.2⟩)
    obtain ⟨x0, x6, x11, x1, x2, x3⟩ := HC2.out _ HS.out
    have HL1 := Lib.hid (show (m + 1) * 24 ≤ 140737488355328 by omega)
    have HL0 := Lib.hid (show (0 + m) * 24 ≤ 140737488355328 by omega)
    have HL2 := Lib.hid (show (0 + m + 1) * 24 ≤ 140737488355328 by omega)
    have hbr : ∀ w, (Instr.build tRs #[(0, .int .i64 er), (1, .string s)]).run Try.prog w = .ok (.agg #[.int .i64 er, .string s]) w := fun w => run_build w tRs _ _ (by kernel_rfl)
    have HBB := Lib.hid (show Blk _ b #[.int .i64 tp, .slice A1 n q1, .slice A2 m q2, .int .i64 nd] tRc from HS.out.cli.1)
    have HR := Lib.hid (show Rd _ A2 (eRs.fl rs) from (show Own _ tRs 2 (.slice A2 m q2) m (eRs.fl rs) by have := HS.out.cli.2.2.1; simp only [HN.out.2] at this; exact this).rd)
    have HA := Lib.hid (show A2 = none → m = 0 ∧ q2 = 0 from (show Own _ tRs 2 (.slice A2 m q2) m (eRs.fl rs) by have := HS.out.cli.2.2.1; simp only [HN.out.2] at this; exact this).cap.2)
    go_upto_region 4 with fail
    have HS := Lib.hid HS.out.drew
    refine wp_region_L (fun w' => w'.cell? ⟨gL, 0, none⟩ = some (.int .i64 0) ∧ w'.cell? ⟨gM, 6, none⟩ = some (.int .i64 er) ∧ w'.cell? ⟨gM, 11, none⟩ = some (.string s) ∧ w'.cell? ⟨b, 1, none⟩ = some (.slice A1 n q1) ∧ w'.cell? ⟨b, 2, none⟩ = some (.slice A2 m q2) ∧ w'.cell? ⟨b, 3, none⟩ = some (.int .i64 nd)) 12 (by kernel_rfl) (HC2.out _ HS.out) (fun hHeld => ?_)
    refine reg_take (i := 0) (d := 55) (v := ?_) [] rfl rfl (by kernel_rfl) (by kernel_rfl) (fun _ _ _ h => h) (Or.inl ⟨by rfl, ?_⟩) (by assumption) ?_
    rotate_left
    · (intro w hSw; (try dsimp only at hSw); go_simp; first | done | with_reducible rfl)
    try simp only [List.setIfInBounds_toArray, List.set_cons_zero, List.set_cons_succ]
    refine reg_take (i := 1) (d := 56) (v := ?_) [] rfl rfl (by kernel_rfl) (by kernel_rfl) (fun _ _ _ h => h) (Or.inl ⟨by rfl, ?_⟩) (by assumption) ?_
    rotate_left
    · (intro w hSw; (try dsimp only at hSw); go_simp; first | done | with_reducible rfl)
    try simp only [List.setIfInBounds_toArray, List.set_cons_zero, List.set_cons_succ]
    refine reg_take (i := 2) (d := 57) (v := ?_) [] rfl rfl (by kernel_rfl) (by kernel_rfl) (fun _ _ _ h => h) (Or.inl ⟨by rfl, ?_⟩) (by assumption) ?_
    rotate_left
    · (intro w hSw; (try dsimp only at hSw); go_simp; first | done | with_reducible rfl)
    try simp only [List.setIfInBounds_toArray, List.set_cons_zero, List.set_cons_succ]
    refine reg_take (i := 3) (d := 58) (v := ?_) [] rfl rfl (by kernel_rfl) (by kernel_rfl) (fun _ _ _ h => h) (Or.inl ⟨by rfl, ?_⟩) (by assumption) ?_
    rotate_left
    · (intro w hSw; (try dsimp only at hSw); go_simp; first | done | with_reducible rfl)
    try simp only [List.setIfInBounds_toArray, List.set_cons_zero, List.set_cons_succ]
    refine reg_take (i := 4) (d := 59) (v := undef) [] rfl rfl (by kernel_rfl) (by kernel_rfl) (fun _ _ _ h => h) (Or.inr ⟨by rfl, rfl⟩) (by assumption) ?_
    try simp only [List.setIfInBounds_toArray, List.set_cons_zero, List.set_cons_succ]
    refine reg_take (i := 5) (d := 60) (v := undef) [] rfl rfl (by kernel_rfl) (by kernel_rfl) (fun _ _ _ h => h) (Or.inr ⟨by rfl, rfl⟩) (by assumption) ?_
    try simp only [List.setIfInBounds_toArray, List.set_cons_zero, List.set_cons_succ]
    refine reg_take (i := 6) (d := 61) (v := undef) [] rfl rfl (by kernel_rfl) (by kernel_rfl) (fun _ _ _ h => h) (Or.inr ⟨by rfl, rfl⟩) (by assumption) ?_
    try simp only [List.setIfInBounds_toArray, List.set_cons_zero, List.set_cons_succ]
    refine reg_take (i := 7) (d := 62) (v := undef) [] rfl rfl (by kernel_rfl) (by kernel_rfl) (fun _ _ _ h => h) (Or.inr ⟨by rfl, rfl⟩) (by assumption) ?_
    try simp only [List.setIfInBounds_toArray, List.set_cons_zero, List.set_cons_succ]
    refine reg_take (i := 8) (d := 63) (v := undef) [] rfl rfl (by kernel_rfl) (by kernel_rfl) (fun _ _ _ h => h) (Or.inr ⟨by rfl, rfl⟩) (by assumption) ?_
    try simp only [List.setIfInBounds_toArray, List.set_cons_zero, List.set_cons_succ]
    refine reg_take (i := 9) (d := 64) (v := undef) [] rfl rfl (by kernel_rfl) (by kernel_rfl) (fun _ _ _ h => h) (Or.inr ⟨by rfl, rfl⟩) (by assumption) ?_
    try simp only [List.setIfInBounds_toArray, List.set_cons_zero, List.set_cons_succ]
    refine reg_take (i := 10) (d := 65) (v := undef) [] rfl rfl (by kernel_rfl) (by kernel_rfl) (fun _ _ _ h => h) (Or.inr ⟨by rfl, rfl⟩) (by assumption) ?_
    try simp only [List.setIfInBounds_toArray, List.set_cons_zero, List.set_cons_succ]
    refine reg_take (i := 11) (d := 66) (v := ?_) [] rfl rfl (by kernel_rfl) (by kernel_rfl) (fun _ _ _ h => h) (Or.inl ⟨by rfl, ?_⟩) (by assumption) ?_
    rotate_left
    · (intro w hSw; (try dsimp only at hSw); go_simp; first | done | with_reducible rfl)
    try simp only [List.setIfInBounds_toArray, List.set_cons_zero, List.set_cons_succ]
    refine wpAnyL_done (by kernel_rfl) ?_ _
    obtain ⟨x0, x6, x11, x1, x2, x3⟩ := HC2.out _ HS.out
    go_upto_region 8 with fail
    clear x0 x1 x2 x3 x6 x11
    generalize w5.drew = wc at *
    have HSS := Lib.hid HS.out
    have HBB := Lib.hid (show Blk _ b #[.int .i64 tp, .slice A1 n q1, .slice A2 m q2, .int .i64 nd] tRc from HSS.out.cli.1)
    have HR := Lib.hid (show Rd _ A2 (eRs.fl rs) from (show Own _ tRs 2 (.slice A2 m q2) m (eRs.fl rs) by have := HSS.out.cli.2.2.1; simp only [HN.out.2] at this; exact this).rd)
    have HS : Hid (∀ w', Below wc.heap.size wc w' → w'.cell? ⟨gL, 0, none⟩ = some (.int .i64 0) ∧ w'.cell? ⟨gM, 6, none⟩ = some (.int .i64 er) ∧ w'.cell? ⟨gM, 11, none⟩ = some (.string s) ∧ w'.cell? ⟨b, 1, none⟩ = some (.slice A1 n q1) ∧ w'.cell? ⟨b, 2, none⟩ = some (.slice A2 m q2) ∧ w'.cell? ⟨b, 3, none⟩ = some (.int .i64 nd)) := Lib.hid (fun w' h => HC2.out _ (HSS.out.step h))
    have HQ := Lib.hid ((Sep.nil wc).drew)
    refine wp_region_L (fun w' => w'.cell? ⟨gL, 0, none⟩ = some (.int .i64 0) ∧ w'.cell? ⟨gM, 6, none⟩ = some (.int .i64 er) ∧ w'.cell? ⟨gM, 11, none⟩ = some (.string s) ∧ w'.cell? ⟨b, 1, none⟩ = some (.slice A1 n q1) ∧ w'.cell? ⟨b, 2, none⟩ = some (.slice A2 m q2) ∧ w'.cell? ⟨b, 3, none⟩ = some (.int .i64 nd)) 16 (by kernel_rfl) (HS.out _ HQ.out.bel) (fun hHeld => ?_)
    refine reg_take (i := 0) (d := 88) (v := ?_) [] rfl rfl (by kernel_rfl) (by kernel_rfl) (fun _ _ _ h => h) (Or.inl ⟨by rfl, ?_⟩) (by assumption) ?_
    rotate_left
    · (intro w hSw; (try dsimp only at hSw); go_simp; first | done | with_reducible rfl)
    try simp only [List.setIfInBounds_toArray, List.set_cons_zero, List.set_cons_succ]
    refine reg_take (i := 2) (d := 90) (v := ?_) [] rfl rfl (by kernel_rfl) (by kernel_rfl) (fun _ _ _ h => h) (Or.inl ⟨by rfl, ?_⟩) (by assumption) ?_
    rotate_left
    · (intro w hSw; (try dsimp only at hSw); go_simp; first | done | with_reducible rfl)
    try simp only [List.setIfInBounds_toArray, List.set_cons_zero, List.set_cons_succ]
    refine reg_take (i := 3) (d := 91) (v := ?_) [] rfl rfl (by kernel_rfl) (by kernel_rfl) (fun _ _ _ h => h) (Or.inl ⟨by rfl, ?_⟩) (by assumption) ?_
    rotate_left
    · (intro w hSw; (try dsimp only at hSw); go_simp; first | done | with_reducible rfl)
    try simp only [List.setIfInBounds_toArray, List.set_cons_zero, List.set_cons_succ]
    refine reg_take (i := 4) (d := 92) (v := ?_) [] rfl rfl (by kernel_rfl) (by kernel_rfl) (fun _ _ _ h => h) (Or.inl ⟨by rfl, ?_⟩) (by assumption) ?_
    rotate_left
    · (intro w hSw; (try dsimp only at hSw); go_simp; first | done | with_reducible rfl)
    try simp only [List.setIfInBounds_toArray, List.set_cons_zero, List.set_cons_succ]
    refine reg_take (i := 5) (d := 93) (v := ?_) [] rfl rfl (by kernel_rfl) (by kernel_rfl) (fun _ _ _ h => h) (Or.inl ⟨by rfl, ?_⟩) (by assumption) ?_
    rotate_left
    · (intro w hSw; (try dsimp only at hSw); go_simp; first | done | with_reducible rfl)
    try simp only [List.setIfInBounds_toArray, List.set_cons_zero, List.set_cons_succ]
    refine reg_take (i := 7) (d := 95) (v := ?_) [] rfl rfl (by kernel_rfl) (by kernel_rfl) (fun _ _ _ h => h) (Or.inl ⟨by rfl, ?_⟩) (by assumption) ?_
    rotate_left
    · (intro w hSw; (try dsimp only at hSw); go_simp; first | done | with_reducible rfl)
    try simp only [List.setIfInBounds_toArray, List.set_cons_zero, List.set_cons_succ]
    refine reg_take (i := 8) (d := 96) (v := ?_) [] rfl rfl (by kernel_rfl) (by kernel_rfl) (fun _ _ _ h => h) (Or.inl ⟨by rfl, ?_⟩) (by assumption) ?_
    rotate_left
    · (intro w hSw; (try dsimp only at hSw); go_simp; first | done | with_reducible rfl)
    try simp only [List.setIfInBounds_toArray, List.set_cons_zero, List.set_cons_succ]
    refine reg_take (i := 9) (d := 97) (v := ?_) [] rfl rfl (by kernel_rfl) (by kernel_rfl) (fun _ _ _ h => h) (Or.inl ⟨by rfl, ?_⟩) (by assumption) ?_
    rotate_left
    · (intro w hSw; (try dsimp only at hSw); go_simp; first | done | with_reducible rfl)
    try simp only [List.setIfInBounds_toArray, List.set_cons_zero, List.set_cons_succ]
    refine reg_take (i := 10) (d := 98) (v := ?_) [] rfl rfl (by kernel_rfl) (by kernel_rfl) (fun _ _ _ h => h) (Or.inl ⟨by rfl, ?_⟩) (by assumption) ?_
    rotate_left
    · (intro w hSw; (try dsimp only at hSw); go_simp; first | done | with_reducible rfl)
    try simp only [List.setIfInBounds_toArray, List.set_cons_zero, List.set_cons_succ]
    refine reg_take (i := 11) (d := 99) (v := ?_) [] rfl rfl (by kernel_rfl) (by kernel_rfl) (fun _ _ _ h => h) (Or.inl ⟨by rfl, ?_⟩) (by assumption) ?_
    rotate_left
    · (intro w hSw; (try dsimp only at hSw); go_simp; first | done | with_reducible rfl)
    try simp only [List.setIfInBounds_toArray, List.set_cons_zero, List.set_cons_succ]
    refine wpAnyL_ready (rs := [1, 12]) (by kernel_rfl) rfl ?_
    refine (AllL.cons rfl (fun K hK => ?_) (AllL.cons rfl (fun K hK => ?_) AllL.nil))
    · go_simp
      have HQ := Lib.hid (HQ.out.newRow tRs 2 (g := wc.heap.size) (by simp))
      refine hK.out _ _ (HS.out _ HQ.out.bel) (fun hHeld => ?_)
      try simp only [List.setIfInBounds_toArray, List.set_cons_zero, List.set_cons_succ]
      refine wpAnyL_ready (rs := [6, 12]) (by kernel_rfl) rfl ?_
      refine (AllL.cons rfl (fun K hK => ?_) (AllL.cons rfl (fun K hK => ?_) AllL.nil))
      · refine stepA 44 tRs (.agg #[.int .i64 0, .string ByteArray.empty]) 2 24 (eRs.fl rs) m HQ.out.own HL0.out Try.underlying44 Try.infoRs rfl (by decide) (by decide) (by rw [Enc.length, HN.out.2]; rfl) (Enc.ones rs) A2 q2 (HR.out.below HQ.out.bel) HA.out (.tmp 89) (.tmp 93) rfl rfl rfl rfl ?_
        intro v1 w1 ho1 hg1 hat1
        have HQ := Lib.hid (HQ.out.app ho1 hg1 hat1)
        clear ho1 hg1 hat1
        refine hK.out _ _ (HS.out _ HQ.out.bel) (fun hHeld => ?_)
        try simp only [List.setIfInBounds_toArray, List.set_cons_zero, List.set_cons_succ]
        refine wpAnyL_ready (rs := [12]) (by kernel_rfl) rfl ?_
        refine (AllL.cons rfl (fun K hK => ?_) AllL.nil)
        go_simp
        have HQ := Lib.hid ((HQ.out.newBlk #[.int .i64 er, .string s] tRs (g := w1.heap.size) (by simp)).sw)
        refine hK.out _ _ (HS.out _ HQ.out.bel) (fun hHeld => ?_)
        try simp only [List.setIfInBounds_toArray, List.set_cons_zero, List.set_cons_succ]
        refine wpAnyL_ready (rs := [13]) (by kernel_rfl) rfl ?_
        refine (AllL.cons rfl (fun K hK => ?_) AllL.nil)
        refine stepA 44 tRs (.agg #[.int .i64 0, .string ByteArray.empty]) 2 24 [.int .i64 er, .string s] 1 HQ.out.own HL2.out Try.underlying44 Try.infoRs rfl (by decide) (by decide) rfl (one2 er s) _ _ (show Rd _ (some ⟨_, 0, none⟩) _ from (show Blk _ _ #[.int .i64 er, .string s] tRs from HQ.out.h2).rd) (fun e => nomatch e) (.tmp 94) (.tmp 100) rfl rfl rfl rfl ?_
        intro v2 w2 ho2 hg2 hat2
        obtain ⟨A2, c2, rfl, _⟩ := ho2.form
        have HQ := Lib.hid (HQ.out.app ho2 hg2 hat2)
        clear ho2 hg2 hat2
        refine hK.out _ _ (HS.out _ HQ.out.bel) (fun hHeld => ?_)
        try simp only [List.setIfInBounds_toArray, List.set_cons_zero, List.set_cons_succ]
        refine reg_take (i := 14) (d := 102) (v := ?_) [15] rfl rfl (by kernel_rfl) (by kernel_rfl) (fun _ _ _ h => h) (Or.inl ⟨by rfl, ?_⟩) (by assumption) ?_
        rotate_left
        · (intro w hSw; (try dsimp only at hSw); go_simp; first | done | with_reducible rfl)
        try simp only [List.setIfInBounds_toArray, List.set_cons_zero, List.set_cons_succ]
        refine reg_take (i := 15) (d := 103) (v := ?_) [] rfl rfl (by kernel_rfl) (by kernel_rfl) (fun _ _ _ h => h) (Or.inl ⟨by rfl, ?_⟩) (by assumption) ?_
        rotate_left
        · (intro w hSw; (try dsimp only at hSw); go_simp; first | done | with_reducible rfl)
        try simp only [List.setIfInBounds_toArray, List.set_cons_zero, List.set_cons_succ]
        refine wpAnyL_ready (rs := [16]) (by kernel_rfl) rfl ?_
        refine (AllL.consJ rfl (by kernel_rfl) (fun K hK => ?_) AllL.nil)
        have z9 := (HBB.out.upd (Upd.of_below (S := fun _ => False) HQ.out.bel) (fun h => h)).cell 2
        have fz := (HBB.out.upd (Upd.of_below (S := fun _ => False) HQ.out.bel) (fun h => h)).frozen 2
        simp at z9
        go_simp
        refine hK.out _ _ ?_
        try simp only [List.setIfInBounds_toArray, List.set_cons_zero, List.set_cons_succ]
        refine wpAnyL_done (by kernel_rfl) ?_ _
        have HS2 := Lib.hid (HSS.out.cliSet (rs2 := rs ++ [⟨er, s⟩]) (by have h := HQ.out; rw [List.nil_append, Nat.zero_add, show [Value.int .i64 er, Value.string s] = eRs.f ⟨er, s⟩ from rfl, ← Enc.snoc] at h; exact h) (by rw [List.length_append, HN.out.2]; simp))
        have HGD2 := Lib.hid (show Good (Cst.mk tp nd cs (rs ++ [⟨er, s⟩])) from ⟨HGD.out.node, HGD.out.n, by simp only [List.length_append, List.length_cons, List.length_nil]; rw [HN.out.1, HN.out.2]; omega⟩)
        unfold Cst.put at HS2
        simp only at HS2
        clear hHeld
        go_wp2_with (go_at_call 30; refine (ron_sep HS2.out HGD2.out).mono ?_; rintro e7 w7 ⟨rfl, rv7, hS7⟩; have HS7 := Lib.hid hS7; clear hS7)
        go_ret
        exact ⟨ret_bool HF.out.2.symm, _, by rw [HF.out.1]; exact HS7.out.d3.d2⟩
      · go_simp
        have HQ := Lib.hid ((HQ.out.newBlk #[.int .i64 er, .string s] tRs (g := wc.heap.size + 1) (by simp)).sw)
        refine hK.out _ _ (HS.out _ HQ.out.bel) (fun hHeld => ?_)
        try simp only [List.setIfInBounds_toArray, List.set_cons_zero, List.set_cons_succ]
        refine wpAnyL_ready (rs := [6]) (by kernel_rfl) rfl ?_
        refine (AllL.cons rfl (fun K hK => ?_) AllL.nil)
        refine stepA 44 tRs (.agg #[.int .i64 0, .string ByteArray.empty]) 2 24 (eRs.fl rs) m HQ.out.own HL0.out Try.underlying44 Try.infoRs rfl (by decide) (by decide) (by rw [Enc.length, HN.out.2]; rfl) (Enc.ones rs) A2 q2 (HR.out.below HQ.out.bel) HA.out (.tmp 89) (.tmp 93) rfl rfl rfl rfl ?_
        intro v1 w1 ho1 hg1 hat1
        have HQ := Lib.hid (HQ.out.app ho1 hg1 hat1)
        clear ho1 hg1 hat1
        refine hK.out _ _ (HS.out _ HQ.out.bel) (fun hHeld => ?_)
        try simp only [List.setIfInBounds_toArray, List.set_cons_zero, List.set_cons_succ]
        refine wpAnyL_ready (rs := [13]) (by kernel_rfl) rfl ?_
        refine (AllL.cons rfl (fun K hK => ?_) AllL.nil)
        refine stepA 44 tRs (.agg #[.int .i64 0, .string ByteArray.empty]) 2 24 [.int .i64 er, .string s] 1 HQ.out.own HL2.out Try.underlying44 Try.infoRs rfl (by decide) (by decide) rfl (one2 er s) _ _ (show Rd _ (some ⟨_, 0, none⟩) _ from (show Blk _ _ #[.int .i64 er, .string s] tRs from HQ.out.h2).rd) (fun e => nomatch e) (.tmp 94) (.tmp 100) rfl rfl rfl rfl ?_
        intro v2 w2 ho2 hg2 hat2
        obtain ⟨A2, c2, rfl, _⟩ := ho2.form
        have HQ := Lib.hid (HQ.out.app ho2 hg2 hat2)
        clear ho2 hg2 hat2
        refine hK.out _ _ (HS.out _ HQ.out.bel) (fun hHeld => ?_)
        try simp only [List.setIfInBounds_toArray, List.set_cons_zero, List.set_cons_succ]
        refine reg_take (i := 14) (d := 102) (v := ?_) [15] rfl rfl (by kernel_rfl) (by kernel_rfl) (fun _ _ _ h => h) (Or.inl ⟨by rfl, ?_⟩) (by assumption) ?_
        rotate_left
        · (intro w hSw; (try dsimp only at hSw); go_simp; first | done | with_reducible rfl)
        try simp only [List.setIfInBounds_toArray, List.set_cons_zero, List.set_cons_succ]
        refine reg_take (i := 15) (d := 103) (v := ?_) [] rfl rfl (by kernel_rfl) (by kernel_rfl) (fun _ _ _ h => h) (Or.inl ⟨by rfl, ?_⟩) (by assumption) ?_
        rotate_left
        · (intro w hSw; (try dsimp only at hSw); go_simp; first | done | with_reducible rfl)
        try simp only [List.setIfInBounds_toArray, List.set_cons_zero, List.set_cons_succ]
        refine wpAnyL_ready (rs := [16]) (by kernel_rfl) rfl ?_
        refine (AllL.consJ rfl (by kernel_rfl) (fun K hK => ?_) AllL.nil)
        have z9 := (HBB.out.upd (Upd.of_below (S := fun _ => False) HQ.out.bel) (fun h => h)).cell 2
        have fz := (HBB.out.upd (Upd.of_below (S := fun _ => False) HQ.out.bel) (fun h => h)).frozen 2
        simp at z9
        go_simp
        refine hK.out _ _ ?_
        try simp only [List.setIfInBounds_toArray, List.set_cons_zero, List.set_cons_succ]
        refine wpAnyL_done (by kernel_rfl) ?_ _
        have HS2 := Lib.hid (HSS.out.cliSet (rs2 := rs ++ [⟨er, s⟩]) (by have h := HQ.out; rw [List.nil_append, Nat.zero_add, show [Value.int .i64 er, Value.string s] = eRs.f ⟨er, s⟩ from rfl, ← Enc.snoc] at h; exact h) (by rw [List.length_append, HN.out.2]; simp))
        have HGD2 := Lib.hid (show Good (Cst.mk tp nd cs (rs ++ [⟨er, s⟩])) from ⟨HGD.out.node, HGD.out.n, by simp only [List.length_append, List.length_cons, List.length_nil]; rw [HN.out.1, HN.out.2]; omega⟩)
        unfold Cst.put at HS2
        simp only at HS2
        clear hHeld
        go_wp2_with (go_at_call 30; refine (ron_sep HS2.out HGD2.out).mono ?_; rintro e7 w7 ⟨rfl, rv7, hS7⟩; have HS7 := Lib.hid hS7; clear hS7)
        go_ret
        exact ⟨ret_bool HF.out.2.symm, _, by rw [HF.out.1]; exact HS7.out.d3.d2⟩
    · go_simp
      have HQ := Lib.hid ((HQ.out.newBlk #[.int .i64 er, .string s] tRs (g := wc.heap.size) (by simp)))
      refine hK.out _ _ (HS.out _ HQ.out.bel) (fun hHeld => ?_)
      try simp only [List.setIfInBounds_toArray, List.set_cons_zero, List.set_cons_succ]
      refine wpAnyL_ready (rs := [1]) (by kernel_rfl) rfl ?_
      refine (AllL.cons rfl (fun K hK => ?_) AllL.nil)
      go_simp
      have HQ := Lib.hid (HQ.out.newRow tRs 2 (g := wc.heap.size + 1) (by simp))
      refine hK.out _ _ (HS.out _ HQ.out.bel) (fun hHeld => ?_)
      try simp only [List.setIfInBounds_toArray, List.set_cons_zero, List.set_cons_succ]
      refine wpAnyL_ready (rs := [6]) (by kernel_rfl) rfl ?_
      refine (AllL.cons rfl (fun K hK => ?_) AllL.nil)
      refine stepA 44 tRs (.agg #[.int .i64 0, .string ByteArray.empty]) 2 24 (eRs.fl rs) m HQ.out.own HL0.out Try.underlying44 Try.infoRs rfl (by decide) (by decide) (by rw [Enc.length, HN.out.2]; rfl) (Enc.ones rs) A2 q2 (HR.out.below HQ.out.bel) HA.out (.tmp 89) (.tmp 93) rfl rfl rfl rfl ?_
      intro v1 w1 ho1 hg1 hat1
      have HQ := Lib.hid (HQ.out.app ho1 hg1 hat1)
      clear ho1 hg1 hat1
      refine hK.out _ _ (HS.out _ HQ.out.bel) (fun hHeld => ?_)
      try simp only [List.setIfInBounds_toArray, List.set_cons_zero, List.set_cons_succ]
      refine wpAnyL_ready (rs := [13]) (by kernel_rfl) rfl ?_
      refine (AllL.cons rfl (fun K hK => ?_) AllL.nil)
      refine stepA 44 tRs (.agg #[.int .i64 0, .string ByteArray.empty]) 2 24 [.int .i64 er, .string s] 1 HQ.out.own HL2.out Try.underlying44 Try.infoRs rfl (by decide) (by decide) rfl (one2 er s) _ _ (show Rd _ (some ⟨_, 0, none⟩) _ from (show Blk _ _ #[.int .i64 er, .string s] tRs from HQ.out.h2).rd) (fun e => nomatch e) (.tmp 94) (.tmp 100) rfl rfl rfl rfl ?_
      intro v2 w2 ho2 hg2 hat2
      obtain ⟨A2, c2, rfl, _⟩ := ho2.form
      have HQ := Lib.hid (HQ.out.app ho2 hg2 hat2)
      clear ho2 hg2 hat2
      refine hK.out _ _ (HS.out _ HQ.out.bel) (fun hHeld => ?_)
      try simp only [List.setIfInBounds_toArray, List.set_cons_zero, List.set_cons_succ]
      refine reg_take (i := 14) (d := 102) (v := ?_) [15] rfl rfl (by kernel_rfl) (by kernel_rfl) (fun _ _ _ h => h) (Or.inl ⟨by rfl, ?_⟩) (by assumption) ?_
      rotate_left
      · (intro w hSw; (try dsimp only at hSw); go_simp; first | done | with_reducible rfl)
      try simp only [List.setIfInBounds_toArray, List.set_cons_zero, List.set_cons_succ]
      refine reg_take (i := 15) (d := 103) (v := ?_) [] rfl rfl (by kernel_rfl) (by kernel_rfl) (fun _ _ _ h => h) (Or.inl ⟨by rfl, ?_⟩) (by assumption) ?_
      rotate_left
      · (intro w hSw; (try dsimp only at hSw); go_simp; first | done | with_reducible rfl)
      try simp only [List.setIfInBounds_toArray, List.set_cons_zero, List.set_cons_succ]
      refine wpAnyL_ready (rs := [16]) (by kernel_rfl) rfl ?_
      refine (AllL.consJ rfl (by kernel_rfl) (fun K hK => ?_) AllL.nil)
      have z9 := (HBB.out.upd (Upd.of_below (S := fun _ => False) HQ.out.bel) (fun h => h)).cell 2
      have fz := (HBB.out.upd (Upd.of_below (S := fun _ => False) HQ.out.bel) (fun h => h)).frozen 2
      simp at z9
      go_simp
      refine hK.out _ _ ?_
      try simp only [List.setIfInBounds_toArray, List.set_cons_zero, List.set_cons_succ]
      refine wpAnyL_done (by kernel_rfl) ?_ _
      have HS2 := Lib.hid (HSS.out.cliSet (rs2 := rs ++ [⟨er, s⟩]) (by have h := HQ.out; rw [List.nil_append, Nat.zero_add, show [Value.int .i64 er, Value.string s] = eRs.f ⟨er, s⟩ from rfl, ← Enc.snoc] at h; exact h) (by rw [List.length_append, HN.out.2]; simp))
      have HGD2 := Lib.hid (show Good (Cst.mk tp nd cs (rs ++ [⟨er, s⟩])) from ⟨HGD.out.node, HGD.out.n, by simp only [List.length_append, List.length_cons, List.length_nil]; rw [HN.out.1, HN.out.2]; omega⟩)
      unfold Cst.put at HS2
      simp only at HS2
      clear hHeld
      go_wp2_with (go_at_call 30; refine (ron_sep HS2.out HGD2.out).mono ?_; rintro e7 w7 ⟨rfl, rv7, hS7⟩; have HS7 := Lib.hid hS7; clear hS7)
      go_ret
      exact ⟨ret_bool HF.out.2.symm, _, by rw [HF.out.1]; exact HS7.out.d3.d2⟩
  · by_cases c4 : k = 15
    rotate_left
    · have f4 : (k != 15) = true := bne_iff_ne.2 c4
      have f4' : ¬ k = 15 := c4
      have HF := Lib.hid (ctake_no (c := ⟨tp, nd, cs, rs⟩) (x := ⟨1, tp, body⟩) (e0 := 0) (m := ⟨k, a, bb, c0, d, ee, er, p0, p1, p2, p3, s, t⟩) (by rintro ⟨j1, j2, j3, j4, j5, j6⟩; simp only at j1 j2 j3 j4 j5 j6; exact c4 j4))
      clear c4
      have HC : Hid (∀ w', Sep w w' (tCli tRc b (.slice A1 n q1) (.slice A2 m q2) ⟨tp, nd, cs, rs⟩ :: tBlk gM #[.int .i64 k, .int .i64 a, .int .i64 bb, .int .i64 c0, .int .i64 d, .int .i64 ee, .int .i64 er, .int .i64 p0, .int .i64 p1, .int .i64 p2, .int .i64 p3, .string s, .string t] tMsg :: tBlk gL #[.int .i64 1, .int .i64 tp, .string body] tLt :: l) → w'.cell? ⟨gL, 0, none⟩ = some (.int .i64 1) ∧ w'.cell? ⟨gL, 1, none⟩ = some (.int .i64 tp) ∧ w'.cell? ⟨gM, 0, none⟩ = some (.int .i64 k) ∧ w'.cell? ⟨gM, 3, none⟩ = some (.int .i64 c0) ∧ w'.cell? ⟨b, 0, none⟩ = some (.int .i64 tp) ∧ w'.cell? ⟨b, 2, none⟩ = some (.slice A2 m q2)) := Lib.hid (fun w' h => ⟨(show Blk w' gL #[.int .i64 1, .int .i64 tp, .string body] tLt from h.h3).cell 0, (show Blk w' gL #[.int .i64 1, .int .i64 tp, .string body] tLt from h.h3).cell 1, (show Blk w' gM #[.int .i64 k, .int .i64 a, .int .i64 bb, .int .i64 c0, .int .i64 d, .int .i64 ee, .int .i64 er, .int .i64 p0, .int .i64 p1, .int .i64 p2, .int .i64 p3, .string s, .string t] tMsg from h.h2).cell 0, (show Blk w' gM #[.int .i64 k, .int .i64 a, .int .i64 bb, .int .i64 c0, .int .i64 d, .int .i64 ee, .int .i64 er, .int .i64 p0, .int .i64 p1, .int .i64 p2, .int .i64 p3, .string s, .string t] tMsg from h.h2).cell 3, h.cliCells.1, h.cliCells.2.2.1⟩)
      have HS := Lib.hid HS.out.drew
      refine wp_region_L (fun w' => w'.cell? ⟨gL, 0, none⟩ = some (.int .i64 1) ∧ w'.cell? ⟨gL, 1, none⟩ = some (.int .i64 tp) ∧ w'.cell? ⟨gM, 0, none⟩ = some (.int .i64 k) ∧ w'.cell? ⟨gM, 3, none⟩ = some (.int .i64 c0) ∧ w'.cell? ⟨b, 0, none⟩ = some (.int .i64 tp) ∧ w'.cell? ⟨b, 2, none⟩ = some (.slice A2 m q2)) 42 (by kernel_rfl) (HC.out _ HS.out) (fun hHeld => ?_)
      refine reg_take (i := 0) (d := 13) (v := ?_) [] rfl rfl (by kernel_rfl) (by kernel_rfl) (fun _ _ _ h => h) (Or.inl ⟨by rfl, ?_⟩) (by assumption) ?_
      rotate_left
      · (intro w hSw; (try dsimp only at hSw); go_simp; first | done | with_reducible rfl)
      try simp only [List.setIfInBounds_toArray, List.set_cons_zero, List.set_cons_succ]
      refine reg_take (i := 1) (d := 14) (v := ?_) [] rfl rfl (by kernel_rfl) (by kernel_rfl) (fun _ _ _ h => h) (Or.inl ⟨by rfl, ?_⟩) (by assumption) ?_
      rotate_left
      · (intro w hSw; (try dsimp only at hSw); go_simp; first | done | with_reducible rfl)
      try simp only [List.setIfInBounds_toArray, List.set_cons_zero, List.set_cons_succ]
      refine reg_take (i := 2) (d := 15) (v := ?_) [] rfl rfl (by kernel_rfl) (by kernel_rfl) (fun _ _ _ h => h) (Or.inl ⟨by rfl, ?_⟩) (by assumption) ?_
      rotate_left
      · (intro w hSw; (try dsimp only at hSw); go_simp; first | done | with_reducible rfl)
      try simp only [List.setIfInBounds_toArray, List.set_cons_zero, List.set_cons_succ]
      refine reg_take (i := 3) (d := 16) (v := ?_) [] rfl rfl (by kernel_rfl) (by kernel_rfl) (fun _ _ _ h => h) (Or.inl ⟨by rfl, ?_⟩) (by assumption) ?_
      rotate_left
      · (intro w hSw; (try dsimp only at hSw); go_simp; first | done | with_reducible rfl)
      try simp only [List.setIfInBounds_toArray, List.set_cons_zero, List.set_cons_succ]
      refine reg_take (i := 4) (d := 17) (v := ?_) [] rfl rfl (by kernel_rfl) (by kernel_rfl) (fun _ _ _ h => h) (Or.inl ⟨by rfl, ?_⟩) (by assumption) ?_
      rotate_left
      · (intro w hSw; (try dsimp only at hSw); go_simp; first | done | with_reducible rfl)
      try simp only [List.setIfInBounds_toArray, List.set_cons_zero, List.set_cons_succ]
      refine reg_take (i := 5) (d := 18) (v := ?_) [] rfl rfl (by kernel_rfl) (by kernel_rfl) (fun _ _ _ h => h) (Or.inl ⟨by rfl, ?_⟩) (by assumption) ?_
      rotate_left
      · (intro w hSw; (try dsimp only at hSw); go_simp; first | done | with_reducible rfl)
      try simp only [List.setIfInBounds_toArray, List.set_cons_zero, List.set_cons_succ]
      refine reg_take (i := 6) (d := 19) (v := ?_) [] rfl rfl (by kernel_rfl) (by kernel_rfl) (fun _ _ _ h => h) (Or.inl ⟨by rfl, ?_⟩) (by assumption) ?_
      rotate_left
      · (intro w hSw; (try dsimp only at hSw); go_simp; first | done | with_reducible rfl)
      try simp only [List.setIfInBounds_toArray, List.set_cons_zero, List.set_cons_succ]
      refine reg_take (i := 7) (d := 20) (v := ?_) [] rfl rfl (by kernel_rfl) (by kernel_rfl) (fun _ _ _ h => h) (Or.inl ⟨by rfl, ?_⟩) (by assumption) ?_
      rotate_left
      · (intro w hSw; (try dsimp only at hSw); go_simp; first | done | with_reducible rfl)
      try simp only [List.setIfInBounds_toArray, List.set_cons_zero, List.set_cons_succ]
      refine reg_take (i := 8) (d := 21) (v := ?_) [] rfl rfl (by kernel_rfl) (by kernel_rfl) (fun _ _ _ h => h) (Or.inl ⟨by rfl, ?_⟩) (by assumption) ?_
      rotate_left
      · (intro w hSw; (try dsimp only at hSw); go_simp; first | done | with_reducible rfl)
      try simp only [List.setIfInBounds_toArray, List.set_cons_zero, List.set_cons_succ]
      refine reg_take (i := 9) (d := 22) (v := ?_) [] rfl rfl (by kernel_rfl) (by kernel_rfl) (fun _ _ _ h => h) (Or.inl ⟨by rfl, ?_⟩) (by assumption) ?_
      rotate_left
      · (intro w hSw; (try dsimp only at hSw); go_simp; first | done | with_reducible rfl)
      try simp only [List.setIfInBounds_toArray, List.set_cons_zero, List.set_cons_succ]
      refine reg_take (i := 10) (d := 23) (v := ?_) [] rfl rfl (by kernel_rfl) (by kernel_rfl) (fun _ _ _ h => h) (Or.inl ⟨by rfl, ?_⟩) (by assumption) ?_
      rotate_left
      · (intro w hSw; (try dsimp only at hSw); go_simp; first | done | with_reducible rfl)
      try simp only [List.setIfInBounds_toArray, List.set_cons_zero, List.set_cons_succ]
      refine reg_take (i := 11) (d := 24) (v := ?_) [] rfl rfl (by kernel_rfl) (by kernel_rfl) (fun _ _ _ h => h) (Or.inl ⟨by rfl, ?_⟩) (by assumption) ?_
      rotate_left
      · (intro w hSw; (try dsimp only at hSw); go_simp; first | done | with_reducible rfl)
      try simp only [List.setIfInBounds_toArray, List.set_cons_zero, List.set_cons_succ]
      refine reg_take (i := 12) (d := 25) (v := ?_) [] rfl rfl (by kernel_rfl) (by kernel_rfl) (fun _ _ _ h => h) (Or.inl ⟨by rfl, ?_⟩) (by assumption) ?_
      rotate_left
      · (intro w hSw; (try dsimp only at hSw); go_simp; first | done | with_reducible rfl)
      try simp only [List.setIfInBounds_toArray, List.set_cons_zero, List.set_cons_succ]
      refine reg_take (i := 13) (d := 26) (v := ?_) [] rfl rfl (by kernel_rfl) (by kernel_rfl) (fun _ _ _ h => h) (Or.inl ⟨by rfl, ?_⟩) (by assumption) ?_
      rotate_left
      · (intro w hSw; (try dsimp only at hSw); go_simp; first | done | with_reducible rfl)
      try simp only [List.setIfInBounds_toArray, List.set_cons_zero, List.set_cons_succ]
      refine reg_take (i := 14) (d := 27) (v := ?_) [] rfl rfl (by kernel_rfl) (by kernel_rfl) (fun _ _ _ h => h) (Or.inl ⟨by rfl, ?_⟩) (by assumption) ?_
      rotate_left
      · (intro w hSw; (try dsimp only at hSw); go_simp; first | done | with_reducible rfl)
      try simp only [List.setIfInBounds_toArray, List.set_cons_zero, List.set_cons_succ]
      refine reg_take (i := 15) (d := 28) (v := ?_) [] rfl rfl (by kernel_rfl) (by kernel_rfl) (fun _ _ _ h => h) (Or.inl ⟨by rfl, ?_⟩) (by assumption) ?_
      rotate_left
      · (intro w hSw; (try dsimp only at hSw); go_simp; first | done | with_reducible rfl)
      try simp only [List.setIfInBounds_toArray, List.set_cons_zero, List.set_cons_succ]
      refine reg_take (i := 16) (d := 29) (v := ?_) [] rfl rfl (by kernel_rfl) (by kernel_rfl) (fun _ _ _ h => h) (Or.inl ⟨by rfl, ?_⟩) (by assumption) ?_
      rotate_left
      · (intro w hSw; (try dsimp only at hSw); go_simp; first | done | with_reducible rfl)
      try simp only [List.setIfInBounds_toArray, List.set_cons_zero, List.set_cons_succ]
      refine reg_take (i := 17) (d := 30) (v := ?_) [] rfl rfl (by kernel_rfl) (by kernel_rfl) (fun _ _ _ h => h) (Or.inl ⟨by rfl, ?_⟩) (by assumption) ?_
      rotate_left
      · (intro w hSw; (try dsimp only at hSw); go_simp; first | done | with_reducible rfl)
      try simp only [List.setIfInBounds_toArray, List.set_cons_zero, List.set_cons_succ]
      refine reg_take (i := 18) (d := 31) (v := ?_) [] rfl rfl (by kernel_rfl) (by kernel_rfl) (fun _ _ _ h => h) (Or.inl ⟨by rfl, ?_⟩) (by assumption) ?_
      rotate_left
      · (intro w hSw; (try dsimp only at hSw); go_simp; first | done | with_reducible rfl)
      try simp only [List.setIfInBounds_toArray, List.set_cons_zero, List.set_cons_succ]
      refine reg_take (i := 19) (d := 32) (v := ?_) [] rfl rfl (by kernel_rfl) (by kernel_rfl) (fun _ _ _ h => h) (Or.inl ⟨by rfl, ?_⟩) (by assumption) ?_
      rotate_left
      · (intro w hSw; (try dsimp only at hSw); go_simp; first | done | with_reducible rfl)
      try simp only [List.setIfInBounds_toArray, List.set_cons_zero, List.set_cons_succ]
      refine reg_take (i := 20) (d := 33) (v := ?_) [] rfl rfl (by kernel_rfl) (by kernel_rfl) (fun _ _ _ h => h) (Or.inl ⟨by rfl, ?_⟩) (by assumption) ?_
      rotate_left
      · (intro w hSw; (try dsimp only at hSw); go_simp; first | done | with_reducible rfl)
      try simp only [List.setIfInBounds_toArray, List.set_cons_zero, List.set_cons_succ]
      refine reg_take (i := 21) (d := 34) (v := ?_) [] rfl rfl (by kernel_rfl) (by kernel_rfl) (fun _ _ _ h => h) (Or.inl ⟨by rfl, ?_⟩) (by assumption) ?_
      rotate_left
      · (intro w hSw; (try dsimp only at hSw); go_simp; first | done | with_reducible rfl)
      try simp only [List.setIfInBounds_toArray, List.set_cons_zero, List.set_cons_succ]
      refine reg_take (i := 22) (d := 35) (v := ?_) [] rfl rfl (by kernel_rfl) (by kernel_rfl) (fun _ _ _ h => h) (Or.inl ⟨by rfl, ?_⟩) (by assumption) ?_
      rotate_left
      · (intro w hSw; (try dsimp only at hSw); go_simp; first | done | with_reducible rfl)
      try simp only [List.setIfInBounds_toArray, List.set_cons_zero, List.set_cons_succ]
      refine reg_take (i := 23) (d := 36) (v := ?_) [] rfl rfl (by kernel_rfl) (by kernel_rfl) (fun _ _ _ h => h) (Or.inl ⟨by rfl, ?_⟩) (by assumption) ?_
      rotate_left
      · (intro w hSw; (try dsimp only at hSw); go_simp; first | done | with_reducible rfl)
      try simp only [List.setIfInBounds_toArray, List.set_cons_zero, List.set_cons_succ]
      refine reg_take (i := 24) (d := 37) (v := ?_) [] rfl rfl (by kernel_rfl) (by kernel_rfl) (fun _ _ _ h => h) (Or.inl ⟨by rfl, ?_⟩) (by assumption) ?_
      rotate_left
      · (intro w hSw; (try dsimp only at hSw); go_simp; first | done | with_reducible rfl)
      try simp only [List.setIfInBounds_toArray, List.set_cons_zero, List.set_cons_succ]
      refine reg_take (i := 25) (d := 38) (v := ?_) [] rfl rfl (by kernel_rfl) (by kernel_rfl) (fun _ _ _ h => h) (Or.inl ⟨by rfl, ?_⟩) (by assumption) ?_
      rotate_left
      · (intro w hSw; (try dsimp only at hSw); go_simp; first | done | with_reducible rfl)
      try simp only [List.setIfInBounds_toArray, List.set_cons_zero, List.set_cons_succ]
      refine reg_take (i := 26) (d := 39) (v := ?_) [] rfl rfl (by kernel_rfl) (by kernel_rfl) (fun _ _ _ h => h) (Or.inl ⟨by rfl, ?_⟩) (by assumption) ?_
      rotate_left
      · (intro w hSw; (try dsimp only at hSw); go_simp; first | done | with_reducible rfl)
      try simp only [List.setIfInBounds_toArray, List.set_cons_zero, List.set_cons_succ]
      refine reg_take (i := 27) (d := 40) (v := undef) [] rfl rfl (by kernel_rfl) (by kernel_rfl) (fun _ _ _ h => h) (Or.inr ⟨by rfl, rfl⟩) (by assumption) ?_
      try simp only [List.setIfInBounds_toArray, List.set_cons_zero, List.set_cons_succ]
      refine reg_take (i := 28) (d := 41) (v := undef) [] rfl rfl (by kernel_rfl) (by kernel_rfl) (fun _ _ _ h => h) (Or.inr ⟨by rfl, rfl⟩) (by assumption) ?_
      try simp only [List.setIfInBounds_toArray, List.set_cons_zero, List.set_cons_succ]
      refine reg_take (i := 29) (d := 42) (v := undef) [] rfl rfl (by kernel_rfl) (by kernel_rfl) (fun _ _ _ h => h) (Or.inr ⟨by rfl, rfl⟩) (by assumption) ?_
      try simp only [List.setIfInBounds_toArray, List.set_cons_zero, List.set_cons_succ]
      refine reg_take (i := 30) (d := 43) (v := ?_) [] rfl rfl (by kernel_rfl) (by kernel_rfl) (fun _ _ _ h => h) (Or.inl ⟨by rfl, ?_⟩) (by assumption) ?_
      rotate_left
      · (intro w hSw; (try dsimp only at hSw); go_simp; first | done | with_reducible rfl)
      try simp only [List.setIfInBounds_toArray, List.set_cons_zero, List.set_cons_succ]
      refine reg_take (i := 31) (d := 44) (v := ?_) [] rfl rfl (by kernel_rfl) (by kernel_rfl) (fun _ _ _ h => h) (Or.inl ⟨by rfl, ?_⟩) (by assumption) ?_
      rotate_left
      · (intro w hSw; (try dsimp only at hSw); go_simp; first | done | with_reducible rfl)
      try simp only [List.setIfInBounds_toArray, List.set_cons_zero, List.set_cons_succ]
      refine reg_take (i := 32) (d := 45) (v := undef) [] rfl rfl (by kernel_rfl) (by kernel_rfl) (fun _ _ _ h => h) (Or.inr ⟨by rfl, rfl⟩) (by assumption) ?_
      try simp only [List.setIfInBounds_toArray, List.set_cons_zero, List.set_cons_succ]
      refine reg_take (i := 33) (d := 46) (v := undef) [] rfl rfl (by kernel_rfl) (by kernel_rfl) (fun _ _ _ h => h) (Or.inr ⟨by rfl, rfl⟩) (by assumption) ?_
      try simp only [List.setIfInBounds_toArray, List.set_cons_zero, List.set_cons_succ]
      refine reg_take (i := 34) (d := 47) (v := undef) [] rfl rfl (by kernel_rfl) (by kernel_rfl) (fun _ _ _ h => h) (Or.inr ⟨by rfl, rfl⟩) (by assumption) ?_
      try simp only [List.setIfInBounds_toArray, List.set_cons_zero, List.set_cons_succ]
      refine reg_take (i := 35) (d := 48) (v := undef) [] rfl rfl (by kernel_rfl) (by kernel_rfl) (fun _ _ _ h => h) (Or.inr ⟨by rfl, rfl⟩) (by assumption) ?_
      try simp only [List.setIfInBounds_toArray, List.set_cons_zero, List.set_cons_succ]
      refine reg_take (i := 36) (d := 49) (v := undef) [] rfl rfl (by kernel_rfl) (by kernel_rfl) (fun _ _ _ h => h) (Or.inr ⟨by rfl, rfl⟩) (by assumption) ?_
      try simp only [List.setIfInBounds_toArray, List.set_cons_zero, List.set_cons_succ]
      refine reg_take (i := 37) (d := 50) (v := undef) [] rfl rfl (by kernel_rfl) (by kernel_rfl) (fun _ _ _ h => h) (Or.inr ⟨by rfl, rfl⟩) (by assumption) ?_
      try simp only [List.setIfInBounds_toArray, List.set_cons_zero, List.set_cons_succ]
      refine reg_take (i := 38) (d := 51) (v := undef) [] rfl rfl (by kernel_rfl) (by kernel_rfl) (fun _ _ _ h => h) (Or.inr ⟨by rfl, rfl⟩) (by assumption) ?_
      try simp only [List.setIfInBounds_toArray, List.set_cons_zero, List.set_cons_succ]
      refine reg_take (i := 39) (d := 52) (v := undef) [] rfl rfl (by kernel_rfl) (by kernel_rfl) (fun _ _ _ h => h) (Or.inr ⟨by rfl, rfl⟩) (by assumption) ?_
      try simp only [List.setIfInBounds_toArray, List.set_cons_zero, List.set_cons_succ]
      refine reg_take (i := 40) (d := 53) (v := undef) [] rfl rfl (by kernel_rfl) (by kernel_rfl) (fun _ _ _ h => h) (Or.inr ⟨by rfl, rfl⟩) (by assumption) ?_
      try simp only [List.setIfInBounds_toArray, List.set_cons_zero, List.set_cons_succ]
      refine reg_take (i := 41) (d := 54) (v := ?_) [] rfl rfl (by kernel_rfl) (by kernel_rfl) (fun _ _ _ h => h) (Or.inl ⟨by rfl, ?_⟩) (by assumption) ?_
      rotate_left
      · (intro w hSw; (try dsimp only at hSw); go_simp; first | done | with_reducible rfl)
      try simp only [List.setIfInBounds_toArray, List.set_cons_zero, List.set_cons_succ]
      refine wpAnyL_done (by kernel_rfl) ?_ _
      go_wp2_with fail
      go_ret
      exact ⟨ret_bool HF.out.2.symm, _, by rw [HF.out.1]; exact HS.out.d3.d2⟩
    subst c4
    by_cases c5 : m < n
    rotate_left
    · have f5 : (n : Int) - (m : Int) = 0 := by omega
      have f5' : ((n : Int) - (m : Int) == 0) = true := beq_iff_eq.2 f5
      have HF := Lib.hid (ctake_no (c := ⟨tp, nd, cs, rs⟩) (x := ⟨1, tp, body⟩) (e0 := 0) (m := ⟨15, a, bb, c0, d, ee, er, p0, p1, p2, p3, s, t⟩) (by rintro ⟨j1, j2, j3, j4, j5, j6⟩; simp only at j1 j2 j3 j4 j5 j6; rw [HN.out.1, HN.out.2] at j5; exact c5 j5))
      clear c5 hmn
      have HC : Hid (∀ w', Sep w w' (tCli tRc b (.slice A1 n q1) (.slice A2 m q2) ⟨tp, nd, cs, rs⟩ :: tBlk gM #[.int .i64 15, .int .i64 a, .int .i64 bb, .int .i64 c0, .int .i64 d, .int .i64 ee, .int .i64 er, .int .i64 p0, .int .i64 p1, .int .i64 p2, .int .i64 p3, .string s, .string t] tMsg :: tBlk gL #[.int .i64 1, .int .i64 tp, .string body] tLt :: l) → w'.cell? ⟨gL, 0, none⟩ = some (.int .i64 1) ∧ w'.cell? ⟨gL, 1, none⟩ = some (.int .i64 tp) ∧ w'.cell? ⟨gM, 0, none⟩ = some (.int .i64 15) ∧ w'.cell? ⟨gM, 3, none⟩ = some (.int .i64 c0) ∧ w'.cell? ⟨b, 0, none⟩ = some (.int .i64 tp) ∧ w'.cell? ⟨b, 2, none⟩ = some (.slice A2 m q2)) := Lib.hid (fun w' h => ⟨(show Blk w' gL #[.int .i64 1, .int .i64 tp, .string body] tLt from h.h3).cell 0, (show Blk w' gL #[.int .i64 1, .int .i64 tp, .string body] tLt from h.h3).cell 1, (show Blk w' gM #[.int .i64 15, .int .i64 a, .int .i64 bb, .int .i64 c0, .int .i64 d, .int .i64 ee, .int .i64 er, .int .i64 p0, .int .i64 p1, .int .i64 p2, .int .i64 p3, .string s, .string t] tMsg from h.h2).cell 0, (show Blk w' gM #[.int .i64 15, .int .i64 a, .int .i64 bb, .int .i64 c0, .int .i64 d, .int .i64 ee, .int .i64 er, .int .i64 p0, .int .i64 p1, .int .i64 p2, .int .i64 p3, .string s, .string t] tMsg from h.h2).cell 3, h.cliCells.1, h.cliCells.2.2.1⟩)
      have HS := Lib.hid HS.out.drew
      refine wp_region_L (fun w' => w'.cell? ⟨gL, 0, none⟩ = some (.int .i64 1) ∧ w'.cell? ⟨gL, 1, none⟩ = some (.int .i64 tp) ∧ w'.cell? ⟨gM, 0, none⟩ = some (.int .i64 15) ∧ w'.cell? ⟨gM, 3, none⟩ = some (.int .i64 c0) ∧ w'.cell? ⟨b, 0, none⟩ = some (.int .i64 tp) ∧ w'.cell? ⟨b, 2, none⟩ = some (.slice A2 m q2)) 42 (by kernel_rfl) (HC.out _ HS.out) (fun hHeld => ?_)
      refine reg_take (i := 0) (d := 13) (v := ?_) [] rfl rfl (by kernel_rfl) (by kernel_rfl) (fun _ _ _ h => h) (Or.inl ⟨by rfl, ?_⟩) (by assumption) ?_
      rotate_left
      · (intro w hSw; (try dsimp only at hSw); go_simp; first | done | with_reducible rfl)
      try simp only [List.setIfInBounds_toArray, List.set_cons_zero, List.set_cons_succ]
      refine reg_take (i := 1) (d := 14) (v := ?_) [] rfl rfl (by kernel_rfl) (by kernel_rfl) (fun _ _ _ h => h) (Or.inl ⟨by rfl, ?_⟩) (by assumption) ?_
      rotate_left
      · (intro w hSw; (try dsimp only at hSw); go_simp; first | done | with_reducible rfl)
      try simp only [List.setIfInBounds_toArray, List.set_cons_zero, List.set_cons_succ]
      refine reg_take (i := 2) (d := 15) (v := ?_) [] rfl rfl (by kernel_rfl) (by kernel_rfl) (fun _ _ _ h => h) (Or.inl ⟨by rfl, ?_⟩) (by assumption) ?_
      rotate_left
      · (intro w hSw; (try dsimp only at hSw); go_simp; first | done | with_reducible rfl)
      try simp only [List.setIfInBounds_toArray, List.set_cons_zero, List.set_cons_succ]
      refine reg_take (i := 3) (d := 16) (v := ?_) [] rfl rfl (by kernel_rfl) (by kernel_rfl) (fun _ _ _ h => h) (Or.inl ⟨by rfl, ?_⟩) (by assumption) ?_
      rotate_left
      · (intro w hSw; (try dsimp only at hSw); go_simp; first | done | with_reducible rfl)
      try simp only [List.setIfInBounds_toArray, List.set_cons_zero, List.set_cons_succ]
      refine reg_take (i := 4) (d := 17) (v := ?_) [] rfl rfl (by kernel_rfl) (by kernel_rfl) (fun _ _ _ h => h) (Or.inl ⟨by rfl, ?_⟩) (by assumption) ?_
      rotate_left
      · (intro w hSw; (try dsimp only at hSw); go_simp; first | done | with_reducible rfl)
      try simp only [List.setIfInBounds_toArray, List.set_cons_zero, List.set_cons_succ]
      refine reg_take (i := 5) (d := 18) (v := ?_) [] rfl rfl (by kernel_rfl) (by kernel_rfl) (fun _ _ _ h => h) (Or.inl ⟨by rfl, ?_⟩) (by assumption) ?_
      rotate_left
      · (intro w hSw; (try dsimp only at hSw); go_simp; first | done | with_reducible rfl)
      try simp only [List.setIfInBounds_toArray, List.set_cons_zero, List.set_cons_succ]
      refine reg_take (i := 6) (d := 19) (v := ?_) [] rfl rfl (by kernel_rfl) (by kernel_rfl) (fun _ _ _ h => h) (Or.inl ⟨by rfl, ?_⟩) (by assumption) ?_
      rotate_left
      · (intro w hSw; (try dsimp only at hSw); go_simp; first | done | with_reducible rfl)
      try simp only [List.setIfInBounds_toArray, List.set_cons_zero, List.set_cons_succ]
      refine reg_take (i := 7) (d := 20) (v := ?_) [] rfl rfl (by kernel_rfl) (by kernel_rfl) (fun _ _ _ h => h) (Or.inl ⟨by rfl, ?_⟩) (by assumption) ?_
      rotate_left
      · (intro w hSw; (try dsimp only at hSw); go_simp; first | done | with_reducible rfl)
      try simp only [List.setIfInBounds_toArray, List.set_cons_zero, List.set_cons_succ]
      refine reg_take (i := 8) (d := 21) (v := ?_) [] rfl rfl (by kernel_rfl) (by kernel_rfl) (fun _ _ _ h => h) (Or.inl ⟨by rfl, ?_⟩) (by assumption) ?_
      rotate_left
      · (intro w hSw; (try dsimp only at hSw); go_simp; first | done | with_reducible rfl)
      try simp only [List.setIfInBounds_toArray, List.set_cons_zero, List.set_cons_succ]
      refine reg_take (i := 9) (d := 22) (v := ?_) [] rfl rfl (by kernel_rfl) (by kernel_rfl) (fun _ _ _ h => h) (Or.inl ⟨by rfl, ?_⟩) (by assumption) ?_
      rotate_left
      · (intro w hSw; (try dsimp only at hSw); go_simp; first | done | with_reducible rfl)
      try simp only [List.setIfInBounds_toArray, List.set_cons_zero, List.set_cons_succ]
      refine reg_take (i := 10) (d := 23) (v := ?_) [] rfl rfl (by kernel_rfl) (by kernel_rfl) (fun _ _ _ h => h) (Or.inl ⟨by rfl, ?_⟩) (by assumption) ?_
      rotate_left
      · (intro w hSw; (try dsimp only at hSw); go_simp; first | done | with_reducible rfl)
      try simp only [List.setIfInBounds_toArray, List.set_cons_zero, List.set_cons_succ]
      refine reg_take (i := 11) (d := 24) (v := ?_) [] rfl rfl (by kernel_rfl) (by kernel_rfl) (fun _ _ _ h => h) (Or.inl ⟨by rfl, ?_⟩) (by assumption) ?_
      rotate_left
      · (intro w hSw; (try dsimp only at hSw); go_simp; first | done | with_reducible rfl)
      try simp only [List.setIfInBounds_toArray, List.set_cons_zero, List.set_cons_succ]
      refine reg_take (i := 12) (d := 25) (v := ?_) [] rfl rfl (by kernel_rfl) (by kernel_rfl) (fun _ _ _ h => h) (Or.inl ⟨by rfl, ?_⟩) (by assumption) ?_
      rotate_left
      · (intro w hSw; (try dsimp only at hSw); go_simp; first | done | with_reducible rfl)
      try simp only [List.setIfInBounds_toArray, List.set_cons_zero, List.set_cons_succ]
      refine reg_take (i := 13) (d := 26) (v := ?_) [] rfl rfl (by kernel_rfl) (by kernel_rfl) (fun _ _ _ h => h) (Or.inl ⟨by rfl, ?_⟩) (by assumption) ?_
      rotate_left
      · (intro w hSw; (try dsimp only at hSw); go_simp; first | done | with_reducible rfl)
      try simp only [List.setIfInBounds_toArray, List.set_cons_zero, List.set_cons_succ]
      refine reg_take (i := 14) (d := 27) (v := ?_) [] rfl rfl (by kernel_rfl) (by kernel_rfl) (fun _ _ _ h => h) (Or.inl ⟨by rfl, ?_⟩) (by assumption) ?_
      rotate_left
      · (intro w hSw; (try dsimp only at hSw); go_simp; first | done | with_reducible rfl)
      try simp only [List.setIfInBounds_toArray, List.set_cons_zero, List.set_cons_succ]
      refine reg_take (i := 15) (d := 28) (v := ?_) [] rfl rfl (by kernel_rfl) (by kernel_rfl) (fun _ _ _ h => h) (Or.inl ⟨by rfl, ?_⟩) (by assumption) ?_
      rotate_left
      · (intro w hSw; (try dsimp only at hSw); go_simp; first | done | with_reducible rfl)
      try simp only [List.setIfInBounds_toArray, List.set_cons_zero, List.set_cons_succ]
      refine reg_take (i := 16) (d := 29) (v := ?_) [] rfl rfl (by kernel_rfl) (by kernel_rfl) (fun _ _ _ h => h) (Or.inl ⟨by rfl, ?_⟩) (by assumption) ?_
      rotate_left
      · (intro w hSw; (try dsimp only at hSw); go_simp; first | done | with_reducible rfl)
      try simp only [List.setIfInBounds_toArray, List.set_cons_zero, List.set_cons_succ]
      refine reg_take (i := 17) (d := 30) (v := ?_) [] rfl rfl (by kernel_rfl) (by kernel_rfl) (fun _ _ _ h => h) (Or.inl ⟨by rfl, ?_⟩) (by assumption) ?_
      rotate_left
      · (intro w hSw; (try dsimp only at hSw); go_simp; first | done | with_reducible rfl)
      try simp only [List.setIfInBounds_toArray, List.set_cons_zero, List.set_cons_succ]
      refine reg_take (i := 18) (d := 31) (v := ?_) [] rfl rfl (by kernel_rfl) (by kernel_rfl) (fun _ _ _ h => h) (Or.inl ⟨by rfl, ?_⟩) (by assumption) ?_
      rotate_left
      · (intro w hSw; (try dsimp only at hSw); go_simp; first | done | with_reducible rfl)
      try simp only [List.setIfInBounds_toArray, List.set_cons_zero, List.set_cons_succ]
      refine reg_take (i := 19) (d := 32) (v := ?_) [] rfl rfl (by kernel_rfl) (by kernel_rfl) (fun _ _ _ h => h) (Or.inl ⟨by rfl, ?_⟩) (by assumption) ?_
      rotate_left
      · (intro w hSw; (try dsimp only at hSw); go_simp; first | done | with_reducible rfl)
      try simp only [List.setIfInBounds_toArray, List.set_cons_zero, List.set_cons_succ]
      refine reg_take (i := 20) (d := 33) (v := ?_) [] rfl rfl (by kernel_rfl) (by kernel_rfl) (fun _ _ _ h => h) (Or.inl ⟨by rfl, ?_⟩) (by assumption) ?_
      rotate_left
      · (intro w hSw; (try dsimp only at hSw); go_simp; first | done | with_reducible rfl)
      try simp only [List.setIfInBounds_toArray, List.set_cons_zero, List.set_cons_succ]
      refine reg_take (i := 21) (d := 34) (v := ?_) [] rfl rfl (by kernel_rfl) (by kernel_rfl) (fun _ _ _ h => h) (Or.inl ⟨by rfl, ?_⟩) (by assumption) ?_
      rotate_left
      · (intro w hSw; (try dsimp only at hSw); go_simp; first | done | with_reducible rfl)
      try simp only [List.setIfInBounds_toArray, List.set_cons_zero, List.set_cons_succ]
      refine reg_take (i := 22) (d := 35) (v := ?_) [] rfl rfl (by kernel_rfl) (by kernel_rfl) (fun _ _ _ h => h) (Or.inl ⟨by rfl, ?_⟩) (by assumption) ?_
      rotate_left
      · (intro w hSw; (try dsimp only at hSw); go_simp; first | done | with_reducible rfl)
      try simp only [List.setIfInBounds_toArray, List.set_cons_zero, List.set_cons_succ]
      refine reg_take (i := 23) (d := 36) (v := ?_) [] rfl rfl (by kernel_rfl) (by kernel_rfl) (fun _ _ _ h => h) (Or.inl ⟨by rfl, ?_⟩) (by assumption) ?_
      rotate_left
      · (intro w hSw; (try dsimp only at hSw); go_simp; first | done | with_reducible rfl)
      try simp only [List.setIfInBounds_toArray, List.set_cons_zero, List.set_cons_succ]
      refine reg_take (i := 24) (d := 37) (v := ?_) [] rfl rfl (by kernel_rfl) (by kernel_rfl) (fun _ _ _ h => h) (Or.inl ⟨by rfl, ?_⟩) (by assumption) ?_
      rotate_left
      · (intro w hSw; (try dsimp only at hSw); go_simp; first | done | with_reducible rfl)
      try simp only [List.setIfInBounds_toArray, List.set_cons_zero, List.set_cons_succ]
      refine reg_take (i := 25) (d := 38) (v := ?_) [] rfl rfl (by kernel_rfl) (by kernel_rfl) (fun _ _ _ h => h) (Or.inl ⟨by rfl, ?_⟩) (by assumption) ?_
      rotate_left
      · (intro w hSw; (try dsimp only at hSw); go_simp; first | done | with_reducible rfl)
      try simp only [List.setIfInBounds_toArray, List.set_cons_zero, List.set_cons_succ]
      refine reg_take (i := 26) (d := 39) (v := ?_) [] rfl rfl (by kernel_rfl) (by kernel_rfl) (fun _ _ _ h => h) (Or.inl ⟨by rfl, ?_⟩) (by assumption) ?_
      rotate_left
      · (intro w hSw; (try dsimp only at hSw); go_simp; first | done | with_reducible rfl)
      try simp only [List.setIfInBounds_toArray, List.set_cons_zero, List.set_cons_succ]
      refine reg_take (i := 27) (d := 40) (v := ?_) [] rfl rfl (by kernel_rfl) (by kernel_rfl) (fun _ _ _ h => h) (Or.inl ⟨by rfl, ?_⟩) (by assumption) ?_
      rotate_left
      · (intro w hSw; (try dsimp only at hSw); go_simp; first | done | with_reducible rfl)
      try simp only [List.setIfInBounds_toArray, List.set_cons_zero, List.set_cons_succ]
      refine wpAnyL_ready (rs := [28]) (by kernel_rfl) rfl ?_
      refine (AllL.cons rfl (fun K hK => ?_) AllL.nil)
      go_simp
      go_at_call 21
      refine (rleft_sep HS.out HGD.out).mono ?_
      simp only [HN.out.1, HN.out.2]
      rintro e5 w5 ⟨rfl, hS5⟩
      have HS := Lib.hid hS5
      clear hS5
      go_simp
      refine hK.out _ _ (HC.out _ HS.out) (fun hHeld => ?_)
      try simp only [List.setIfInBounds_toArray, List.set_cons_zero, List.set_cons_succ]
      refine reg_take (i := 29) (d := 42) (v := ?_) [] rfl rfl (by kernel_rfl) (by kernel_rfl) (fun _ _ _ h => h) (Or.inl ⟨by rfl, ?_⟩) (by assumption) ?_
      rotate_left
      · (intro w hSw; (try dsimp only at hSw); go_simp; first | done | with_reducible rfl)
      try simp only [List.setIfInBounds_toArray, List.set_cons_zero, List.set_cons_succ]
      refine reg_take (i := 30) (d := 43) (v := ?_) [] rfl rfl (by kernel_rfl) (by kernel_rfl) (fun _ _ _ h => h) (Or.inl ⟨by rfl, ?_⟩) (by assumption) ?_
      rotate_left
      · (intro w hSw; (try dsimp only at hSw); go_simp; first | done | with_reducible rfl)
      try simp only [List.setIfInBounds_toArray, List.set_cons_zero, List.set_cons_succ]
      refine reg_take (i := 31) (d := 44) (v := ?_) [] rfl rfl (by kernel_rfl) (by kernel_rfl) (fun _ _ _ h => h) (Or.inl ⟨by rfl, ?_⟩) (by assumption) ?_
      rotate_left
      · (intro w hSw; (try dsimp only at hSw); go_simp; first | done | with_reducible rfl)
      try simp only [List.setIfInBounds_toArray, List.set_cons_zero, List.set_cons_succ]
      refine reg_take (i := 32) (d := 45) (v := undef) [] rfl rfl (by kernel_rfl) (by kernel_rfl) (fun _ _ _ h => h) (Or.inr ⟨by rfl, rfl⟩) (by assumption) ?_
      try simp only [List.setIfInBounds_toArray, List.set_cons_zero, List.set_cons_succ]
      refine reg_take (i := 33) (d := 46) (v := undef) [] rfl rfl (by kernel_rfl) (by kernel_rfl) (fun _ _ _ h => h) (Or.inr ⟨by rfl, rfl⟩) (by assumption) ?_
      try simp only [List.setIfInBounds_toArray, List.set_cons_zero, List.set_cons_succ]
      refine reg_take (i := 34) (d := 47) (v := undef) [] rfl rfl (by kernel_rfl) (by kernel_rfl) (fun _ _ _ h => h) (Or.inr ⟨by rfl, rfl⟩) (by assumption) ?_
      try simp only [List.setIfInBounds_toArray, List.set_cons_zero, List.set_cons_succ]
      refine reg_take (i := 35) (d := 48) (v := undef) [] rfl rfl (by kernel_rfl) (by kernel_rfl) (fun _ _ _ h => h) (Or.inr ⟨by rfl, rfl⟩) (by assumption) ?_
      try simp only [List.setIfInBounds_toArray, List.set_cons_zero, List.set_cons_succ]
      refine reg_take (i := 36) (d := 49) (v := undef) [] rfl rfl (by kernel_rfl) (by kernel_rfl) (fun _ _ _ h => h) (Or.inr ⟨by rfl, rfl⟩) (by assumption) ?_
      try simp only [List.setIfInBounds_toArray, List.set_cons_zero, List.set_cons_succ]
      refine reg_take (i := 37) (d := 50) (v := undef) [] rfl rfl (by kernel_rfl) (by kernel_rfl) (fun _ _ _ h => h) (Or.inr ⟨by rfl, rfl⟩) (by assumption) ?_
      try simp only [List.setIfInBounds_toArray, List.set_cons_zero, List.set_cons_succ]
      refine reg_take (i := 38) (d := 51) (v := undef) [] rfl rfl (by kernel_rfl) (by kernel_rfl) (fun _ _ _ h => h) (Or.inr ⟨by rfl, rfl⟩) (by assumption) ?_
      try simp only [List.setIfInBounds_toArray, List.set_cons_zero, List.set_cons_succ]
      refine reg_take (i := 39) (d := 52) (v := undef) [] rfl rfl (by kernel_rfl) (by kernel_rfl) (fun _ _ _ h => h) (Or.inr ⟨by rfl, rfl⟩) (by assumption) ?_
      try simp only [List.setIfInBounds_toArray, List.set_cons_zero, List.set_cons_succ]
      refine reg_take (i := 40) (d := 53) (v := undef) [] rfl rfl (by kernel_rfl) (by kernel_rfl) (fun _ _ _ h => h) (Or.inr ⟨by rfl, rfl⟩) (by assumption) ?_
      try simp only [List.setIfInBounds_toArray, List.set_cons_zero, List.set_cons_succ]
      refine reg_take (i := 41) (d := 54) (v := ?_) [] rfl rfl (by kernel_rfl) (by kernel_rfl) (fun _ _ _ h => h) (Or.inl ⟨by rfl, ?_⟩) (by assumption) ?_
      rotate_left
      · (intro w hSw; (try dsimp only at hSw); go_simp; first | done | with_reducible rfl)
      try simp only [List.setIfInBounds_toArray, List.set_cons_zero, List.set_cons_succ]
      refine wpAnyL_done (by kernel_rfl) ?_ _
      go_wp2_with fail
      go_ret
      exact ⟨ret_bool HF.out.2.symm, _, by rw [HF.out.1]; exact HS.out.d3.d2⟩
    have f5 : ¬ ((n : Int) - (m : Int) = 0) := by omega
    have f5' : ((n : Int) - (m : Int) == 0) = false := beq_eq_false_iff_ne.2 f5
    have f7 : IntKind.i64.wrap ((m : Int) + 1) = (m : Int) + 1 := IntWalk.i64_in _ (by omega)
    by_cases c6 : c0 = (m : Int) + 1
    rotate_left
    · have f6 : (c0 != (m : Int) + 1) = true := bne_iff_ne.2 c6
      have f6' : ¬ c0 = (m : Int) + 1 := c6
      have HF := Lib.hid (ctake_no (c := ⟨tp, nd, cs, rs⟩) (x := ⟨1, tp, body⟩) (e0 := 0) (m := ⟨15, a, bb, c0, d, ee, er, p0, p1, p2, p3, s, t⟩) (by rintro ⟨j1, j2, j3, j4, j5, j6⟩; simp only at j1 j2 j3 j4 j5 j6; rw [HN.out.2] at j6; exact c6 j6))
      clear c6
      have HC : Hid (∀ w', Sep w w' (tCli tRc b (.slice A1 n q1) (.slice A2 m q2) ⟨tp, nd, cs, rs⟩ :: tBlk gM #[.int .i64 15, .int .i64 a, .int .i64 bb, .int .i64 c0, .int .i64 d, .int .i64 ee, .int .i64 er, .int .i64 p0, .int .i64 p1, .int .i64 p2, .int .i64 p3, .string s, .string t] tMsg :: tBlk gL #[.int .i64 1, .int .i64 tp, .string body] tLt :: l) → w'.cell? ⟨gL, 0, none⟩ = some (.int .i64 1) ∧ w'.cell? ⟨gL, 1, none⟩ = some (.int .i64 tp) ∧ w'.cell? ⟨gM, 0, none⟩ = some (.int .i64 15) ∧ w'.cell? ⟨gM, 3, none⟩ = some (.int .i64 c0) ∧ w'.cell? ⟨b, 0, none⟩ = some (.int .i64 tp) ∧ w'.cell? ⟨b, 2, none⟩ = some (.slice A2 m q2)) := Lib.hid (fun w' h => ⟨(show Blk w' gL #[.int .i64 1, .int .i64 tp, .string body] tLt from h.h3).cell 0, (show Blk w' gL #[.int .i64 1, .int .i64 tp, .string body] tLt from h.h3).cell 1, (show Blk w' gM #[.int .i64 15, .int .i64 a, .int .i64 bb, .int .i64 c0, .int .i64 d, .int .i64 ee, .int .i64 er, .int .i64 p0, .int .i64 p1, .int .i64 p2, .int .i64 p3, .string s, .string t] tMsg from h.h2).cell 0, (show Blk w' gM #[.int .i64 15, .int .i64 a, .int .i64 bb, .int .i64 c0, .int .i64 d, .int .i64 ee, .int .i64 er, .int .i64 p0, .int .i64 p1, .int .i64 p2, .int .i64 p3, .string s, .string t] tMsg from h.h2).cell 3, h.cliCells.1, h.cliCells.2.2.1⟩)
      have HS := Lib.hid HS.out.drew
      refine wp_region_L (fun w' => w'.cell? ⟨gL, 0, none⟩ = some (.int .i64 1) ∧ w'.cell? ⟨gL, 1, none⟩ = some (.int .i64 tp) ∧ w'.cell? ⟨gM, 0, none⟩ = some (.int .i64 15) ∧ w'.cell? ⟨gM, 3, none⟩ = some (.int .i64 c0) ∧ w'.cell? ⟨b, 0, none⟩ = some (.int .i64 tp) ∧ w'.cell? ⟨b, 2, none⟩ = some (.slice A2 m q2)) 42 (by kernel_rfl) (HC.out _ HS.out) (fun hHeld => ?_)
      refine reg_take (i := 0) (d := 13) (v := ?_) [] rfl rfl (by kernel_rfl) (by kernel_rfl) (fun _ _ _ h => h) (Or.inl ⟨by rfl, ?_⟩) (by assumption) ?_
      rotate_left
      · (intro w hSw; (try dsimp only at hSw); go_simp; first | done | with_reducible rfl)
      try simp only [List.setIfInBounds_toArray, List.set_cons_zero, List.set_cons_succ]
      refine reg_take (i := 1) (d := 14) (v := ?_) [] rfl rfl (by kernel_rfl) (by kernel_rfl) (fun _ _ _ h => h) (Or.inl ⟨by rfl, ?_⟩) (by assumption) ?_
      rotate_left
      · (intro w hSw; (try dsimp only at hSw); go_simp; first | done | with_reducible rfl)
      try simp only [List.setIfInBounds_toArray, List.set_cons_zero, List.set_cons_succ]
      refine reg_take (i := 2) (d := 15) (v := ?_) [] rfl rfl (by kernel_rfl) (by kernel_rfl) (fun _ _ _ h => h) (Or.inl ⟨by rfl, ?_⟩) (by assumption) ?_
      rotate_left
      · (intro w hSw; (try dsimp only at hSw); go_simp; first | done | with_reducible rfl)
      try simp only [List.setIfInBounds_toArray, List.set_cons_zero, List.set_cons_succ]
      refine reg_take (i := 3) (d := 16) (v := ?_) [] rfl rfl (by kernel_rfl) (by kernel_rfl) (fun _ _ _ h => h) (Or.inl ⟨by rfl, ?_⟩) (by assumption) ?_
      rotate_left
      · (intro w hSw; (try dsimp only at hSw); go_simp; first | done | with_reducible rfl)
      try simp only [List.setIfInBounds_toArray, List.set_cons_zero, List.set_cons_succ]
      refine reg_take (i := 4) (d := 17) (v := ?_) [] rfl rfl (by kernel_rfl) (by kernel_rfl) (fun _ _ _ h => h) (Or.inl ⟨by rfl, ?_⟩) (by assumption) ?_
      rotate_left
      · (intro w hSw; (try dsimp only at hSw); go_simp; first | done | with_reducible rfl)
      try simp only [List.setIfInBounds_toArray, List.set_cons_zero, List.set_cons_succ]
      refine reg_take (i := 5) (d := 18) (v := ?_) [] rfl rfl (by kernel_rfl) (by kernel_rfl) (fun _ _ _ h => h) (Or.inl ⟨by rfl, ?_⟩) (by assumption) ?_
      rotate_left
      · (intro w hSw; (try dsimp only at hSw); go_simp; first | done | with_reducible rfl)
      try simp only [List.setIfInBounds_toArray, List.set_cons_zero, List.set_cons_succ]
      refine reg_take (i := 6) (d := 19) (v := ?_) [] rfl rfl (by kernel_rfl) (by kernel_rfl) (fun _ _ _ h => h) (Or.inl ⟨by rfl, ?_⟩) (by assumption) ?_
      rotate_left
      · (intro w hSw; (try dsimp only at hSw); go_simp; first | done | with_reducible rfl)
      try simp only [List.setIfInBounds_toArray, List.set_cons_zero, List.set_cons_succ]
      refine reg_take (i := 7) (d := 20) (v := ?_) [] rfl rfl (by kernel_rfl) (by kernel_rfl) (fun _ _ _ h => h) (Or.inl ⟨by rfl, ?_⟩) (by assumption) ?_
      rotate_left
      · (intro w hSw; (try dsimp only at hSw); go_simp; first | done | with_reducible rfl)
      try simp only [List.setIfInBounds_toArray, List.set_cons_zero, List.set_cons_succ]
      refine reg_take (i := 8) (d := 21) (v := ?_) [] rfl rfl (by kernel_rfl) (by kernel_rfl) (fun _ _ _ h => h) (Or.inl ⟨by rfl, ?_⟩) (by assumption) ?_
      rotate_left
      · (intro w hSw; (try dsimp only at hSw); go_simp; first | done | with_reducible rfl)
      try simp only [List.setIfInBounds_toArray, List.set_cons_zero, List.set_cons_succ]
      refine reg_take (i := 9) (d := 22) (v := ?_) [] rfl rfl (by kernel_rfl) (by kernel_rfl) (fun _ _ _ h => h) (Or.inl ⟨by rfl, ?_⟩) (by assumption) ?_
      rotate_left
      · (intro w hSw; (try dsimp only at hSw); go_simp; first | done | with_reducible rfl)
      try simp only [List.setIfInBounds_toArray, List.set_cons_zero, List.set_cons_succ]
      refine reg_take (i := 10) (d := 23) (v := ?_) [] rfl rfl (by kernel_rfl) (by kernel_rfl) (fun _ _ _ h => h) (Or.inl ⟨by rfl, ?_⟩) (by assumption) ?_
      rotate_left
      · (intro w hSw; (try dsimp only at hSw); go_simp; first | done | with_reducible rfl)
      try simp only [List.setIfInBounds_toArray, List.set_cons_zero, List.set_cons_succ]
      refine reg_take (i := 11) (d := 24) (v := ?_) [] rfl rfl (by kernel_rfl) (by kernel_rfl) (fun _ _ _ h => h) (Or.inl ⟨by rfl, ?_⟩) (by assumption) ?_
      rotate_left
      · (intro w hSw; (try dsimp only at hSw); go_simp; first | done | with_reducible rfl)
      try simp only [List.setIfInBounds_toArray, List.set_cons_zero, List.set_cons_succ]
      refine reg_take (i := 12) (d := 25) (v := ?_) [] rfl rfl (by kernel_rfl) (by kernel_rfl) (fun _ _ _ h => h) (Or.inl ⟨by rfl, ?_⟩) (by assumption) ?_
      rotate_left
      · (intro w hSw; (try dsimp only at hSw); go_simp; first | done | with_reducible rfl)
      try simp only [List.setIfInBounds_toArray, List.set_cons_zero, List.set_cons_succ]
      refine reg_take (i := 13) (d := 26) (v := ?_) [] rfl rfl (by kernel_rfl) (by kernel_rfl) (fun _ _ _ h => h) (Or.inl ⟨by rfl, ?_⟩) (by assumption) ?_
      rotate_left
      · (intro w hSw; (try dsimp only at hSw); go_simp; first | done | with_reducible rfl)
      try simp only [List.setIfInBounds_toArray, List.set_cons_zero, List.set_cons_succ]
      refine reg_take (i := 14) (d := 27) (v := ?_) [] rfl rfl (by kernel_rfl) (by kernel_rfl) (fun _ _ _ h => h) (Or.inl ⟨by rfl, ?_⟩) (by assumption) ?_
      rotate_left
      · (intro w hSw; (try dsimp only at hSw); go_simp; first | done | with_reducible rfl)
      try simp only [List.setIfInBounds_toArray, List.set_cons_zero, List.set_cons_succ]
      refine reg_take (i := 15) (d := 28) (v := ?_) [] rfl rfl (by kernel_rfl) (by kernel_rfl) (fun _ _ _ h => h) (Or.inl ⟨by rfl, ?_⟩) (by assumption) ?_
      rotate_left
      · (intro w hSw; (try dsimp only at hSw); go_simp; first | done | with_reducible rfl)
      try simp only [List.setIfInBounds_toArray, List.set_cons_zero, List.set_cons_succ]
      refine reg_take (i := 16) (d := 29) (v := ?_) [] rfl rfl (by kernel_rfl) (by kernel_rfl) (fun _ _ _ h => h) (Or.inl ⟨by rfl, ?_⟩) (by assumption) ?_
      rotate_left
      · (intro w hSw; (try dsimp only at hSw); go_simp; first | done | with_reducible rfl)
      try simp only [List.setIfInBounds_toArray, List.set_cons_zero, List.set_cons_succ]
      refine reg_take (i := 17) (d := 30) (v := ?_) [] rfl rfl (by kernel_rfl) (by kernel_rfl) (fun _ _ _ h => h) (Or.inl ⟨by rfl, ?_⟩) (by assumption) ?_
      rotate_left
      · (intro w hSw; (try dsimp only at hSw); go_simp; first | done | with_reducible rfl)
      try simp only [List.setIfInBounds_toArray, List.set_cons_zero, List.set_cons_succ]
      refine reg_take (i := 18) (d := 31) (v := ?_) [] rfl rfl (by kernel_rfl) (by kernel_rfl) (fun _ _ _ h => h) (Or.inl ⟨by rfl, ?_⟩) (by assumption) ?_
      rotate_left
      · (intro w hSw; (try dsimp only at hSw); go_simp; first | done | with_reducible rfl)
      try simp only [List.setIfInBounds_toArray, List.set_cons_zero, List.set_cons_succ]
      refine reg_take (i := 19) (d := 32) (v := ?_) [] rfl rfl (by kernel_rfl) (by kernel_rfl) (fun _ _ _ h => h) (Or.inl ⟨by rfl, ?_⟩) (by assumption) ?_
      rotate_left
      · (intro w hSw; (try dsimp only at hSw); go_simp; first | done | with_reducible rfl)
      try simp only [List.setIfInBounds_toArray, List.set_cons_zero, List.set_cons_succ]
      refine reg_take (i := 20) (d := 33) (v := ?_) [] rfl rfl (by kernel_rfl) (by kernel_rfl) (fun _ _ _ h => h) (Or.inl ⟨by rfl, ?_⟩) (by assumption) ?_
      rotate_left
      · (intro w hSw; (try dsimp only at hSw); go_simp; first | done | with_reducible rfl)
      try simp only [List.setIfInBounds_toArray, List.set_cons_zero, List.set_cons_succ]
      refine reg_take (i := 21) (d := 34) (v := ?_) [] rfl rfl (by kernel_rfl) (by kernel_rfl) (fun _ _ _ h => h) (Or.inl ⟨by rfl, ?_⟩) (by assumption) ?_
      rotate_left
      · (intro w hSw; (try dsimp only at hSw); go_simp; first | done | with_reducible rfl)
      try simp only [List.setIfInBounds_toArray, List.set_cons_zero, List.set_cons_succ]
      refine reg_take (i := 22) (d := 35) (v := ?_) [] rfl rfl (by kernel_rfl) (by kernel_rfl) (fun _ _ _ h => h) (Or.inl ⟨by rfl, ?_⟩) (by assumption) ?_
      rotate_left
      · (intro w hSw; (try dsimp only at hSw); go_simp; first | done | with_reducible rfl)
      try simp only [List.setIfInBounds_toArray, List.set_cons_zero, List.set_cons_succ]
      refine reg_take (i := 23) (d := 36) (v := ?_) [] rfl rfl (by kernel_rfl) (by kernel_rfl) (fun _ _ _ h => h) (Or.inl ⟨by rfl, ?_⟩) (by assumption) ?_
      rotate_left
      · (intro w hSw; (try dsimp only at hSw); go_simp; first | done | with_reducible rfl)
      try simp only [List.setIfInBounds_toArray, List.set_cons_zero, List.set_cons_succ]
      refine reg_take (i := 24) (d := 37) (v := ?_) [] rfl rfl (by kernel_rfl) (by kernel_rfl) (fun _ _ _ h => h) (Or.inl ⟨by rfl, ?_⟩) (by assumption) ?_
      rotate_left
      · (intro w hSw; (try dsimp only at hSw); go_simp; first | done | with_reducible rfl)
      try simp only [List.setIfInBounds_toArray, List.set_cons_zero, List.set_cons_succ]
      refine reg_take (i := 25) (d := 38) (v := ?_) [] rfl rfl (by kernel_rfl) (by kernel_rfl) (fun _ _ _ h => h) (Or.inl ⟨by rfl, ?_⟩) (by assumption) ?_
      rotate_left
      · (intro w hSw; (try dsimp only at hSw); go_simp; first | done | with_reducible rfl)
      try simp only [List.setIfInBounds_toArray, List.set_cons_zero, List.set_cons_succ]
      refine reg_take (i := 26) (d := 39) (v := ?_) [] rfl rfl (by kernel_rfl) (by kernel_rfl) (fun _ _ _ h => h) (Or.inl ⟨by rfl, ?_⟩) (by assumption) ?_
      rotate_left
      · (intro w hSw; (try dsimp only at hSw); go_simp; first | done | with_reducible rfl)
      try simp only [List.setIfInBounds_toArray, List.set_cons_zero, List.set_cons_succ]
      refine reg_take (i := 27) (d := 40) (v := ?_) [] rfl rfl (by kernel_rfl) (by kernel_rfl) (fun _ _ _ h => h) (Or.inl ⟨by rfl, ?_⟩) (by assumption) ?_
      rotate_left
      · (intro w hSw; (try dsimp only at hSw); go_simp; first | done | with_reducible rfl)
      try simp only [List.setIfInBounds_toArray, List.set_cons_zero, List.set_cons_succ]
      refine wpAnyL_ready (rs := [28]) (by kernel_rfl) rfl ?_
      refine (AllL.cons rfl (fun K hK => ?_) AllL.nil)
      go_simp
      go_at_call 21
      refine (rleft_sep HS.out HGD.out).mono ?_
      simp only [HN.out.1, HN.out.2]
      rintro e5 w5 ⟨rfl, hS5⟩
      have HS := Lib.hid hS5
      clear hS5
      go_simp
      refine hK.out _ _ (HC.out _ HS.out) (fun hHeld => ?_)
      try simp only [List.setIfInBounds_toArray, List.set_cons_zero, List.set_cons_succ]
      refine reg_take (i := 29) (d := 42) (v := ?_) [] rfl rfl (by kernel_rfl) (by kernel_rfl) (fun _ _ _ h => h) (Or.inl ⟨by rfl, ?_⟩) (by assumption) ?_
      rotate_left
      · (intro w hSw; (try dsimp only at hSw); go_simp; first | done | with_reducible rfl)
      try simp only [List.setIfInBounds_toArray, List.set_cons_zero, List.set_cons_succ]
      refine reg_take (i := 30) (d := 43) (v := ?_) [] rfl rfl (by kernel_rfl) (by kernel_rfl) (fun _ _ _ h => h) (Or.inl ⟨by rfl, ?_⟩) (by assumption) ?_
      rotate_left
      · (intro w hSw; (try dsimp only at hSw); go_simp; first | done | with_reducible rfl)
      try simp only [List.setIfInBounds_toArray, List.set_cons_zero, List.set_cons_succ]
      refine reg_take (i := 31) (d := 44) (v := ?_) [] rfl rfl (by kernel_rfl) (by kernel_rfl) (fun _ _ _ h => h) (Or.inl ⟨by rfl, ?_⟩) (by assumption) ?_
      rotate_left
      · (intro w hSw; (try dsimp only at hSw); go_simp; first | done | with_reducible rfl)
      try simp only [List.setIfInBounds_toArray, List.set_cons_zero, List.set_cons_succ]
      refine reg_take (i := 32) (d := 45) (v := ?_) [] rfl rfl (by kernel_rfl) (by kernel_rfl) (fun _ _ _ h => h) (Or.inl ⟨by rfl, ?_⟩) (by assumption) ?_
      rotate_left
      · (intro w hSw; (try dsimp only at hSw); go_simp; first | done | with_reducible rfl)
      try simp only [List.setIfInBounds_toArray, List.set_cons_zero, List.set_cons_succ]
      refine reg_take (i := 33) (d := 46) (v := ?_) [] rfl rfl (by kernel_rfl) (by kernel_rfl) (fun _ _ _ h => h) (Or.inl ⟨by rfl, ?_⟩) (by assumption) ?_
      rotate_left
      · (intro w hSw; (try dsimp only at hSw); go_simp; first | done | with_reducible rfl)
      try simp only [List.setIfInBounds_toArray, List.set_cons_zero, List.set_cons_succ]
      refine reg_take (i := 34) (d := 47) (v := ?_) [] rfl rfl (by kernel_rfl) (by kernel_rfl) (fun _ _ _ h => h) (Or.inl ⟨by rfl, ?_⟩) (by assumption) ?_
      rotate_left
      · (intro w hSw; (try dsimp only at hSw); go_simp; first | done | with_reducible rfl)
      try simp only [List.setIfInBounds_toArray, List.set_cons_zero, List.set_cons_succ]
      refine reg_take (i := 35) (d := 48) (v := ?_) [] rfl rfl (by kernel_rfl) (by kernel_rfl) (fun _ _ _ h => h) (Or.inl ⟨by rfl, ?_⟩) (by assumption) ?_
      rotate_left
      · (intro w hSw; (try dsimp only at hSw); go_simp; first | done | with_reducible rfl)
      try simp only [List.setIfInBounds_toArray, List.set_cons_zero, List.set_cons_succ]
      refine reg_take (i := 36) (d := 49) (v := ?_) [] rfl rfl (by kernel_rfl) (by kernel_rfl) (fun _ _ _ h => h) (Or.inl ⟨by rfl, ?_⟩) (by assumption) ?_
      rotate_left
      · (intro w hSw; (try dsimp only at hSw); go_simp; first | done | with_reducible rfl)
      try simp only [List.setIfInBounds_toArray, List.set_cons_zero, List.set_cons_succ]
      refine reg_take (i := 37) (d := 50) (v := ?_) [] rfl rfl (by kernel_rfl) (by kernel_rfl) (fun _ _ _ h => h) (Or.inl ⟨by rfl, ?_⟩) (by assumption) ?_
      rotate_left
      · (intro w hSw; (try dsimp only at hSw); go_simp; first | done | with_reducible rfl)
      try simp only [List.setIfInBounds_toArray, List.set_cons_zero, List.set_cons_succ]
      refine reg_take (i := 38) (d := 51) (v := ?_) [] rfl rfl (by kernel_rfl) (by kernel_rfl) (fun _ _ _ h => h) (Or.inl ⟨by rfl, ?_⟩) (by assumption) ?_
      rotate_left
      · (intro w hSw; (try dsimp only at hSw); go_simp; first | done | with_reducible rfl)
      try simp only [List.setIfInBounds_toArray, List.set_cons_zero, List.set_cons_succ]
      refine reg_take (i := 39) (d := 52) (v := ?_) [] rfl rfl (by kernel_rfl) (by kernel_rfl) (fun _ _ _ h => h) (Or.inl ⟨by rfl, ?_⟩) (by assumption) ?_
      rotate_left
      · (intro w hSw; (try dsimp only at hSw); go_simp; first | done | with_reducible rfl)
      try simp only [List.setIfInBounds_toArray, List.set_cons_zero, List.set_cons_succ]
      refine reg_take (i := 40) (d := 53) (v := ?_) [] rfl rfl (by kernel_rfl) (by kernel_rfl) (fun _ _ _ h => h) (Or.inl ⟨by rfl, ?_⟩) (by assumption) ?_
      rotate_left
      · (intro w hSw; (try dsimp only at hSw); go_simp; first | done | with_reducible rfl)
      try simp only [List.setIfInBounds_toArray, List.set_cons_zero, List.set_cons_succ]
      refine reg_take (i := 41) (d := 54) (v := ?_) [] rfl rfl (by kernel_rfl) (by kernel_rfl) (fun _ _ _ h => h) (Or.inl ⟨by rfl, ?_⟩) (by assumption) ?_
      rotate_left
      · (intro w hSw; (try dsimp only at hSw); go_simp; first | done | with_reducible rfl)
      try simp only [List.setIfInBounds_toArray, List.set_cons_zero, List.set_cons_succ]
      refine wpAnyL_done (by kernel_rfl) ?_ _
      go_wp2_with fail
      go_ret
      exact ⟨ret_bool HF.out.2.symm, _, by rw [HF.out.1]; exact HS.out.d3.d2⟩
    subst c6
    have HH := Lib.hid (show (Cst.mk tp nd cs rs).hitsX ⟨1, tp, body⟩ 0 ⟨15, a, bb, (m : Int) + 1, d, ee, er, p0, p1, p2, p3, s, t⟩ from ⟨rfl, rfl, (.inr rfl), rfl, by simp only; rw [HN.out.1, HN.out.2]; exact c5, by simp only; rw [HN.out.2]⟩)
    have HC : Hid (∀ w', Sep w w' (tCli tRc b (.slice A1 n q1) (.slice A2 m q2) ⟨tp, nd, cs, rs⟩ :: tBlk gM #[.int .i64 15, .int .i64 a, .int .i64 bb, .int .i64 ((m : Int) + 1), .int .i64 d, .int .i64 ee, .int .i64 er, .int .i64 p0, .int .i64 p1, .int .i64 p2, .int .i64 p3, .string s, .string t] tMsg :: tBlk gL #[.int .i64 1, .int .i64 tp, .string body] tLt :: l) → w'.cell? ⟨gL, 0, none⟩ = some (.int .i64 1) ∧ w'.cell? ⟨gL, 1, none⟩ = some (.int .i64 tp) ∧ w'.cell? ⟨gM, 0, none⟩ = some (.int .i64 15) ∧ w'.cell? ⟨gM, 3, none⟩ = some (.int .i64 ((m : Int) + 1)) ∧ w'.cell? ⟨b, 0, none⟩ = some (.int .i64 tp) ∧ w'.cell? ⟨b, 2, none⟩ = some (.slice A2 m q2)) := Lib.hid (fun w' h => ⟨(show Blk w' gL #[.int .i64 1, .int .i64 tp, .string body] tLt from h.h3).cell 0, (show Blk w' gL #[.int .i64 1, .int .i64 tp, .string body] tLt from h.h3).cell 1, (show Blk w' gM #[.int .i64 15, .int .i64 a, .int .i64 bb, .int .i64 ((m : Int) + 1), .int .i64 d, .int .i64 ee, .int .i64 er, .int .i64 p0, .int .i64 p1, .int .i64 p2, .int .i64 p3, .string s, .string t] tMsg from h.h2).cell 0, (show Blk w' gM #[.int .i64 15, .int .i64 a, .int .i64 bb, .int .i64 ((m : Int) + 1), .int .i64 d, .int .i64 ee, .int .i64 er, .int .i64 p0, .int .i64 p1, .int .i64 p2, .int .i64 p3, .string s, .string t] tMsg from h.h2).cell 3, h.cliCells.1, h.cliCells.2.2.1⟩)
    have HS := Lib.hid HS.out.drew
    refine wp_region_L (fun w' => w'.cell? ⟨gL, 0, none⟩ = some (.int .i64 1) ∧ w'.cell? ⟨gL, 1, none⟩ = some (.int .i64 tp) ∧ w'.cell? ⟨gM, 0, none⟩ = some (.int .i64 15) ∧ w'.cell? ⟨gM, 3, none⟩ = some (.int .i64 ((m : Int) + 1)) ∧ w'.cell? ⟨b, 0, none⟩ = some (.int .i64 tp) ∧ w'.cell? ⟨b, 2, none⟩ = some (.slice A2 m q2)) 42 (by kernel_rfl) (HC.out _ HS.out) (fun hHeld => ?_)
    refine reg_take (i := 0) (d := 13) (v := ?_) [] rfl rfl (by kernel_rfl) (by kernel_rfl) (fun _ _ _ h => h) (Or.inl ⟨by rfl, ?_⟩) (by assumption) ?_
    rotate_left
    · (intro w hSw; (try dsimp only at hSw); go_simp; first | done | with_reducible rfl)
    try simp only [List.setIfInBounds_toArray, List.set_cons_zero, List.set_cons_succ]
    refine reg_take (i := 1) (d := 14) (v := ?_) [] rfl rfl (by kernel_rfl) (by kernel_rfl) (fun _ _ _ h => h) (Or.inl ⟨by rfl, ?_⟩) (by assumption) ?_
    rotate_left
    · (intro w hSw; (try dsimp only at hSw); go_simp; first | done | with_reducible rfl)
    try simp only [List.setIfInBounds_toArray, List.set_cons_zero, List.set_cons_succ]
    refine reg_take (i := 2) (d := 15) (v := ?_) [] rfl rfl (by kernel_rfl) (by kernel_rfl) (fun _ _ _ h => h) (Or.inl ⟨by rfl, ?_⟩) (by assumption) ?_
    rotate_left
    · (intro w hSw; (try dsimp only at hSw); go_simp; first | done | with_reducible rfl)
    try simp only [List.setIfInBounds_toArray, List.set_cons_zero, List.set_cons_succ]
    refine reg_take (i := 3) (d := 16) (v := ?_) [] rfl rfl (by kernel_rfl) (by kernel_rfl) (fun _ _ _ h => h) (Or.inl ⟨by rfl, ?_⟩) (by assumption) ?_
    rotate_left
    · (intro w hSw; (try dsimp only at hSw); go_simp; first | done | with_reducible rfl)
    try simp only [List.setIfInBounds_toArray, List.set_cons_zero, List.set_cons_succ]
    refine reg_take (i := 4) (d := 17) (v := ?_) [] rfl rfl (by kernel_rfl) (by kernel_rfl) (fun _ _ _ h => h) (Or.inl ⟨by rfl, ?_⟩) (by assumption) ?_
    rotate_left
    · (intro w hSw; (try dsimp only at hSw); go_simp; first | done | with_reducible rfl)
    try simp only [List.setIfInBounds_toArray, List.set_cons_zero, List.set_cons_succ]
    refine reg_take (i := 5) (d := 18) (v := ?_) [] rfl rfl (by kernel_rfl) (by kernel_rfl) (fun _ _ _ h => h) (Or.inl ⟨by rfl, ?_⟩) (by assumption) ?_
    rotate_left
    · (intro w hSw; (try dsimp only at hSw); go_simp; first | done | with_reducible rfl)
    try simp only [List.setIfInBounds_toArray, List.set_cons_zero, List.set_cons_succ]
    refine reg_take (i := 6) (d := 19) (v := ?_) [] rfl rfl (by kernel_rfl) (by kernel_rfl) (fun _ _ _ h => h) (Or.inl ⟨by rfl, ?_⟩) (by assumption) ?_
    rotate_left
    · (intro w hSw; (try dsimp only at hSw); go_simp; first | done | with_reducible rfl)
    try simp only [List.setIfInBounds_toArray, List.set_cons_zero, List.set_cons_succ]
    refine reg_take (i := 7) (d := 20) (v := ?_) [] rfl rfl (by kernel_rfl) (by kernel_rfl) (fun _ _ _ h => h) (Or.inl ⟨by rfl, ?_⟩) (by assumption) ?_
    rotate_left
    · (intro w hSw; (try dsimp only at hSw); go_simp; first | done | with_reducible rfl)
    try simp only [List.setIfInBounds_toArray, List.set_cons_zero, List.set_cons_succ]
    refine reg_take (i := 8) (d := 21) (v := ?_) [] rfl rfl (by kernel_rfl) (by kernel_rfl) (fun _ _ _ h => h) (Or.inl ⟨by rfl, ?_⟩) (by assumption) ?_
    rotate_left
    · (intro w hSw; (try dsimp only at hSw); go_simp; first | done | with_reducible rfl)
    try simp only [List.setIfInBounds_toArray, List.set_cons_zero, List.set_cons_succ]
    refine reg_take (i := 9) (d := 22) (v := ?_) [] rfl rfl (by kernel_rfl) (by kernel_rfl) (fun _ _ _ h => h) (Or.inl ⟨by rfl, ?_⟩) (by assumption) ?_
    rotate_left
    · (intro w hSw; (try dsimp only at hSw); go_simp; first | done | with_reducible rfl)
    try simp only [List.setIfInBounds_toArray, List.set_cons_zero, List.set_cons_succ]
    refine reg_take (i := 10) (d := 23) (v := ?_) [] rfl rfl (by kernel_rfl) (by kernel_rfl) (fun _ _ _ h => h) (Or.inl ⟨by rfl, ?_⟩) (by assumption) ?_
    rotate_left
    · (intro w hSw; (try dsimp only at hSw); go_simp; first | done | with_reducible rfl)
    try simp only [List.setIfInBounds_toArray, List.set_cons_zero, List.set_cons_succ]
    refine reg_take (i := 11) (d := 24) (v := ?_) [] rfl rfl (by kernel_rfl) (by kernel_rfl) (fun _ _ _ h => h) (Or.inl ⟨by rfl, ?_⟩) (by assumption) ?_
    rotate_left
    · (intro w hSw; (try dsimp only at hSw); go_simp; first | done | with_reducible rfl)
    try simp only [List.setIfInBounds_toArray, List.set_cons_zero, List.set_cons_succ]
    refine reg_take (i := 12) (d := 25) (v := ?_) [] rfl rfl (by kernel_rfl) (by kernel_rfl) (fun _ _ _ h => h) (Or.inl ⟨by rfl, ?_⟩) (by assumption) ?_
    rotate_left
    · (intro w hSw; (try dsimp only at hSw); go_simp; first | done | with_reducible rfl)
    try simp only [List.setIfInBounds_toArray, List.set_cons_zero, List.set_cons_succ]
    refine reg_take (i := 13) (d := 26) (v := ?_) [] rfl rfl (by kernel_rfl) (by kernel_rfl) (fun _ _ _ h => h) (Or.inl ⟨by rfl, ?_⟩) (by assumption) ?_
    rotate_left
    · (intro w hSw; (try dsimp only at hSw); go_simp; first | done | with_reducible rfl)
    try simp only [List.setIfInBounds_toArray, List.set_cons_zero, List.set_cons_succ]
    refine reg_take (i := 14) (d := 27) (v := ?_) [] rfl rfl (by kernel_rfl) (by kernel_rfl) (fun _ _ _ h => h) (Or.inl ⟨by rfl, ?_⟩) (by assumption) ?_
    rotate_left
    · (intro w hSw; (try dsimp only at hSw); go_simp; first | done | with_reducible rfl)
    try simp only [List.setIfInBounds_toArray, List.set_cons_zero, List.set_cons_succ]
    refine reg_take (i := 15) (d := 28) (v := ?_) [] rfl rfl (by kernel_rfl) (by kernel_rfl) (fun _ _ _ h => h) (Or.inl ⟨by rfl, ?_⟩) (by assumption) ?_
    rotate_left
    · (intro w hSw; (try dsimp only at hSw); go_simp; first | done | with_reducible rfl)
    try simp only [List.setIfInBounds_toArray, List.set_cons_zero, List.set_cons_succ]
    refine reg_take (i := 16) (d := 29) (v := ?_) [] rfl rfl (by kernel_rfl) (by kernel_rfl) (fun _ _ _ h => h) (Or.inl ⟨by rfl, ?_⟩) (by assumption) ?_
    rotate_left
    · (intro w hSw; (try dsimp only at hSw); go_simp; first | done | with_reducible rfl)
    try simp only [List.setIfInBounds_toArray, List.set_cons_zero, List.set_cons_succ]
    refine reg_take (i := 17) (d := 30) (v := ?_) [] rfl rfl (by kernel_rfl) (by kernel_rfl) (fun _ _ _ h => h) (Or.inl ⟨by rfl, ?_⟩) (by assumption) ?_
    rotate_left
    · (intro w hSw; (try dsimp only at hSw); go_simp; first | done | with_reducible rfl)
    try simp only [List.setIfInBounds_toArray, List.set_cons_zero, List.set_cons_succ]
    refine reg_take (i := 18) (d := 31) (v := ?_) [] rfl rfl (by kernel_rfl) (by kernel_rfl) (fun _ _ _ h => h) (Or.inl ⟨by rfl, ?_⟩) (by assumption) ?_
    rotate_left
    · (intro w hSw; (try dsimp only at hSw); go_simp; first | done | with_reducible rfl)
    try simp only [List.setIfInBounds_toArray, List.set_cons_zero, List.set_cons_succ]
    refine reg_take (i := 19) (d := 32) (v := ?_) [] rfl rfl (by kernel_rfl) (by kernel_rfl) (fun _ _ _ h => h) (Or.inl ⟨by rfl, ?_⟩) (by assumption) ?_
    rotate_left
    · (intro w hSw; (try dsimp only at hSw); go_simp; first | done | with_reducible rfl)
    try simp only [List.setIfInBounds_toArray, List.set_cons_zero, List.set_cons_succ]
    refine reg_take (i := 20) (d := 33) (v := ?_) [] rfl rfl (by kernel_rfl) (by kernel_rfl) (fun _ _ _ h => h) (Or.inl ⟨by rfl, ?_⟩) (by assumption) ?_
    rotate_left
    · (intro w hSw; (try dsimp only at hSw); go_simp; first | done | with_reducible rfl)
    try simp only [List.setIfInBounds_toArray, List.set_cons_zero, List.set_cons_succ]
    refine reg_take (i := 21) (d := 34) (v := ?_) [] rfl rfl (by kernel_rfl) (by kernel_rfl) (fun _ _ _ h => h) (Or.inl ⟨by rfl, ?_⟩) (by assumption) ?_
    rotate_left
    · (intro w hSw; (try dsimp only at hSw); go_simp; first | done | with_reducible rfl)
    try simp only [List.setIfInBounds_toArray, List.set_cons_zero, List.set_cons_succ]
    refine reg_take (i := 22) (d := 35) (v := ?_) [] rfl rfl (by kernel_rfl) (by kernel_rfl) (fun _ _ _ h => h) (Or.inl ⟨by rfl, ?_⟩) (by assumption) ?_
    rotate_left
    · (intro w hSw; (try dsimp only at hSw); go_simp; first | done | with_reducible rfl)
    try simp only [List.setIfInBounds_toArray, List.set_cons_zero, List.set_cons_succ]
    refine reg_take (i := 23) (d := 36) (v := ?_) [] rfl rfl (by kernel_rfl) (by kernel_rfl) (fun _ _ _ h => h) (Or.inl ⟨by rfl, ?_⟩) (by assumption) ?_
    rotate_left
    · (intro w hSw; (try dsimp only at hSw); go_simp; first | done | with_reducible rfl)
    try simp only [List.setIfInBounds_toArray, List.set_cons_zero, List.set_cons_succ]
    refine reg_take (i := 24) (d := 37) (v := ?_) [] rfl rfl (by kernel_rfl) (by kernel_rfl) (fun _ _ _ h => h) (Or.inl ⟨by rfl, ?_⟩) (by assumption) ?_
    rotate_left
    · (intro w hSw; (try dsimp only at hSw); go_simp; first | done | with_reducible rfl)
    try simp only [List.setIfInBounds_toArray, List.set_cons_zero, List.set_cons_succ]
    refine reg_take (i := 25) (d := 38) (v := ?_) [] rfl rfl (by kernel_rfl) (by kernel_rfl) (fun _ _ _ h => h) (Or.inl ⟨by rfl, ?_⟩) (by assumption) ?_
    rotate_left
    · (intro w hSw; (try dsimp only at hSw); go_simp; first | done | with_reducible rfl)
    try simp only [List.setIfInBounds_toArray, List.set_cons_zero, List.set_cons_succ]
    refine reg_take (i := 26) (d := 39) (v := ?_) [] rfl rfl (by kernel_rfl) (by kernel_rfl) (fun _ _ _ h => h) (Or.inl ⟨by rfl, ?_⟩) (by assumption) ?_
    rotate_left
    · (intro w hSw; (try dsimp only at hSw); go_simp; first | done | with_reducible rfl)
    try simp only [List.setIfInBounds_toArray, List.set_cons_zero, List.set_cons_succ]
    refine reg_take (i := 27) (d := 40) (v := ?_) [] rfl rfl (by kernel_rfl) (by kernel_rfl) (fun _ _ _ h => h) (Or.inl ⟨by rfl, ?_⟩) (by assumption) ?_
    rotate_left
    · (intro w hSw; (try dsimp only at hSw); go_simp; first | done | with_reducible rfl)
    try simp only [List.setIfInBounds_toArray, List.set_cons_zero, List.set_cons_succ]
    refine wpAnyL_ready (rs := [28]) (by kernel_rfl) rfl ?_
    refine (AllL.cons rfl (fun K hK => ?_) AllL.nil)
    go_simp
    go_at_call 21
    refine (rleft_sep HS.out HGD.out).mono ?_
    simp only [HN.out.1, HN.out.2]
    rintro e5 w5 ⟨rfl, hS5⟩
    have HS := Lib.hid hS5
    clear hS5
    go_simp
    refine hK.out _ _ (HC.out _ HS.out) (fun hHeld => ?_)
    try simp only [List.setIfInBounds_toArray, List.set_cons_zero, List.set_cons_succ]
    refine reg_take (i := 29) (d := 42) (v := ?_) [] rfl rfl (by kernel_rfl) (by kernel_rfl) (fun _ _ _ h => h) (Or.inl ⟨by rfl, ?_⟩) (by assumption) ?_
    rotate_left
    · (intro w hSw; (try dsimp only at hSw); go_simp; first | done | with_reducible rfl)
    try simp only [List.setIfInBounds_toArray, List.set_cons_zero, List.set_cons_succ]
    refine reg_take (i := 30) (d := 43) (v := ?_) [] rfl rfl (by kernel_rfl) (by kernel_rfl) (fun _ _ _ h => h) (Or.inl ⟨by rfl, ?_⟩) (by assumption) ?_
    rotate_left
    · (intro w hSw; (try dsimp only at hSw); go_simp; first | done | with_reducible rfl)
    try simp only [List.setIfInBounds_toArray, List.set_cons_zero, List.set_cons_succ]
    refine reg_take (i := 31) (d := 44) (v := ?_) [] rfl rfl (by kernel_rfl) (by kernel_rfl) (fun _ _ _ h => h) (Or.inl ⟨by rfl, ?_⟩) (by assumption) ?_
    rotate_left
    · (intro w hSw; (try dsimp only at hSw); go_simp; first | done | with_reducible rfl)
    try simp only [List.setIfInBounds_toArray, List.set_cons_zero, List.set_cons_succ]
    refine reg_take (i := 32) (d := 45) (v := ?_) [] rfl rfl (by kernel_rfl) (by kernel_rfl) (fun _ _ _ h => h) (Or.inl ⟨by rfl, ?_⟩) (by assumption) ?_
    rotate_left
    · (intro w hSw; (try dsimp only at hSw); go_simp; first | done | with_reducible rfl)
    try simp only [List.setIfInBounds_toArray, List.set_cons_zero, List.set_cons_succ]
    refine reg_take (i := 33) (d := 46) (v := ?_) [] rfl rfl (by kernel_rfl) (by kernel_rfl) (fun _ _ _ h => h) (Or.inl ⟨by rfl, ?_⟩) (by assumption) ?_
    rotate_left
    · (intro w hSw; (try dsimp only at hSw); go_simp; first | done | with_reducible rfl)
    try simp only [List.setIfInBounds_toArray, List.set_cons_zero, List.set_cons_succ]
    refine reg_take (i := 34) (d := 47) (v := ?_) [] rfl rfl (by kernel_rfl) (by kernel_rfl) (fun _ _ _ h => h) (Or.inl ⟨by rfl, ?_⟩) (by assumption) ?_
    rotate_left
    · (intro w hSw; (try dsimp only at hSw); go_simp; first | done | with_reducible rfl)
    try simp only [List.setIfInBounds_toArray, List.set_cons_zero, List.set_cons_succ]
    refine reg_take (i := 35) (d := 48) (v := ?_) [] rfl rfl (by kernel_rfl) (by kernel_rfl) (fun _ _ _ h => h) (Or.inl ⟨by rfl, ?_⟩) (by assumption) ?_
    rotate_left
    · (intro w hSw; (try dsimp only at hSw); go_simp; first | done | with_reducible rfl)
    try simp only [List.setIfInBounds_toArray, List.set_cons_zero, List.set_cons_succ]
    refine reg_take (i := 36) (d := 49) (v := ?_) [] rfl rfl (by kernel_rfl) (by kernel_rfl) (fun _ _ _ h => h) (Or.inl ⟨by rfl, ?_⟩) (by assumption) ?_
    rotate_left
    · (intro w hSw; (try dsimp only at hSw); go_simp; first | done | with_reducible rfl)
    try simp only [List.setIfInBounds_toArray, List.set_cons_zero, List.set_cons_succ]
    refine reg_take (i := 37) (d := 50) (v := ?_) [] rfl rfl (by kernel_rfl) (by kernel_rfl) (fun _ _ _ h => h) (Or.inl ⟨by rfl, ?_⟩) (by assumption) ?_
    rotate_left
    · (intro w hSw; (try dsimp only at hSw); go_simp; first | done | with_reducible rfl)
    try simp only [List.setIfInBounds_toArray, List.set_cons_zero, List.set_cons_succ]
    refine reg_take (i := 38) (d := 51) (v := ?_) [] rfl rfl (by kernel_rfl) (by kernel_rfl) (fun _ _ _ h => h) (Or.inl ⟨by rfl, ?_⟩) (by assumption) ?_
    rotate_left
    · (intro w hSw; (try dsimp only at hSw); go_simp; first | done | with_reducible rfl)
    try simp only [List.setIfInBounds_toArray, List.set_cons_zero, List.set_cons_succ]
    refine reg_take (i := 39) (d := 52) (v := ?_) [] rfl rfl (by kernel_rfl) (by kernel_rfl) (fun _ _ _ h => h) (Or.inl ⟨by rfl, ?_⟩) (by assumption) ?_
    rotate_left
    · (intro w hSw; (try dsimp only at hSw); go_simp; first | done | with_reducible rfl)
    try simp only [List.setIfInBounds_toArray, List.set_cons_zero, List.set_cons_succ]
    refine reg_take (i := 40) (d := 53) (v := ?_) [] rfl rfl (by kernel_rfl) (by kernel_rfl) (fun _ _ _ h => h) (Or.inl ⟨by rfl, ?_⟩) (by assumption) ?_
    rotate_left
    · (intro w hSw; (try dsimp only at hSw); go_simp; first | done | with_reducible rfl)
    try simp only [List.setIfInBounds_toArray, List.set_cons_zero, List.set_cons_succ]
    refine reg_take (i := 41) (d := 54) (v := ?_) [] rfl rfl (by kernel_rfl) (by kernel_rfl) (fun _ _ _ h => h) (Or.inl ⟨by rfl, ?_⟩) (by assumption) ?_
    rotate_left
    · (intro w hSw; (try dsimp only at hSw); go_simp; first | done | with_reducible rfl)
    try simp only [List.setIfInBounds_toArray, List.set_cons_zero, List.set_cons_succ]
    refine wpAnyL_done (by kernel_rfl) ?_ _
    clear f5 f5'
    by_cases d1 : er = 20
    · subst d1
      have HC2 : Hid (∀ w', Sep w w' (tCli tRc b (.slice A1 n q1) (.slice A2 m q2) ⟨tp, nd, cs, rs⟩ :: tBlk gM #[.int .i64 15, .int .i64 a, .int .i64 bb, .int .i64 ((m : Int) + 1), .int .i64 d, .int .i64 ee, .int .i64 20, .int .i64 p0, .int .i64 p1, .int .i64 p2, .int .i64 p3, .string s, .string t] tMsg :: tBlk gL #[.int .i64 1, .int .i64 tp, .string body] tLt :: l) → w'.cell? ⟨gL, 0, none⟩ = some (.int .i64 1) ∧ w'.cell? ⟨gM, 6, none⟩ = some (.int .i64 20) ∧ w'.cell? ⟨gM, 11, none⟩ = some (.string s) ∧ w'.cell? ⟨b, 1, none⟩ = some (.slice A1 n q1) ∧ w'.cell? ⟨b, 2, none⟩ = some (.slice A2 m q2) ∧ w'.cell? ⟨b, 3, none⟩ = some (.int .i64 nd)) := Lib.hid (fun w' h => ⟨(show Blk w' gL #[.int .i64 1, .int .i64 tp, .string body] tLt from h.h3).cell 0, (show Blk w' gM #[.int .i64 15, .int .i64 a, .int .i64 bb, .int .i64 ((m : Int) + 1), .int .i64 d, .int .i64 ee, .int .i64 20, .int .i64 p0, .int .i64 p1, .int .i64 p2, .int .i64 p3, .string s, .string t] tMsg from h.h2).cell 6, (show Blk w' gM #[.int .i64 15, .int .i64 a, .int .i64 bb, .int .i64 ((m : Int) + 1), .int .i64 d, .int .i64 ee, .int .i64 20, .int .i64 p0, .int .i64 p1, .int .i64 p2, .int .i64 p3, .string s, .string t] tMsg from h.h2).cell 11, h.cliCells.2.1, h.cliCells.2.2.1, h.cliCells.2.2.2⟩)
      obtain ⟨x0, x6, x11, x1, x2, x3⟩ := HC2.out _ HS.out
      by_cases d2 : 1 = nd
      · subst d2
        have HF := Lib.hid (ctake_20a (c := ⟨tp, 1, cs, rs⟩) (x := ⟨1, tp, body⟩) (e0 := 0) (m := ⟨15, a, bb, (m : Int) + 1, d, ee, 20, p0, p1, p2, p3, s, t⟩) HH.out rfl rfl)
        go_upto_region 4 with fail
        have HS := Lib.hid HS.out.drew
        refine wp_region_L (fun w' => w'.cell? ⟨gL, 0, none⟩ = some (.int .i64 1) ∧ w'.cell? ⟨gM, 6, none⟩ = some (.int .i64 20) ∧ w'.cell? ⟨gM, 11, none⟩ = some (.string s) ∧ w'.cell? ⟨b, 1, none⟩ = some (.slice A1 n q1) ∧ w'.cell? ⟨b, 2, none⟩ = some (.slice A2 m q2) ∧ w'.cell? ⟨b, 3, none⟩ = some (.int .i64 1)) 12 (by kernel_rfl) (HC2.out _ HS.out) (fun hHeld => ?_)
        refine reg_take (i := 0) (d := 55) (v := ?_) [] rfl rfl (by kernel_rfl) (by kernel_rfl) (fun _ _ _ h => h) (Or.inl ⟨by rfl, ?_⟩) (by assumption) ?_
        rotate_left
        · (intro w hSw; (try dsimp only at hSw); go_simp; first | done | with_reducible rfl)
        try simp only [List.setIfInBounds_toArray, List.set_cons_zero, List.set_cons_succ]
        refine reg_take (i := 1) (d := 56) (v := ?_) [] rfl rfl (by kernel_rfl) (by kernel_rfl) (fun _ _ _ h => h) (Or.inl ⟨by rfl, ?_⟩) (by assumption) ?_
        rotate_left
        · (intro w hSw; (try dsimp only at hSw); go_simp; first | done | with_reducible rfl)
        try simp only [List.setIfInBounds_toArray, List.set_cons_zero, List.set_cons_succ]
        refine reg_take (i := 2) (d := 57) (v := ?_) [] rfl rfl (by kernel_rfl) (by kernel_rfl) (fun _ _ _ h => h) (Or.inl ⟨by rfl, ?_⟩) (by assumption) ?_
        rotate_left
        · (intro w hSw; (try dsimp only at hSw); go_simp; first | done | with_reducible rfl)
        try simp only [List.setIfInBounds_toArray, List.set_cons_zero, List.set_cons_succ]
        refine reg_take (i := 3) (d := 58) (v := ?_) [] rfl rfl (by kernel_rfl) (by kernel_rfl) (fun _ _ _ h => h) (Or.inl ⟨by rfl, ?_⟩) (by assumption) ?_
        rotate_left
        · (intro w hSw; (try dsimp only at hSw); go_simp; first | done | with_reducible rfl)
        try simp only [List.setIfInBounds_toArray, List.set_cons_zero, List.set_cons_succ]
        refine reg_take (i := 4) (d := 59) (v := ?_) [] rfl rfl (by kernel_rfl) (by kernel_rfl) (fun _ _ _ h => h) (Or.inl ⟨by rfl, ?_⟩) (by assumption) ?_
        rotate_left
        · (intro w hSw; (try dsimp only at hSw); go_simp; first | done | with_reducible rfl)
        try simp only [List.setIfInBounds_toArray, List.set_cons_zero, List.set_cons_succ]
        refine reg_take (i := 5) (d := 60) (v := ?_) [] rfl rfl (by kernel_rfl) (by kernel_rfl) (fun _ _ _ h => h) (Or.inl ⟨by rfl, ?_⟩) (by assumption) ?_
        rotate_left
        · (intro w hSw; (try dsimp only at hSw); go_simp; first | done | with_reducible rfl)
        try simp only [List.setIfInBounds_toArray, List.set_cons_zero, List.set_cons_succ]
        refine reg_take (i := 6) (d := 61) (v := ?_) [] rfl rfl (by kernel_rfl) (by kernel_rfl) (fun _ _ _ h => h) (Or.inl ⟨by rfl, ?_⟩) (by assumption) ?_
        rotate_left
        · (intro w hSw; (try dsimp only at hSw); go_simp; first | done | with_reducible rfl)
        try simp only [List.setIfInBounds_toArray, List.set_cons_zero, List.set_cons_succ]
        refine reg_take (i := 7) (d := 62) (v := ?_) [] rfl rfl (by kernel_rfl) (by kernel_rfl) (fun _ _ _ h => h) (Or.inl ⟨by rfl, ?_⟩) (by assumption) ?_
        rotate_left
        · (intro w hSw; (try dsimp only at hSw); go_simp; first | done | with_reducible rfl)
        try simp only [List.setIfInBounds_toArray, List.set_cons_zero, List.set_cons_succ]
        refine reg_take (i := 8) (d := 63) (v := ?_) [] rfl rfl (by kernel_rfl) (by kernel_rfl) (fun _ _ _ h => h) (Or.inl ⟨by rfl, ?_⟩) (by assumption) ?_
        rotate_left
        · (intro w hSw; (try dsimp only at hSw); go_simp; first | done | with_reducible rfl)
        try simp only [List.setIfInBounds_toArray, List.set_cons_zero, List.set_cons_succ]
        refine reg_take (i := 9) (d := 64) (v := ?_) [] rfl rfl (by kernel_rfl) (by kernel_rfl) (fun _ _ _ h => h) (Or.inl ⟨by rfl, ?_⟩) (by assumption) ?_
        rotate_left
        · (intro w hSw; (try dsimp only at hSw); go_simp; first | done | with_reducible rfl)
        try simp only [List.setIfInBounds_toArray, List.set_cons_zero, List.set_cons_succ]
        refine reg_take (i := 10) (d := 65) (v := ?_) [] rfl rfl (by kernel_rfl) (by kernel_rfl) (fun _ _ _ h => h) (Or.inl ⟨by rfl, ?_⟩) (by assumption) ?_
        rotate_left
        · (intro w hSw; (try dsimp only at hSw); go_simp; first | done | with_reducible rfl)
        try simp only [List.setIfInBounds_toArray, List.set_cons_zero, List.set_cons_succ]
        refine reg_take (i := 11) (d := 66) (v := ?_) [] rfl rfl (by kernel_rfl) (by kernel_rfl) (fun _ _ _ h => h) (Or.inl ⟨by rfl, ?_⟩) (by assumption) ?_
        rotate_left
        · (intro w hSw; (try dsimp only at hSw); go_simp; first | done | with_reducible rfl)
        try simp only [List.setIfInBounds_toArray, List.set_cons_zero, List.set_cons_succ]
        refine wpAnyL_done (by kernel_rfl) ?_ _
        have hw : IntKind.i64.wrap (1 - 1) = 1 - 1 := IntWalk.i64_in _ (by omega)
        have f3 := HS.out.cli.1.frozen 3
        have HS2 := Lib.hid HS.out.cliTurn
        have x6' := (show Blk _ gM _ tMsg from HS2.out.h2).cell 6
        have x6' := x6'.trans (show _ = some (Value.int .i64 20) from rfl)
        obtain ⟨x0, x6, x11, x1, x2, x3⟩ := HC2.out _ HS.out
        go_wp2_with fail
        go_ret
        exact ⟨ret_bool HF.out.2.symm, _, by rw [HF.out.1]; exact HS2.out.d3.d2⟩
      · have d3 : ((1 : Int) == nd) = false := beq_eq_false_iff_ne.2 d2
        have HF := Lib.hid (ctake_20b (c := ⟨tp, nd, cs, rs⟩) (x := ⟨1, tp, body⟩) (e0 := 0) (m := ⟨15, a, bb, (m : Int) + 1, d, ee, 20, p0, p1, p2, p3, s, t⟩) HH.out rfl d2)
        go_upto_region 4 with fail
        have HS := Lib.hid HS.out.drew
        refine wp_region_L (fun w' => w'.cell? ⟨gL, 0, none⟩ = some (.int .i64 1) ∧ w'.cell? ⟨gM, 6, none⟩ = some (.int .i64 20) ∧ w'.cell? ⟨gM, 11, none⟩ = some (.string s) ∧ w'.cell? ⟨b, 1, none⟩ = some (.slice A1 n q1) ∧ w'.cell? ⟨b, 2, none⟩ = some (.slice A2 m q2) ∧ w'.cell? ⟨b, 3, none⟩ = some (.int .i64 nd)) 12 (by kernel_rfl) (HC2.out _ HS.out) (fun hHeld => ?_)
        refine reg_take (i := 0) (d := 55) (v := ?_) [] rfl rfl (by kernel_rfl) (by kernel_rfl) (fun _ _ _ h => h) (Or.inl ⟨by rfl, ?_⟩) (by assumption) ?_
        rotate_left
        · (intro w hSw; (try dsimp only at hSw); go_simp; first | done | with_reducible rfl)
        try simp only [List.setIfInBounds_toArray, List.set_cons_zero, List.set_cons_succ]
        refine reg_take (i := 1) (d := 56) (v := ?_) [] rfl rfl (by kernel_rfl) (by kernel_rfl) (fun _ _ _ h => h) (Or.inl ⟨by rfl, ?_⟩) (by assumption) ?_
        rotate_left
        · (intro w hSw; (try dsimp only at hSw); go_simp; first | done | with_reducible rfl)
        try simp only [List.setIfInBounds_toArray, List.set_cons_zero, List.set_cons_succ]
        refine reg_take (i := 2) (d := 57) (v := ?_) [] rfl rfl (by kernel_rfl) (by kernel_rfl) (fun _ _ _ h => h) (Or.inl ⟨by rfl, ?_⟩) (by assumption) ?_
        rotate_left
        · (intro w hSw; (try dsimp only at hSw); go_simp; first | done | with_reducible rfl)
        try simp only [List.setIfInBounds_toArray, List.set_cons_zero, List.set_cons_succ]
        refine reg_take (i := 3) (d := 58) (v := ?_) [] rfl rfl (by kernel_rfl) (by kernel_rfl) (fun _ _ _ h => h) (Or.inl ⟨by rfl, ?_⟩) (by assumption) ?_
        rotate_left
        · (intro w hSw; (try dsimp only at hSw); go_simp; first | done | with_reducible rfl)
        try simp only [List.setIfInBounds_toArray, List.set_cons_zero, List.set_cons_succ]
        refine reg_take (i := 4) (d := 59) (v := ?_) [] rfl rfl (by kernel_rfl) (by kernel_rfl) (fun _ _ _ h => h) (Or.inl ⟨by rfl, ?_⟩) (by assumption) ?_
        rotate_left
        · (intro w hSw; (try dsimp only at hSw); go_simp; first | done | with_reducible rfl)
        try simp only [List.setIfInBounds_toArray, List.set_cons_zero, List.set_cons_succ]
        refine reg_take (i := 5) (d := 60) (v := ?_) [] rfl rfl (by kernel_rfl) (by kernel_rfl) (fun _ _ _ h => h) (Or.inl ⟨by rfl, ?_⟩) (by assumption) ?_
        rotate_left
        · (intro w hSw; (try dsimp only at hSw); go_simp; first | done | with_reducible rfl)
        try simp only [List.setIfInBounds_toArray, List.set_cons_zero, List.set_cons_succ]
        refine reg_take (i := 6) (d := 61) (v := ?_) [] rfl rfl (by kernel_rfl) (by kernel_rfl) (fun _ _ _ h => h) (Or.inl ⟨by rfl, ?_⟩) (by assumption) ?_
        rotate_left
        · (intro w hSw; (try dsimp only at hSw); go_simp; first | done | with_reducible rfl)
        try simp only [List.setIfInBounds_toArray, List.set_cons_zero, List.set_cons_succ]
        refine reg_take (i := 7) (d := 62) (v := ?_) [] rfl rfl (by kernel_rfl) (by kernel_rfl) (fun _ _ _ h => h) (Or.inl ⟨by rfl, ?_⟩) (by assumption) ?_
        rotate_left
        · (intro w hSw; (try dsimp only at hSw); go_simp; first | done | with_reducible rfl)
        try simp only [List.setIfInBounds_toArray, List.set_cons_zero, List.set_cons_succ]
        refine reg_take (i := 8) (d := 63) (v := ?_) [] rfl rfl (by kernel_rfl) (by kernel_rfl) (fun _ _ _ h => h) (Or.inl ⟨by rfl, ?_⟩) (by assumption) ?_
        rotate_left
        · (intro w hSw; (try dsimp only at hSw); go_simp; first | done | with_reducible rfl)
        try simp only [List.setIfInBounds_toArray, List.set_cons_zero, List.set_cons_succ]
        refine reg_take (i := 9) (d := 64) (v := ?_) [] rfl rfl (by kernel_rfl) (by kernel_rfl) (fun _ _ _ h => h) (Or.inl ⟨by rfl, ?_⟩) (by assumption) ?_
        rotate_left
        · (intro w hSw; (try dsimp only at hSw); go_simp; first | done | with_reducible rfl)
        try simp only [List.setIfInBounds_toArray, List.set_cons_zero, List.set_cons_succ]
        refine reg_take (i := 10) (d := 65) (v := ?_) [] rfl rfl (by kernel_rfl) (by kernel_rfl) (fun _ _ _ h => h) (Or.inl ⟨by rfl, ?_⟩) (by assumption) ?_
        rotate_left
        · (intro w hSw; (try dsimp only at hSw); go_simp; first | done | with_reducible rfl)
        try simp only [List.setIfInBounds_toArray, List.set_cons_zero, List.set_cons_succ]
        refine reg_take (i := 11) (d := 66) (v := ?_) [] rfl rfl (by kernel_rfl) (by kernel_rfl) (fun _ _ _ h => h) (Or.inl ⟨by rfl, ?_⟩) (by assumption) ?_
        rotate_left
        · (intro w hSw; (try dsimp only at hSw); go_simp; first | done | with_reducible rfl)
        try simp only [List.setIfInBounds_toArray, List.set_cons_zero, List.set_cons_succ]
        refine wpAnyL_done (by kernel_rfl) ?_ _
        obtain ⟨x0, x6, x11, x1, x2, x3⟩ := HC2.out _ HS.out
        go_wp2_with fail
        go_ret
        exact ⟨ret_bool HF.out.2.symm, _, by rw [HF.out.1]; exact HS.out.d3.d2⟩
    by_cases d21 : er = 21
    · subst d21
      have HC2 : Hid (∀ w', Sep w w' (tCli tRc b (.slice A1 n q1) (.slice A2 m q2) ⟨tp, nd, cs, rs⟩ :: tBlk gM #[.int .i64 15, .int .i64 a, .int .i64 bb, .int .i64 ((m : Int) + 1), .int .i64 d, .int .i64 ee, .int .i64 21, .int .i64 p0, .int .i64 p1, .int .i64 p2, .int .i64 p3, .string s, .string t] tMsg :: tBlk gL #[.int .i64 1, .int .i64 tp, .string body] tLt :: l) → w'.cell? ⟨gL, 0, none⟩ = some (.int .i64 1) ∧ w'.cell? ⟨gM, 6, none⟩ = some (.int .i64 21) ∧ w'.cell? ⟨gM, 11, none⟩ = some (.string s) ∧ w'.cell? ⟨b, 1, none⟩ = some (.slice A1 n q1) ∧ w'.cell? ⟨b, 2, none⟩ = some (.slice A2 m q2) ∧ w'.cell? ⟨b, 3, none⟩ = some (.int .i64 nd)) := Lib.hid (fun w' h => ⟨(show Blk w' gL #[.int .i64 1, .int .i64 tp, .string body] tLt from h.h3).cell 0, (show Blk w' gM #[.int .i64 15, .int .i64 a, .int .i64 bb, .int .i64 ((m : Int) + 1), .int .i64 d, .int .i64 ee, .int .i64 21, .int .i64 p0, .int .i64 p1, .int .i64 p2, .int .i64 p3, .string s, .string t] tMsg from h.h2).cell 6, (show Blk w' gM #[.int .i64 15, .int .i64 a, .int .i64 bb, .int .i64 ((m : Int) + 1), .int .i64 d, .int .i64 ee, .int .i64 21, .int .i64 p0, .int .i64 p1, .int .i64 p2, .int .i64 p3, .string s, .string t] tMsg from h.h2).cell 11, h.cliCells.2.1, h.cliCells.2.2.1, h.cliCells.2.2.2⟩)
      obtain ⟨x0, x6, x11, x1, x2, x3⟩ := HC2.out _ HS.out
      have HF := Lib.hid (ctake_er (c := ⟨tp, nd, cs, rs⟩) (x := ⟨1, tp, body⟩) (e0 := 0) (m := ⟨15, a, bb, (m : Int) + 1, d, ee, 21, p0, p1, p2, p3, s, t⟩) HH.out (.inl rfl))
      go_upto_region 4 with fail
      have HS := Lib.hid HS.out.drew
      refine wp_region_L (fun w' => w'.cell? ⟨gL, 0, none⟩ = some (.int .i64 1) ∧ w'.cell? ⟨gM, 6, none⟩ = some (.int .i64 21) ∧ w'.cell? ⟨gM, 11, none⟩ = some (.string s) ∧ w'.cell? ⟨b, 1, none⟩ = some (.slice A1 n q1) ∧ w'.cell? ⟨b, 2, none⟩ = some (.slice A2 m q2) ∧ w'.cell? ⟨b, 3, none⟩ = some (.int .i64 nd)) 12 (by kernel_rfl) (HC2.out _ HS.out) (fun hHeld => ?_)
      refine reg_take (i := 0) (d := 55) (v := ?_) [] rfl rfl (by kernel_rfl) (by kernel_rfl) (fun _ _ _ h => h) (Or.inl ⟨by rfl, ?_⟩) (by assumption) ?_
      rotate_left
      · (intro w hSw; (try dsimp only at hSw); go_simp; first | done | with_reducible rfl)
      try simp only [List.setIfInBounds_toArray, List.set_cons_zero, List.set_cons_succ]
      refine reg_take (i := 1) (d := 56) (v := ?_) [] rfl rfl (by kernel_rfl) (by kernel_rfl) (fun _ _ _ h => h) (Or.inl ⟨by rfl, ?_⟩) (by assumption) ?_
      rotate_left
      · (intro w hSw; (try dsimp only at hSw); go_simp; first | done | with_reducible rfl)
      try simp only [List.setIfInBounds_toArray, List.set_cons_zero, List.set_cons_succ]
      refine reg_take (i := 2) (d := 57) (v := ?_) [] rfl rfl (by kernel_rfl) (by kernel_rfl) (fun _ _ _ h => h) (Or.inl ⟨by rfl, ?_⟩) (by assumption) ?_
      rotate_left
      · (intro w hSw; (try dsimp only at hSw); go_simp; first | done | with_reducible rfl)
      try simp only [List.setIfInBounds_toArray, List.set_cons_zero, List.set_cons_succ]
      refine reg_take (i := 3) (d := 58) (v := ?_) [] rfl rfl (by kernel_rfl) (by kernel_rfl) (fun _ _ _ h => h) (Or.inl ⟨by rfl, ?_⟩) (by assumption) ?_
      rotate_left
      · (intro w hSw; (try dsimp only at hSw); go_simp; first | done | with_reducible rfl)
      try simp only [List.setIfInBounds_toArray, List.set_cons_zero, List.set_cons_succ]
      refine reg_take (i := 4) (d := 59) (v := undef) [] rfl rfl (by kernel_rfl) (by kernel_rfl) (fun _ _ _ h => h) (Or.inr ⟨by rfl, rfl⟩) (by assumption) ?_
      try simp only [List.setIfInBounds_toArray, List.set_cons_zero, List.set_cons_succ]
      refine reg_take (i := 5) (d := 60) (v := undef) [] rfl rfl (by kernel_rfl) (by kernel_rfl) (fun _ _ _ h => h) (Or.inr ⟨by rfl, rfl⟩) (by assumption) ?_
      try simp only [List.setIfInBounds_toArray, List.set_cons_zero, List.set_cons_succ]
      refine reg_take (i := 6) (d := 61) (v := undef) [] rfl rfl (by kernel_rfl) (by kernel_rfl) (fun _ _ _ h => h) (Or.inr ⟨by rfl, rfl⟩) (by assumption) ?_
      try simp only [List.setIfInBounds_toArray, List.set_cons_zero, List.set_cons_succ]
      refine reg_take (i := 7) (d := 62) (v := undef) [] rfl rfl (by kernel_rfl) (by kernel_rfl) (fun _ _ _ h => h) (Or.inr ⟨by rfl, rfl⟩) (by assumption) ?_
      try simp only [List.setIfInBounds_toArray, List.set_cons_zero, List.set_cons_succ]
      refine reg_take (i := 8) (d := 63) (v := undef) [] rfl rfl (by kernel_rfl) (by kernel_rfl) (fun _ _ _ h => h) (Or.inr ⟨by rfl, rfl⟩) (by assumption) ?_
      try simp only [List.setIfInBounds_toArray, List.set_cons_zero, List.set_cons_succ]
      refine reg_take (i := 9) (d := 64) (v := undef) [] rfl rfl (by kernel_rfl) (by kernel_rfl) (fun _ _ _ h => h) (Or.inr ⟨by rfl, rfl⟩) (by assumption) ?_
      try simp only [List.setIfInBounds_toArray, List.set_cons_zero, List.set_cons_succ]
      refine reg_take (i := 10) (d := 65) (v := undef) [] rfl rfl (by kernel_rfl) (by kernel_rfl) (fun _ _ _ h => h) (Or.inr ⟨by rfl, rfl⟩) (by assumption) ?_
      try simp only [List.setIfInBounds_toArray, List.set_cons_zero, List.set_cons_succ]
      refine reg_take (i := 11) (d := 66) (v := ?_) [] rfl rfl (by kernel_rfl) (by kernel_rfl) (fun _ _ _ h => h) (Or.inl ⟨by rfl, ?_⟩) (by assumption) ?_
      rotate_left
      · (intro w hSw; (try dsimp only at hSw); go_simp; first | done | with_reducible rfl)
      try simp only [List.setIfInBounds_toArray, List.set_cons_zero, List.set_cons_succ]
      refine wpAnyL_done (by kernel_rfl) ?_ _
      obtain ⟨x0, x6, x11, x1, x2, x3⟩ := HC2.out _ HS.out
      go_wp2_with fail
      go_ret
      exact ⟨ret_bool HF.out.2.symm, _, by rw [HF.out.1]; exact HS.out.d3.d2⟩
    by_cases d25 : er = 25
    · subst d25
      have HC2 : Hid (∀ w', Sep w w' (tCli tRc b (.slice A1 n q1) (.slice A2 m q2) ⟨tp, nd, cs, rs⟩ :: tBlk gM #[.int .i64 15, .int .i64 a, .int .i64 bb, .int .i64 ((m : Int) + 1), .int .i64 d, .int .i64 ee, .int .i64 25, .int .i64 p0, .int .i64 p1, .int .i64 p2, .int .i64 p3, .string s, .string t] tMsg :: tBlk gL #[.int .i64 1, .int .i64 tp, .string body] tLt :: l) → w'.cell? ⟨gL, 0, none⟩ = some (.int .i64 1) ∧ w'.cell? ⟨gM, 6, none⟩ = some (.int .i64 25) ∧ w'.cell? ⟨gM, 11, none⟩ = some (.string s) ∧ w'.cell? ⟨b, 1, none⟩ = some (.slice A1 n q1) ∧ w'.cell? ⟨b, 2, none⟩ = some (.slice A2 m q2) ∧ w'.cell? ⟨b, 3, none⟩ = some (.int .i64 nd)) := Lib.hid (fun w' h => ⟨(show Blk w' gL #[.int .i64 1, .int .i64 tp, .string body] tLt from h.h3).cell 0, (show Blk w' gM #[.int .i64 15, .int .i64 a, .int .i64 bb, .int .i64 ((m : Int) + 1), .int .i64 d, .int .i64 ee, .int .i64 25, .int .i64 p0, .int .i64 p1, .int .i64 p2, .int .i64 p3, .string s, .string t] tMsg from h.h2).cell 6, (show Blk w' gM #[.int .i64 15, .int .i64 a, .int .i64 bb, .int .i64 ((m : Int) + 1), .int .i64 d, .int .i64 ee, .int .i64 25, .int .i64 p0, .int .i64 p1, .int .i64 p2, .int .i64 p3, .string s, .string t] tMsg from h.h2).cell 11, h.cliCells.2.1, h.cliCells.2.2.1, h.cliCells.2.2.2⟩)
      obtain ⟨x0, x6, x11, x1, x2, x3⟩ := HC2.out _ HS.out
      have HF := Lib.hid (ctake_er (c := ⟨tp, nd, cs, rs⟩) (x := ⟨1, tp, body⟩) (e0 := 0) (m := ⟨15, a, bb, (m : Int) + 1, d, ee, 25, p0, p1, p2, p3, s, t⟩) HH.out (.inr rfl))
      go_upto_region 4 with fail
      have HS := Lib.hid HS.out.drew
      refine wp_region_L (fun w' => w'.cell? ⟨gL, 0, none⟩ = some (.int .i64 1) ∧ w'.cell? ⟨gM, 6, none⟩ = some (.int .i64 25) ∧ w'.cell? ⟨gM, 11, none⟩ = some (.string s) ∧ w'.cell? ⟨b, 1, none⟩ = some (.slice A1 n q1) ∧ w'.cell? ⟨b, 2, none⟩ = some (.slice A2 m q2) ∧ w'.cell? ⟨b, 3, none⟩ = some (.int .i64 nd)) 12 (by kernel_rfl) (HC2.out _ HS.out) (fun hHeld => ?_)
      refine reg_take (i := 0) (d := 55) (v := ?_) [] rfl rfl (by kernel_rfl) (by kernel_rfl) (fun _ _ _ h => h) (Or.inl ⟨by rfl, ?_⟩) (by assumption) ?_
      rotate_left
      · (intro w hSw; (try dsimp only at hSw); go_simp; first | done | with_reducible rfl)
      try simp only [List.setIfInBounds_toArray, List.set_cons_zero, List.set_cons_succ]
      refine reg_take (i := 1) (d := 56) (v := ?_) [] rfl rfl (by kernel_rfl) (by kernel_rfl) (fun _ _ _ h => h) (Or.inl ⟨by rfl, ?_⟩) (by assumption) ?_
      rotate_left
      · (intro w hSw; (try dsimp only at hSw); go_simp; first | done | with_reducible rfl)
      try simp only [List.setIfInBounds_toArray, List.set_cons_zero, List.set_cons_succ]
      refine reg_take (i := 2) (d := 57) (v := ?_) [] rfl rfl (by kernel_rfl) (by kernel_rfl) (fun _ _ _ h => h) (Or.inl ⟨by rfl, ?_⟩) (by assumption) ?_
      rotate_left
      · (intro w hSw; (try dsimp only at hSw); go_simp; first | done | with_reducible rfl)
      try simp only [List.setIfInBounds_toArray, List.set_cons_zero, List.set_cons_succ]
      refine reg_take (i := 3) (d := 58) (v := ?_) [] rfl rfl (by kernel_rfl) (by kernel_rfl) (fun _ _ _ h => h) (Or.inl ⟨by rfl, ?_⟩) (by assumption) ?_
      rotate_left
      · (intro w hSw; (try dsimp only at hSw); go_simp; first | done | with_reducible rfl)
      try simp only [List.setIfInBounds_toArray, List.set_cons_zero, List.set_cons_succ]
      refine reg_take (i := 4) (d := 59) (v := undef) [] rfl rfl (by kernel_rfl) (by kernel_rfl) (fun _ _ _ h => h) (Or.inr ⟨by rfl, rfl⟩) (by assumption) ?_
      try simp only [List.setIfInBounds_toArray, List.set_cons_zero, List.set_cons_succ]
      refine reg_take (i := 5) (d := 60) (v := undef) [] rfl rfl (by kernel_rfl) (by kernel_rfl) (fun _ _ _ h => h) (Or.inr ⟨by rfl, rfl⟩) (by assumption) ?_
      try simp only [List.setIfInBounds_toArray, List.set_cons_zero, List.set_cons_succ]
      refine reg_take (i := 6) (d := 61) (v := undef) [] rfl rfl (by kernel_rfl) (by kernel_rfl) (fun _ _ _ h => h) (Or.inr ⟨by rfl, rfl⟩) (by assumption) ?_
      try simp only [List.setIfInBounds_toArray, List.set_cons_zero, List.set_cons_succ]
      refine reg_take (i := 7) (d := 62) (v := undef) [] rfl rfl (by kernel_rfl) (by kernel_rfl) (fun _ _ _ h => h) (Or.inr ⟨by rfl, rfl⟩) (by assumption) ?_
      try simp only [List.setIfInBounds_toArray, List.set_cons_zero, List.set_cons_succ]
      refine reg_take (i := 8) (d := 63) (v := undef) [] rfl rfl (by kernel_rfl) (by kernel_rfl) (fun _ _ _ h => h) (Or.inr ⟨by rfl, rfl⟩) (by assumption) ?_
      try simp only [List.setIfInBounds_toArray, List.set_cons_zero, List.set_cons_succ]
      refine reg_take (i := 9) (d := 64) (v := undef) [] rfl rfl (by kernel_rfl) (by kernel_rfl) (fun _ _ _ h => h) (Or.inr ⟨by rfl, rfl⟩) (by assumption) ?_
      try simp only [List.setIfInBounds_toArray, List.set_cons_zero, List.set_cons_succ]
      refine reg_take (i := 10) (d := 65) (v := undef) [] rfl rfl (by kernel_rfl) (by kernel_rfl) (fun _ _ _ h => h) (Or.inr ⟨by rfl, rfl⟩) (by assumption) ?_
      try simp only [List.setIfInBounds_toArray, List.set_cons_zero, List.set_cons_succ]
      refine reg_take (i := 11) (d := 66) (v := ?_) [] rfl rfl (by kernel_rfl) (by kernel_rfl) (fun _ _ _ h => h) (Or.inl ⟨by rfl, ?_⟩) (by assumption) ?_
      rotate_left
      · (intro w hSw; (try dsimp only at hSw); go_simp; first | done | with_reducible rfl)
      try simp only [List.setIfInBounds_toArray, List.set_cons_zero, List.set_cons_succ]
      refine wpAnyL_done (by kernel_rfl) ?_ _
      obtain ⟨x0, x6, x11, x1, x2, x3⟩ := HC2.out _ HS.out
      go_wp2_with fail
      go_ret
      exact ⟨ret_bool HF.out.2.symm, _, by rw [HF.out.1]; exact HS.out.d3.d2⟩
    have g1b : (er == 20) = false := beq_eq_false_iff_ne.2 d1
    have g2b : (er == 21) = false := beq_eq_false_iff_ne.2 d21
    have g3b : (er == 25) = false := beq_eq_false_iff_ne.2 d25
    have g1 : decide (er = 20) = false := decide_eq_false d1
    have g2 : decide (er = 21) = false := decide_eq_false d21
    have g3 : decide (er = 25) = false := decide_eq_false d25
    have HF := Lib.hid (ctake_else (c := ⟨tp, nd, cs, rs⟩) (x := ⟨1, tp, body⟩) (e0 := 0) (m := ⟨15, a, bb, (m : Int) + 1, d, ee, er, p0, p1, p2, p3, s, t⟩) HH.out d1 d21 d25)
    have HC2 : Hid (∀ w', Sep w w' (tCli tRc b (.slice A1 n q1) (.slice A2 m q2) ⟨tp, nd, cs, rs⟩ :: tBlk gM #[.int .i64 15, .int .i64 a, .int .i64 bb, .int .i64 ((m : Int) + 1), .int .i64 d, .int .i64 ee, .int .i64 er, .int .i64 p0, .int .i64 p1, .int .i64 p2, .int .i64 p3, .string s, .string t] tMsg :: tBlk gL #[.int .i64 1, .int .i64 tp, .string body] tLt :: l) → w'.cell? ⟨gL, 0, none⟩ = some (.int .i64 1) ∧ w'.cell? ⟨gM, 6, none⟩ = some (.int .i64 er) ∧ w'.cell? ⟨gM, 11, none⟩ = some (.string s) ∧ w'.cell? ⟨b, 1, none⟩ = some (.slice A1 n q1) ∧ w'.cell? ⟨b, 2, none⟩ = some (.slice A2 m q2) ∧ w'.cell? ⟨b, 3, none⟩ = some (.int .i64 nd)) := Lib.hid (fun w' h => ⟨(show Blk w' gL #[.int .i64 1, .int .i64 tp, .string body] tLt from h.h3).cell 0, (show Blk w' gM #[.int .i64 15, .int .i64 a, .int .i64 bb, .int .i64 ((m : Int) + 1), .int .i64 d, .int .i64 ee, .int .i64 er, .int .i64 p0, .int .i64 p1, .int .i64 p2, .int .i64 p3, .string s, .string t] tMsg from h.h2).cell 6, (show Blk w' gM #[.int .i64 15, .int .i64 a, .int .i64 bb, .int .i64 ((m : Int) + 1), .int .i64 d, .int .i64 ee, .int .i64 er, .int .i64 p0, .int .i64 p1, .int .i64 p2, .int .i64 p3, .string s, .string t] tMsg from h.h2).cell 11, h.cliCells.2.1, h.cliCells.2.2.1, h.cliCells.2.2.2⟩)
    obtain ⟨x0, x6, x11, x1, x2, x3⟩ := HC2.out _ HS.out
    have HL1 := Lib.hid (show (m + 1) * 24 ≤ 140737488355328 by omega)
    have HL0 := Lib.hid (show (0 + m) * 24 ≤ 140737488355328 by omega)
    have HL2 := Lib.hid (show (0 + m + 1) * 24 ≤ 140737488355328 by omega)
    have hbr : ∀ w, (Instr.build tRs #[(0, .int .i64 er), (1, .string s)]).run Try.prog w = .ok (.agg #[.int .i64 er, .string s]) w := fun w => run_build w tRs _ _ (by kernel_rfl)
    have HBB := Lib.hid (show Blk _ b #[.int .i64 tp, .slice A1 n q1, .slice A2 m q2, .int .i64 nd] tRc from HS.out.cli.1)
    have HR := Lib.hid (show Rd _ A2 (eRs.fl rs) from (show Own _ tRs 2 (.slice A2 m q2) m (eRs.fl rs) by have := HS.out.cli.2.2.1; simp only [HN.out.2] at this; exact this).rd)
    have HA := Lib.hid (show A2 = none → m = 0 ∧ q2 = 0 from (show Own _ tRs 2 (.slice A2 m q2) m (eRs.fl rs) by have := HS.out.cli.2.2.1; simp only [HN.out.2] at this; exact this).cap.2)
    go_upto_region 4 with fail
    have HS := Lib.hid HS.out.drew
    refine wp_region_L (fun w' => w'.cell? ⟨gL, 0, none⟩ = some (.int .i64 1) ∧ w'.cell? ⟨gM, 6, none⟩ = some (.int .i64 er) ∧ w'.cell? ⟨gM, 11, none⟩ = some (.string s) ∧ w'.cell? ⟨b, 1, none⟩ = some (.slice A1 n q1) ∧ w'.cell? ⟨b, 2, none⟩ = some (.slice A2 m q2) ∧ w'.cell? ⟨b, 3, none⟩ = some (.int .i64 nd)) 12 (by kernel_rfl) (HC2.out _ HS.out) (fun hHeld => ?_)
    refine reg_take (i := 0) (d := 55) (v := ?_) [] rfl rfl (by kernel_rfl) (by kernel_rfl) (fun _ _ _ h => h) (Or.inl ⟨by rfl, ?_⟩) (by assumption) ?_
    rotate_left
    · (intro w hSw; (try dsimp only at hSw); go_simp; first | done | with_reducible rfl)
    try simp only [List.setIfInBounds_toArray, List.set_cons_zero, List.set_cons_succ]
    refine reg_take (i := 1) (d := 56) (v := ?_) [] rfl rfl (by kernel_rfl) (by kernel_rfl) (fun _ _ _ h => h) (Or.inl ⟨by rfl, ?_⟩) (by assumption) ?_
    rotate_left
    · (intro w hSw; (try dsimp only at hSw); go_simp; first | done | with_reducible rfl)
    try simp only [List.setIfInBounds_toArray, List.set_cons_zero, List.set_cons_succ]
    refine reg_take (i := 2) (d := 57) (v := ?_) [] rfl rfl (by kernel_rfl) (by kernel_rfl) (fun _ _ _ h => h) (Or.inl ⟨by rfl, ?_⟩) (by assumption) ?_
    rotate_left
    · (intro w hSw; (try dsimp only at hSw); go_simp; first | done | with_reducible rfl)
    try simp only [List.setIfInBounds_toArray, List.set_cons_zero, List.set_cons_succ]
    refine reg_take (i := 3) (d := 58) (v := ?_) [] rfl rfl (by kernel_rfl) (by kernel_rfl) (fun _ _ _ h => h) (Or.inl ⟨by rfl, ?_⟩) (by assumption) ?_
    rotate_left
    · (intro w hSw; (try dsimp only at hSw); go_simp; first | done | with_reducible rfl)
    try simp only [List.setIfInBounds_toArray, List.set_cons_zero, List.set_cons_succ]
    refine reg_take (i := 4) (d := 59) (v := undef) [] rfl rfl (by kernel_rfl) (by kernel_rfl) (fun _ _ _ h => h) (Or.inr ⟨by rfl, rfl⟩) (by assumption) ?_
    try simp only [List.setIfInBounds_toArray, List.set_cons_zero, List.set_cons_succ]
    refine reg_take (i := 5) (d := 60) (v := undef) [] rfl rfl (by kernel_rfl) (by kernel_rfl) (fun _ _ _ h => h) (Or.inr ⟨by rfl, rfl⟩) (by assumption) ?_
    try simp only [List.setIfInBounds_toArray, List.set_cons_zero, List.set_cons_succ]
    refine reg_take (i := 6) (d := 61) (v := undef) [] rfl rfl (by kernel_rfl) (by kernel_rfl) (fun _ _ _ h => h) (Or.inr ⟨by rfl, rfl⟩) (by assumption) ?_
    try simp only [List.setIfInBounds_toArray, List.set_cons_zero, List.set_cons_succ]
    refine reg_take (i := 7) (d := 62) (v := undef) [] rfl rfl (by kernel_rfl) (by kernel_rfl) (fun _ _ _ h => h) (Or.inr ⟨by rfl, rfl⟩) (by assumption) ?_
    try simp only [List.setIfInBounds_toArray, List.set_cons_zero, List.set_cons_succ]
    refine reg_take (i := 8) (d := 63) (v := undef) [] rfl rfl (by kernel_rfl) (by kernel_rfl) (fun _ _ _ h => h) (Or.inr ⟨by rfl, rfl⟩) (by assumption) ?_
    try simp only [List.setIfInBounds_toArray, List.set_cons_zero, List.set_cons_succ]
    refine reg_take (i := 9) (d := 64) (v := undef) [] rfl rfl (by kernel_rfl) (by kernel_rfl) (fun _ _ _ h => h) (Or.inr ⟨by rfl, rfl⟩) (by assumption) ?_
    try simp only [List.setIfInBounds_toArray, List.set_cons_zero, List.set_cons_succ]
    refine reg_take (i := 10) (d := 65) (v := undef) [] rfl rfl (by kernel_rfl) (by kernel_rfl) (fun _ _ _ h => h) (Or.inr ⟨by rfl, rfl⟩) (by assumption) ?_
    try simp only [List.setIfInBounds_toArray, List.set_cons_zero, List.set_cons_succ]
    refine reg_take (i := 11) (d := 66) (v := ?_) [] rfl rfl (by kernel_rfl) (by kernel_rfl) (fun _ _ _ h => h) (Or.inl ⟨by rfl, ?_⟩) (by assumption) ?_
    rotate_left
    · (intro w hSw; (try dsimp only at hSw); go_simp; first | done | with_reducible rfl)
    try simp only [List.setIfInBounds_toArray, List.set_cons_zero, List.set_cons_succ]
    refine wpAnyL_done (by kernel_rfl) ?_ _
    obtain ⟨x0, x6, x11, x1, x2, x3⟩ := HC2.out _ HS.out
    go_upto_region 8 with fail
    clear x0 x1 x2 x3 x6 x11
    generalize w5.drew = wc at *
    have HSS := Lib.hid HS.out
    have HBB := Lib.hid (show Blk _ b #[.int .i64 tp, .slice A1 n q1, .slice A2 m q2, .int .i64 nd] tRc from HSS.out.cli.1)
    have HR := Lib.hid (show Rd _ A2 (eRs.fl rs) from (show Own _ tRs 2 (.slice A2 m q2) m (eRs.fl rs) by have := HSS.out.cli.2.2.1; simp only [HN.out.2] at this; exact this).rd)
    have HS : Hid (∀ w', Below wc.heap.size wc w' → w'.cell? ⟨gL, 0, none⟩ = some (.int .i64 1) ∧ w'.cell? ⟨gM, 6, none⟩ = some (.int .i64 er) ∧ w'.cell? ⟨gM, 11, none⟩ = some (.string s) ∧ w'.cell? ⟨b, 1, none⟩ = some (.slice A1 n q1) ∧ w'.cell? ⟨b, 2, none⟩ = some (.slice A2 m q2) ∧ w'.cell? ⟨b, 3, none⟩ = some (.int .i64 nd)) := Lib.hid (fun w' h => HC2.out _ (HSS.out.step h))
    have HQ := Lib.hid ((Sep.nil wc).drew)
    refine wp_region_L (fun w' => w'.cell? ⟨gL, 0, none⟩ = some (.int .i64 1) ∧ w'.cell? ⟨gM, 6, none⟩ = some (.int .i64 er) ∧ w'.cell? ⟨gM, 11, none⟩ = some (.string s) ∧ w'.cell? ⟨b, 1, none⟩ = some (.slice A1 n q1) ∧ w'.cell? ⟨b, 2, none⟩ = some (.slice A2 m q2) ∧ w'.cell? ⟨b, 3, none⟩ = some (.int .i64 nd)) 16 (by kernel_rfl) (HS.out _ HQ.out.bel) (fun hHeld => ?_)
    refine reg_take (i := 0) (d := 88) (v := ?_) [] rfl rfl (by kernel_rfl) (by kernel_rfl) (fun _ _ _ h => h) (Or.inl ⟨by rfl, ?_⟩) (by assumption) ?_
    rotate_left
    · (intro w hSw; (try dsimp only at hSw); go_simp; first | done | with_reducible rfl)
    try simp only [List.setIfInBounds_toArray, List.set_cons_zero, List.set_cons_succ]
    refine reg_take (i := 2) (d := 90) (v := ?_) [] rfl rfl (by kernel_rfl) (by kernel_rfl) (fun _ _ _ h => h) (Or.inl ⟨by rfl, ?_⟩) (by assumption) ?_
    rotate_left
    · (intro w hSw; (try dsimp only at hSw); go_simp; first | done | with_reducible rfl)
    try simp only [List.setIfInBounds_toArray, List.set_cons_zero, List.set_cons_succ]
    refine reg_take (i := 3) (d := 91) (v := ?_) [] rfl rfl (by kernel_rfl) (by kernel_rfl) (fun _ _ _ h => h) (Or.inl ⟨by rfl, ?_⟩) (by assumption) ?_
    rotate_left
    · (intro w hSw; (try dsimp only at hSw); go_simp; first | done | with_reducible rfl)
    try simp only [List.setIfInBounds_toArray, List.set_cons_zero, List.set_cons_succ]
    refine reg_take (i := 4) (d := 92) (v := ?_) [] rfl rfl (by kernel_rfl) (by kernel_rfl) (fun _ _ _ h => h) (Or.inl ⟨by rfl, ?_⟩) (by assumption) ?_
    rotate_left
    · (intro w hSw; (try dsimp only at hSw); go_simp; first | done | with_reducible rfl)
    try simp only [List.setIfInBounds_toArray, List.set_cons_zero, List.set_cons_succ]
    refine reg_take (i := 5) (d := 93) (v := ?_) [] rfl rfl (by kernel_rfl) (by kernel_rfl) (fun _ _ _ h => h) (Or.inl ⟨by rfl, ?_⟩) (by assumption) ?_
    rotate_left
    · (intro w hSw; (try dsimp only at hSw); go_simp; first | done | with_reducible rfl)
    try simp only [List.setIfInBounds_toArray, List.set_cons_zero, List.set_cons_succ]
    refine reg_take (i := 7) (d := 95) (v := ?_) [] rfl rfl (by kernel_rfl) (by kernel_rfl) (fun _ _ _ h => h) (Or.inl ⟨by rfl, ?_⟩) (by assumption) ?_
    rotate_left
    · (intro w hSw; (try dsimp only at hSw); go_simp; first | done | with_reducible rfl)
    try simp only [List.setIfInBounds_toArray, List.set_cons_zero, List.set_cons_succ]
    refine reg_take (i := 8) (d := 96) (v := ?_) [] rfl rfl (by kernel_rfl) (by kernel_rfl) (fun _ _ _ h => h) (Or.inl ⟨by rfl, ?_⟩) (by assumption) ?_
    rotate_left
    · (intro w hSw; (try dsimp only at hSw); go_simp; first | done | with_reducible rfl)
    try simp only [List.setIfInBounds_toArray, List.set_cons_zero, List.set_cons_succ]
    refine reg_take (i := 9) (d := 97) (v := ?_) [] rfl rfl (by kernel_rfl) (by kernel_rfl) (fun _ _ _ h => h) (Or.inl ⟨by rfl, ?_⟩) (by assumption) ?_
    rotate_left
    · (intro w hSw; (try dsimp only at hSw); go_simp; first | done | with_reducible rfl)
    try simp only [List.setIfInBounds_toArray, List.set_cons_zero, List.set_cons_succ]
    refine reg_take (i := 10) (d := 98) (v := ?_) [] rfl rfl (by kernel_rfl) (by kernel_rfl) (fun _ _ _ h => h) (Or.inl ⟨by rfl, ?_⟩) (by assumption) ?_
    rotate_left
    · (intro w hSw; (try dsimp only at hSw); go_simp; first | done | with_reducible rfl)
    try simp only [List.setIfInBounds_toArray, List.set_cons_zero, List.set_cons_succ]
    refine reg_take (i := 11) (d := 99) (v := ?_) [] rfl rfl (by kernel_rfl) (by kernel_rfl) (fun _ _ _ h => h) (Or.inl ⟨by rfl, ?_⟩) (by assumption) ?_
    rotate_left
    · (intro w hSw; (try dsimp only at hSw); go_simp; first | done | with_reducible rfl)
    try simp only [List.setIfInBounds_toArray, List.set_cons_zero, List.set_cons_succ]
    refine wpAnyL_ready (rs := [1, 12]) (by kernel_rfl) rfl ?_
    refine (AllL.cons rfl (fun K hK => ?_) (AllL.cons rfl (fun K hK => ?_) AllL.nil))
    · go_simp
      have HQ := Lib.hid (HQ.out.newRow tRs 2 (g := wc.heap.size) (by simp))
      refine hK.out _ _ (HS.out _ HQ.out.bel) (fun hHeld => ?_)
      try simp only [List.setIfInBounds_toArray, List.set_cons_zero, List.set_cons_succ]
      refine wpAnyL_ready (rs := [6, 12]) (by kernel_rfl) rfl ?_
      refine (AllL.cons rfl (fun K hK => ?_) (AllL.cons rfl (fun K hK => ?_) AllL.nil))
      · refine stepA 44 tRs (.agg #[.int .i64 0, .string ByteArray.empty]) 2 24 (eRs.fl rs) m HQ.out.own HL0.out Try.underlying44 Try.infoRs rfl (by decide) (by decide) (by rw [Enc.length, HN.out.2]; rfl) (Enc.ones rs) A2 q2 (HR.out.below HQ.out.bel) HA.out (.tmp 89) (.tmp 93) rfl rfl rfl rfl ?_
        intro v1 w1 ho1 hg1 hat1
        have HQ := Lib.hid (HQ.out.app ho1 hg1 hat1)
        clear ho1 hg1 hat1
        refine hK.out _ _ (HS.out _ HQ.out.bel) (fun hHeld => ?_)
        try simp only [List.setIfInBounds_toArray, List.set_cons_zero, List.set_cons_succ]
        refine wpAnyL_ready (rs := [12]) (by kernel_rfl) rfl ?_
        refine (AllL.cons rfl (fun K hK => ?_) AllL.nil)
        go_simp
        have HQ := Lib.hid ((HQ.out.newBlk #[.int .i64 er, .string s] tRs (g := w1.heap.size) (by simp)).sw)
        refine hK.out _ _ (HS.out _ HQ.out.bel) (fun hHeld => ?_)
        try simp only [List.setIfInBounds_toArray, List.set_cons_zero, List.set_cons_succ]
        refine wpAnyL_ready (rs := [13]) (by kernel_rfl) rfl ?_
        refine (AllL.cons rfl (fun K hK => ?_) AllL.nil)
        refine stepA 44 tRs (.agg #[.int .i64 0, .string ByteArray.empty]) 2 24 [.int .i64 er, .string s] 1 HQ.out.own HL2.out Try.underlying44 Try.infoRs rfl (by decide) (by decide) rfl (one2 er s) _ _ (show Rd _ (some ⟨_, 0, none⟩) _ from (show Blk _ _ #[.int .i64 er, .string s] tRs from HQ.out.h2).rd) (fun e => nomatch e) (.tmp 94) (.tmp 100) rfl rfl rfl rfl ?_
        intro v2 w2 ho2 hg2 hat2
        obtain ⟨A2, c2, rfl, _⟩ := ho2.form
        have HQ := Lib.hid (HQ.out.app ho2 hg2 hat2)
        clear ho2 hg2 hat2
        refine hK.out _ _ (HS.out _ HQ.out.bel) (fun hHeld => ?_)
        try simp only [List.setIfInBounds_toArray, List.set_cons_zero, List.set_cons_succ]
        refine reg_take (i := 14) (d := 102) (v := ?_) [15] rfl rfl (by kernel_rfl) (by kernel_rfl) (fun _ _ _ h => h) (Or.inl ⟨by rfl, ?_⟩) (by assumption) ?_
        rotate_left
        · (intro w hSw; (try dsimp only at hSw); go_simp; first | done | with_reducible rfl)
        try simp only [List.setIfInBounds_toArray, List.set_cons_zero, List.set_cons_succ]
        refine reg_take (i := 15) (d := 103) (v := ?_) [] rfl rfl (by kernel_rfl) (by kernel_rfl) (fun _ _ _ h => h) (Or.inl ⟨by rfl, ?_⟩) (by assumption) ?_
        rotate_left
        · (intro w hSw; (try dsimp only at hSw); go_simp; first | done | with_reducible rfl)
        try simp only [List.setIfInBounds_toArray, List.set_cons_zero, List.set_cons_succ]
        refine wpAnyL_ready (rs := [16]) (by kernel_rfl) rfl ?_
        refine (AllL.consJ rfl (by kernel_rfl) (fun K hK => ?_) AllL.nil)
        have z9 := (HBB.out.upd (Upd.of_below (S := fun _ => False) HQ.out.bel) (fun h => h)).cell 2
        have fz := (HBB.out.upd (Upd.of_below (S := fun _ => False) HQ.out.bel) (fun h => h)).frozen 2
        simp at z9
        go_simp
        refine hK.out _ _ ?_
        try simp only [List.setIfInBounds_toArray, List.set_cons_zero, List.set_cons_succ]
        refine wpAnyL_done (by kernel_rfl) ?_ _
        have HS2 := Lib.hid (HSS.out.cliSet (rs2 := rs ++ [⟨er, s⟩]) (by have h := HQ.out; rw [List.nil_append, Nat.zero_add, show [Value.int .i64 er, Value.string s] = eRs.f ⟨er, s⟩ from rfl, ← Enc.snoc] at h; exact h) (by rw [List.length_append, HN.out.2]; simp))
        have HGD2 := Lib.hid (show Good (Cst.mk tp nd cs (rs ++ [⟨er, s⟩])) from ⟨HGD.out.node, HGD.out.n, by simp only [List.length_append, List.length_cons, List.length_nil]; rw [HN.out.1, HN.out.2]; omega⟩)
        unfold Cst.put at HS2
        simp only at HS2
        clear hHeld
        go_wp2_with (go_at_call 30; refine (ron_sep HS2.out HGD2.out).mono ?_; rintro e7 w7 ⟨rfl, rv7, hS7⟩; have HS7 := Lib.hid hS7; clear hS7)
        go_ret
        exact ⟨ret_bool HF.out.2.symm, _, by rw [HF.out.1]; exact HS7.out.d3.d2⟩
      · go_simp
        have HQ := Lib.hid ((HQ.out.newBlk #[.int .i64 er, .string s] tRs (g := wc.heap.size + 1) (by simp)).sw)
        refine hK.out _ _ (HS.out _ HQ.out.bel) (fun hHeld => ?_)
        try simp only [List.setIfInBounds_toArray, List.set_cons_zero, List.set_cons_succ]
        refine wpAnyL_ready (rs := [6]) (by kernel_rfl) rfl ?_
        refine (AllL.cons rfl (fun K hK => ?_) AllL.nil)
        refine stepA 44 tRs (.agg #[.int .i64 0, .string ByteArray.empty]) 2 24 (eRs.fl rs) m HQ.out.own HL0.out Try.underlying44 Try.infoRs rfl (by decide) (by decide) (by rw [Enc.length, HN.out.2]; rfl) (Enc.ones rs) A2 q2 (HR.out.below HQ.out.bel) HA.out (.tmp 89) (.tmp 93) rfl rfl rfl rfl ?_
        intro v1 w1 ho1 hg1 hat1
        have HQ := Lib.hid (HQ.out.app ho1 hg1 hat1)
        clear ho1 hg1 hat1
        refine hK.out _ _ (HS.out _ HQ.out.bel) (fun hHeld => ?_)
        try simp only [List.setIfInBounds_toArray, List.set_cons_zero, List.set_cons_succ]
        refine wpAnyL_ready (rs := [13]) (by kernel_rfl) rfl ?_
        refine (AllL.cons rfl (fun K hK => ?_) AllL.nil)
        refine stepA 44 tRs (.agg #[.int .i64 0, .string ByteArray.empty]) 2 24 [.int .i64 er, .string s] 1 HQ.out.own HL2.out Try.underlying44 Try.infoRs rfl (by decide) (by decide) rfl (one2 er s) _ _ (show Rd _ (some ⟨_, 0, none⟩) _ from (show Blk _ _ #[.int .i64 er, .string s] tRs from HQ.out.h2).rd) (fun e => nomatch e) (.tmp 94) (.tmp 100) rfl rfl rfl rfl ?_
        intro v2 w2 ho2 hg2 hat2
        obtain ⟨A2, c2, rfl, _⟩ := ho2.form
        have HQ := Lib.hid (HQ.out.app ho2 hg2 hat2)
        clear ho2 hg2 hat2
        refine hK.out _ _ (HS.out _ HQ.out.bel) (fun hHeld => ?_)
        try simp only [List.setIfInBounds_toArray, List.set_cons_zero, List.set_cons_succ]
        refine reg_take (i := 14) (d := 102) (v := ?_) [15] rfl rfl (by kernel_rfl) (by kernel_rfl) (fun _ _ _ h => h) (Or.inl ⟨by rfl, ?_⟩) (by assumption) ?_
        rotate_left
        · (intro w hSw; (try dsimp only at hSw); go_simp; first | done | with_reducible rfl)
        try simp only [List.setIfInBounds_toArray, List.set_cons_zero, List.set_cons_succ]
        refine reg_take (i := 15) (d := 103) (v := ?_) [] rfl rfl (by kernel_rfl) (by kernel_rfl) (fun _ _ _ h => h) (Or.inl ⟨by rfl, ?_⟩) (by assumption) ?_
        rotate_left
        · (intro w hSw; (try dsimp only at hSw); go_simp; first | done | with_reducible rfl)
        try simp only [List.setIfInBounds_toArray, List.set_cons_zero, List.set_cons_succ]
        refine wpAnyL_ready (rs := [16]) (by kernel_rfl) rfl ?_
        refine (AllL.consJ rfl (by kernel_rfl) (fun K hK => ?_) AllL.nil)
        have z9 := (HBB.out.upd (Upd.of_below (S := fun _ => False) HQ.out.bel) (fun h => h)).cell 2
        have fz := (HBB.out.upd (Upd.of_below (S := fun _ => False) HQ.out.bel) (fun h => h)).frozen 2
        simp at z9
        go_simp
        refine hK.out _ _ ?_
        try simp only [List.setIfInBounds_toArray, List.set_cons_zero, List.set_cons_succ]
        refine wpAnyL_done (by kernel_rfl) ?_ _
        have HS2 := Lib.hid (HSS.out.cliSet (rs2 := rs ++ [⟨er, s⟩]) (by have h := HQ.out; rw [List.nil_append, Nat.zero_add, show [Value.int .i64 er, Value.string s] = eRs.f ⟨er, s⟩ from rfl, ← Enc.snoc] at h; exact h) (by rw [List.length_append, HN.out.2]; simp))
        have HGD2 := Lib.hid (show Good (Cst.mk tp nd cs (rs ++ [⟨er, s⟩])) from ⟨HGD.out.node, HGD.out.n, by simp only [List.length_append, List.length_cons, List.length_nil]; rw [HN.out.1, HN.out.2]; omega⟩)
        unfold Cst.put at HS2
        simp only at HS2
        clear hHeld
        go_wp2_with (go_at_call 30; refine (ron_sep HS2.out HGD2.out).mono ?_; rintro e7 w7 ⟨rfl, rv7, hS7⟩; have HS7 := Lib.hid hS7; clear hS7)
        go_ret
        exact ⟨ret_bool HF.out.2.symm, _, by rw [HF.out.1]; exact HS7.out.d3.d2⟩
    · go_simp
      have HQ := Lib.hid ((HQ.out.newBlk #[.int .i64 er, .string s] tRs (g := wc.heap.size) (by simp)))
      refine hK.out _ _ (HS.out _ HQ.out.bel) (fun hHeld => ?_)
      try simp only [List.setIfInBounds_toArray, List.set_cons_zero, List.set_cons_succ]
      refine wpAnyL_ready (rs := [1]) (by kernel_rfl) rfl ?_
      refine (AllL.cons rfl (fun K hK => ?_) AllL.nil)
      go_simp
      have HQ := Lib.hid (HQ.out.newRow tRs 2 (g := wc.heap.size + 1) (by simp))
      refine hK.out _ _ (HS.out _ HQ.out.bel) (fun hHeld => ?_)
      try simp only [List.setIfInBounds_toArray, List.set_cons_zero, List.set_cons_succ]
      refine wpAnyL_ready (rs := [6]) (by kernel_rfl) rfl ?_
      refine (AllL.cons rfl (fun K hK => ?_) AllL.nil)
      refine stepA 44 tRs (.agg #[.int .i64 0, .string ByteArray.empty]) 2 24 (eRs.fl rs) m HQ.out.own HL0.out Try.underlying44 Try.infoRs rfl (by decide) (by decide) (by rw [Enc.length, HN.out.2]; rfl) (Enc.ones rs) A2 q2 (HR.out.below HQ.out.bel) HA.out (.tmp 89) (.tmp 93) rfl rfl rfl rfl ?_
      intro v1 w1 ho1 hg1 hat1
      have HQ := Lib.hid (HQ.out.app ho1 hg1 hat1)
      clear ho1 hg1 hat1
      refine hK.out _ _ (HS.out _ HQ.out.bel) (fun hHeld => ?_)
      try simp only [List.setIfInBounds_toArray, List.set_cons_zero, List.set_cons_succ]
      refine wpAnyL_ready (rs := [13]) (by kernel_rfl) rfl ?_
      refine (AllL.cons rfl (fun K hK => ?_) AllL.nil)
      refine stepA 44 tRs (.agg #[.int .i64 0, .string ByteArray.empty]) 2 24 [.int .i64 er, .string s] 1 HQ.out.own HL2.out Try.underlying44 Try.infoRs rfl (by decide) (by decide) rfl (one2 er s) _ _ (show Rd _ (some ⟨_, 0, none⟩) _ from (show Blk _ _ #[.int .i64 er, .string s] tRs from HQ.out.h2).rd) (fun e => nomatch e) (.tmp 94) (.tmp 100) rfl rfl rfl rfl ?_
      intro v2 w2 ho2 hg2 hat2
      obtain ⟨A2, c2, rfl, _⟩ := ho2.form
      have HQ := Lib.hid (HQ.out.app ho2 hg2 hat2)
      clear ho2 hg2 hat2
      refine hK.out _ _ (HS.out _ HQ.out.bel) (fun hHeld => ?_)
      try simp only [List.setIfInBounds_toArray, List.set_cons_zero, List.set_cons_succ]
      refine reg_take (i := 14) (d := 102) (v := ?_) [15] rfl rfl (by kernel_rfl) (by kernel_rfl) (fun _ _ _ h => h) (Or.inl ⟨by rfl, ?_⟩) (by assumption) ?_
      rotate_left
      · (intro w hSw; (try dsimp only at hSw); go_simp; first | done | with_reducible rfl)
      try simp only [List.setIfInBounds_toArray, List.set_cons_zero, List.set_cons_succ]
      refine reg_take (i := 15) (d := 103) (v := ?_) [] rfl rfl (by kernel_rfl) (by kernel_rfl) (fun _ _ _ h => h) (Or.inl ⟨by rfl, ?_⟩) (by assumption) ?_
      rotate_left
      · (intro w hSw; (try dsimp only at hSw); go_simp; first | done | with_reducible rfl)
      try simp only [List.setIfInBounds_toArray, List.set_cons_zero, List.set_cons_succ]
      refine wpAnyL_ready (rs := [16]) (by kernel_rfl) rfl ?_
      refine (AllL.consJ rfl (by kernel_rfl) (fun K hK => ?_) AllL.nil)
      have z9 := (HBB.out.upd (Upd.of_below (S := fun _ => False) HQ.out.bel) (fun h => h)).cell 2
      have fz := (HBB.out.upd (Upd.of_below (S := fun _ => False) HQ.out.bel) (fun h => h)).frozen 2
      simp at z9
      go_simp
      refine hK.out _ _ ?_
      try simp only [List.setIfInBounds_toArray, List.set_cons_zero, List.set_cons_succ]
      refine wpAnyL_done (by kernel_rfl) ?_ _
      have HS2 := Lib.hid (HSS.out.cliSet (rs2 := rs ++ [⟨er, s⟩]) (by have h := HQ.out; rw [List.nil_append, Nat.zero_add, show [Value.int .i64 er, Value.string s] = eRs.f ⟨er, s⟩ from rfl, ← Enc.snoc] at h; exact h) (by rw [List.length_append, HN.out.2]; simp))
      have HGD2 := Lib.hid (show Good (Cst.mk tp nd cs (rs ++ [⟨er, s⟩])) from ⟨HGD.out.node, HGD.out.n, by simp only [List.length_append, List.length_cons, List.length_nil]; rw [HN.out.1, HN.out.2]; omega⟩)
      unfold Cst.put at HS2
      simp only at HS2
      clear hHeld
      go_wp2_with (go_at_call 30; refine (ron_sep HS2.out HGD2.out).mono ?_; rintro e7 w7 ⟨rfl, rv7, hS7⟩; have HS7 := Lib.hid hS7; clear hS7)
      go_ret
      exact ⟨ret_bool HF.out.2.symm, _, by rw [HF.out.1]; exact HS7.out.d3.d2⟩
end
end Go.Proofs.Ytodjmeodcmbdoaa
