/- The walks of package mail: may a message be. No condition. -/
import Derived.Test.YtodjmeodcmbdoaaMaiW
set_option linter.unusedVariables false
set_option linter.unusedSimpArgs false
namespace Go.Proofs.Ytodjmeodcmbdoaa
open Go.RowKit
def Msg.cs (m : Msg) : Array Value := #[.int .i64 m.kind, .int .i64 m.a, .int .i64 m.b, .int .i64 m.c, .int .i64 m.d, .int .i64 m.e, .int .i64 m.er, .int .i64 m.p0, .int .i64 m.p1, .int .i64 m.p2, .int .i64 m.p3, .string m.s, .string m.t]
def Msg.p (m : Msg) (j : Nat) : Int := match j with | 0 => m.p0 | 1 => m.p1 | 2 => m.p2 | _ => m.p3
abbrev tMsg : TypeId := 35
theorem idx4 (x0 x1 x2 x3 : Int) (w : World) : ((Instr.index 33 (.agg #[.int .i64 x0, .int .i64 x1, .int .i64 x2, .int .i64 x3]) (.int .i64 0)).run Try.prog w = .ok (.int .i64 x0) w) ∧ ((Instr.index 33 (.agg #[.int .i64 x0, .int .i64 x1, .int .i64 x2, .int .i64 x3]) (.int .i64 1)).run Try.prog w = .ok (.int .i64 x1) w) ∧
    ((Instr.index 33 (.agg #[.int .i64 x0, .int .i64 x1, .int .i64 x2, .int .i64 x3]) (.int .i64 2)).run Try.prog w = .ok (.int .i64 x2) w) ∧ ((Instr.index 33 (.agg #[.int .i64 x0, .int .i64 x1, .int .i64 x2, .int .i64 x3]) (.int .i64 3)).run Try.prog w = .ok (.int .i64 x3) w) := by
  refine ⟨?_, ?_, ?_, ?_⟩ <;> kernel_rfl
set_option maxRecDepth 100000 in
set_option maxHeartbeats 2000000 in
theorem mmay_any (m : Msg) (w : World) : Calls Try.prog 36 #[.agg m.cs] w fun e w' => e = .returned (.bool (mayM m)) ∧ Below w.heap.size w w' := by
  obtain ⟨g, hg⟩ : ∃ g, w.heap.size = g := ⟨_, rfl⟩
  have HS := Lib.hid ((Sep.nil w).newBlk m.cs tMsg hg)
  have HG := Lib.hid hg
  obtain ⟨r, hr⟩ : ∃ r, mayM m = r := ⟨_, rfl⟩
  have HRE := Lib.hid hr
  rw [hr]
  clear hr hg
  obtain ⟨k, a, b, c, d, e, er, p0, p1, p2, p3, s, t⟩ := m
  unfold Msg.cs at HS ⊢
  simp only at HS ⊢
  go_enter Try.func36, Try.ntmps36
  go_upto_region 1 with fail
  rw [HG.out]
  generalize w.alloc (.cells #[.int .i64 k, .int .i64 a, .int .i64 b, .int .i64 c, .int .i64 d, .int .i64 e, .int .i64 er, .int .i64 p0, .int .i64 p1, .int .i64 p2, .int .i64 p3, .string s, .string t] tMsg) = w1 at *
  have y7 := (show Blk w1 g _ tMsg from HS.out.hd).cell 7; have y8 := (show Blk w1 g _ tMsg from HS.out.hd).cell 8; have y9 := (show Blk w1 g _ tMsg from HS.out.hd).cell 9; have y10 := (show Blk w1 g _ tMsg from HS.out.hd).cell 10
  simp at y7 y8 y9 y10
  go_wp2_with fail
  clear y7 y8 y9 y10
  go_loopg [4, 7] 4 (fun gk s4 s7 wr => ∃ (j : Nat) (v4 : Value), v4 = s4 ∧ s7 = .int .i64 (j : Int) ∧ j ≤ 4 ∧ gk = 4 - j ∧ Sep w wr [tBlk g #[.int .i64 k, .int .i64 a, .int .i64 b, .int .i64 c, .int .i64 d, .int .i64 e, .int .i64 er, .int .i64 p0, .int .i64 p1, .int .i64 p2, .int .i64 p3, .string s, .string t] tMsg] ∧ (0 < j → wi p0 0 big62 = true) ∧ (1 < j → wi p1 0 big62 = true) ∧ (2 < j → wi p2 0 big62 = true) ∧ (3 < j → wi p3 0 big62 = true))
  case atStart => exact ⟨0, _, rfl, rfl, by omega, by omega, HS.out, fun h => by omega, fun h => by omega, fun h => by omega, fun h => by omega⟩
  case round =>
  clear HS HG
  obtain ⟨j, v4, rfl, rfl, hj, hgj, hS, h0, h1, h2, h3⟩ := hrel
  have HS := Lib.hid hS; have H0 := Lib.hid h0; have H1 := Lib.hid h1; have H2 := Lib.hid h2; have H3 := Lib.hid h3
  clear hS h0 h1 h2 h3
  have hcase : j = 0 ∨ j = 1 ∨ j = 2 ∨ j = 3 ∨ j = 4 := by omega
  rcases hcase with rfl | rfl | rfl | rfl | rfl
  rotate_left 4
  · have HP := Lib.hid (And.intro (H0.out (by omega)) (And.intro (H1.out (by omega)) (And.intro (H2.out (by omega)) (H3.out (by omega)))))
    have hb := (show Blk wr g _ tMsg from HS.out.hd)
    have y0 := hb.cell 0; have y1 := hb.cell 1; have y2 := hb.cell 2; have y3 := hb.cell 3; have y4 := hb.cell 4; have y5 := hb.cell 5; have y6 := hb.cell 6; have y11 := hb.cell 11; have y12 := hb.cell 12
    simp at y0 y1 y2 y3 y4 y5 y6 y11 y12
    clear hb H0 H1 H2 H3
    by_cases hs40 : s.size ≤ 40
    rotate_left
    · have f1 : decide ((s.size : Int) ≤ 40) = false := by simp; omega
      have f2 : ¬ (s.size : Int) ≤ 40 := by omega
      have HF := Lib.hid (show r = false by rw [← HRE.out]; unfold mayM; simp [hs40])
      clear hs40
      go_wp2_with fail
      go_ret
      exact ⟨ret_bool HF.out.symm, HS.out.bel⟩
    have f1 : (s.size : Int) ≤ 40 := by omega
    by_cases ht10 : t.size ≤ 10
    rotate_left
    · have f3 : decide ((t.size : Int) ≤ 10) = false := by simp; omega
      have f4 : ¬ (t.size : Int) ≤ 10 := by omega
      have HF := Lib.hid (show r = false by rw [← HRE.out]; unfold mayM; simp [ht10])
      clear ht10
      go_wp2_with fail
      go_ret
      exact ⟨ret_bool HF.out.symm, HS.out.bel⟩
    have f3 : (t.size : Int) ≤ 10 := by omega
    have HX := Lib.hid ((Sep.nil wr).newBlk #[.int .i64 k, .int .i64 1, .int .i64 15, .int .i64 a, .int .i64 0, .int .i64 4611686018427387904, .int .i64 b, .int .i64 0, .int .i64 4611686018427387904, .int .i64 c, .int .i64 (-4611686018427387904), .int .i64 4611686018427387904, .int .i64 d, .int .i64 (-1), .int .i64 31, .int .i64 e, .int .i64 (-1), .int .i64 3, .int .i64 er, .int .i64 0, .int .i64 31] tTr (g := wr.heap.size) rfl)
    have HQ := Lib.hid (show [(⟨k, 1, 15⟩ : Tri), ⟨a, 0, 4611686018427387904⟩, ⟨b, 0, 4611686018427387904⟩, ⟨c, -4611686018427387904, 4611686018427387904⟩, ⟨d, -1, 31⟩, ⟨e, -1, 3⟩, ⟨er, 0, 31⟩].all triB = r by
      rw [← HRE.out]
      unfold mayM
      simp only [HP.out.1, HP.out.2.1, HP.out.2.2.1, HP.out.2.2.2, hs40, ht10, decide_true, Bool.true_and, List.all_cons, List.all_nil, Bool.and_true, triB]
      simp [Bool.and_assoc])
    clear hs40 ht10
    go_wp2_with fail
    refine (all_any [(⟨k, 1, 15⟩ : Tri), ⟨a, 0, 4611686018427387904⟩, ⟨b, 0, 4611686018427387904⟩, ⟨c, -4611686018427387904, 4611686018427387904⟩, ⟨d, -1, 31⟩, ⟨e, -1, 3⟩, ⟨er, 0, 31⟩] _ 7 7 _ rfl (by decide) (show Blk _ wr.heap.size _ tTr from HX.out.hd).rd).mono ?_
    rintro e1 w2 ⟨rfl, hB⟩
    have HS2 := Lib.hid ((HS.out.step (HX.out.bel)).step hB)
    rw [HQ.out]
    clear hB
    go_wp2_with fail
    go_ret
    exact ⟨rfl, HS2.out.bel⟩
  · have hidx := (idx4 p0 p1 p2 p3 wr).1
    have HX := Lib.hid ((Sep.nil wr).newBlk #[.int .i64 p0, .int .i64 0, .int .i64 4611686018427387904] tTr (g := wr.heap.size) rfl)
    go_wp2_with fail
    refine (all_any [⟨p0, 0, 4611686018427387904⟩] _ 1 1 _ rfl (by decide) (show Blk _ wr.heap.size _ tTr from HX.out.hd).rd).mono ?_
    rintro e1 w2 ⟨rfl, hB⟩
    have HS2 := Lib.hid ((HS.out.step (HX.out.bel)).step hB)
    have hwj := Lib.hid (show [(⟨p0, 0, 4611686018427387904⟩ : Tri)].all triB = wi p0 0 big62 by simp [triB])
    rw [hwj.out]
    clear hB hidx
    cases hv : wi p0 0 big62
    · have HF := Lib.hid (show r = false by
        rw [← HRE.out]
        unfold mayM
        simp [hv])
      clear hv
      go_wp2_with fail
      go_ret
      exact ⟨ret_bool HF.out.symm, HS2.out.bel⟩
    · have HV := Lib.hid hv
      clear hv
      go_wp2_with fail
      go_roundg (4 - (0 + 1))
      case measure => omega
      case rel => exact ⟨0 + 1, _, rfl, rfl, by omega, rfl, HS2.out, fun h => HV.out, fun h => (by omega), fun h => (by omega), fun h => (by omega)⟩
  · have hidx := (idx4 p0 p1 p2 p3 wr).2.1
    have HX := Lib.hid ((Sep.nil wr).newBlk #[.int .i64 p1, .int .i64 0, .int .i64 4611686018427387904] tTr (g := wr.heap.size) rfl)
    go_wp2_with fail
    refine (all_any [⟨p1, 0, 4611686018427387904⟩] _ 1 1 _ rfl (by decide) (show Blk _ wr.heap.size _ tTr from HX.out.hd).rd).mono ?_
    rintro e1 w2 ⟨rfl, hB⟩
    have HS2 := Lib.hid ((HS.out.step (HX.out.bel)).step hB)
    have hwj := Lib.hid (show [(⟨p1, 0, 4611686018427387904⟩ : Tri)].all triB = wi p1 0 big62 by simp [triB])
    rw [hwj.out]
    clear hB hidx
    cases hv : wi p1 0 big62
    · have HF := Lib.hid (show r = false by
        rw [← HRE.out]
        unfold mayM
        simp [hv])
      clear hv
      go_wp2_with fail
      go_ret
      exact ⟨ret_bool HF.out.symm, HS2.out.bel⟩
    · have HV := Lib.hid hv
      clear hv
      go_wp2_with fail
      go_roundg (4 - (1 + 1))
      case measure => omega
      case rel => exact ⟨1 + 1, _, rfl, rfl, by omega, rfl, HS2.out, fun h => H0.out (by omega), fun h => HV.out, fun h => (by omega), fun h => (by omega)⟩
  · have hidx := (idx4 p0 p1 p2 p3 wr).2.2.1
    have HX := Lib.hid ((Sep.nil wr).newBlk #[.int .i64 p2, .int .i64 0, .int .i64 4611686018427387904] tTr (g := wr.heap.size) rfl)
    go_wp2_with fail
    refine (all_any [⟨p2, 0, 4611686018427387904⟩] _ 1 1 _ rfl (by decide) (show Blk _ wr.heap.size _ tTr from HX.out.hd).rd).mono ?_
    rintro e1 w2 ⟨rfl, hB⟩
    have HS2 := Lib.hid ((HS.out.step (HX.out.bel)).step hB)
    have hwj := Lib.hid (show [(⟨p2, 0, 4611686018427387904⟩ : Tri)].all triB = wi p2 0 big62 by simp [triB])
    rw [hwj.out]
    clear hB hidx
    cases hv : wi p2 0 big62
    · have HF := Lib.hid (show r = false by
        rw [← HRE.out]
        unfold mayM
        simp [hv])
      clear hv
      go_wp2_with fail
      go_ret
      exact ⟨ret_bool HF.out.symm, HS2.out.bel⟩
    · have HV := Lib.hid hv
      clear hv
      go_wp2_with fail
      go_roundg (4 - (2 + 1))
      case measure => omega
      case rel => exact ⟨2 + 1, _, rfl, rfl, by omega, rfl, HS2.out, fun h => H0.out (by omega), fun h => H1.out (by omega), fun h => HV.out, fun h => (by omega)⟩
  · have hidx := (idx4 p0 p1 p2 p3 wr).2.2.2
    have HX := Lib.hid ((Sep.nil wr).newBlk #[.int .i64 p3, .int .i64 0, .int .i64 4611686018427387904] tTr (g := wr.heap.size) rfl)
    go_wp2_with fail
    refine (all_any [⟨p3, 0, 4611686018427387904⟩] _ 1 1 _ rfl (by decide) (show Blk _ wr.heap.size _ tTr from HX.out.hd).rd).mono ?_
    rintro e1 w2 ⟨rfl, hB⟩
    have HS2 := Lib.hid ((HS.out.step (HX.out.bel)).step hB)
    have hwj := Lib.hid (show [(⟨p3, 0, 4611686018427387904⟩ : Tri)].all triB = wi p3 0 big62 by simp [triB])
    rw [hwj.out]
    clear hB hidx
    cases hv : wi p3 0 big62
    · have HF := Lib.hid (show r = false by
        rw [← HRE.out]
        unfold mayM
        simp [hv])
      clear hv
      go_wp2_with fail
      go_ret
      exact ⟨ret_bool HF.out.symm, HS2.out.bel⟩
    · have HV := Lib.hid hv
      clear hv
      go_wp2_with fail
      go_roundg (4 - (3 + 1))
      case measure => omega
      case rel => exact ⟨3 + 1, _, rfl, rfl, by omega, rfl, HS2.out, fun h => H0.out (by omega), fun h => H1.out (by omega), fun h => H2.out (by omega), fun h => HV.out⟩
end Go.Proofs.Ytodjmeodcmbdoaa
