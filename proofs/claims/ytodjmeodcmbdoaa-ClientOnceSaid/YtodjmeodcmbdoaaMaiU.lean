/- The walks of the document's package mail: may a message be. No condition. -/
import Derived.Test.YtodjmeodcmbdoaaMaiV
set_option linter.unusedVariables false
set_option linter.unusedSimpArgs false
namespace Go.Proofs.Ytodjmeodcmbdoaa
open Go.RowKit
set_option maxRecDepth 100000 in
set_option maxHeartbeats 4000000 in
theorem rmmay_any (m : Msg) (w : World) : Calls Try.prog 26 #[.agg m.cs] w fun e w' => e = .returned (.bool (mayM m)) ∧ Below w.heap.size w w' := by
  obtain ⟨g, hg⟩ : ∃ g, w.heap.size = g := ⟨_, rfl⟩
  have HS := Lib.hid ((Sep.nil w).newBlk m.cs tMsg hg)
  have HG := Lib.hid hg
  obtain ⟨r, hr⟩ : ∃ r, mayM m = r := ⟨_, rfl⟩
  have HRE := Lib.hid hr
  rw [hr]
  clear hr hg
  obtain ⟨k, a, b, c, d, e, er, p0, p1, p2, p3, s, t⟩ := m
  unfold Msg.cs at HS ⊢
  simp only at HS ⊢
  go_enter Try.func26, Try.ntmps26
  go_upto_region 1 with fail
  rw [HG.out]
  generalize w.alloc (.cells #[.int .i64 k, .int .i64 a, .int .i64 b, .int .i64 c, .int .i64 d, .int .i64 e, .int .i64 er, .int .i64 p0, .int .i64 p1, .int .i64 p2, .int .i64 p3, .string s, .string t] tMsg) = w1 at *
  have hb := (show Blk w1 g _ tMsg from HS.out.hd)
  have y0 := hb.cell 0; have y1 := hb.cell 1; have y2 := hb.cell 2; have y3 := hb.cell 3; have y4 := hb.cell 4; have y5 := hb.cell 5; have y6 := hb.cell 6; have y7 := hb.cell 7; have y8 := hb.cell 8; have y9 := hb.cell 9; have y10 := hb.cell 10; have y11 := hb.cell 11; have y12 := hb.cell 12
  simp at y0 y1 y2 y3 y4 y5 y6 y7 y8 y9 y10 y11 y12
  have HB := Lib.hid HS.out.bel
  clear hb HS HG
  go_wp2_with fail
  go_loopg [3] 4 (fun gk s3 wr => ∃ (j : Nat), s3 = .int .i64 (j : Int) ∧ j ≤ 4 ∧ gk = 4 - j ∧ wr = w1 ∧ (0 < j → wi p0 0 big62 = true) ∧ (1 < j → wi p1 0 big62 = true) ∧ (2 < j → wi p2 0 big62 = true) ∧ (3 < j → wi p3 0 big62 = true))
  case atStart => exact ⟨0, rfl, by omega, by omega, rfl, fun h => by omega, fun h => by omega, fun h => by omega, fun h => by omega⟩
  case round =>
  obtain ⟨j, rfl, hj, hgj, rfl, h0, h1, h2, h3⟩ := hrel
  have H0 := Lib.hid h0; have H1 := Lib.hid h1; have H2 := Lib.hid h2; have H3 := Lib.hid h3
  clear h0 h1 h2 h3
  have hcase : j = 0 ∨ j = 1 ∨ j = 2 ∨ j = 3 ∨ j = 4 := by omega
  rcases hcase with rfl | rfl | rfl | rfl | rfl
  rotate_left 4
  · have HP := Lib.hid (And.intro (H0.out (by omega)) (And.intro (H1.out (by omega)) (And.intro (H2.out (by omega)) (H3.out (by omega)))))
    clear H0 H1 H2 H3 y7 y8 y9 y10
    by_cases c0 : ¬ (1 ≤ k)
    · have HF := Lib.hid (show r = false by
        rw [← HRE.out]
        cases hm : mayM ⟨k, a, b, c, d, e, er, p0, p1, p2, p3, s, t⟩
        · rfl
        · have hm := (mayM_iff _).1 hm
          unfold big62 at hm; simp only at hm; omega)
      have f0 : decide (1 ≤ k) = false := by simpa using c0
      clear c0
      go_wp2_with fail
      go_ret
      exact ⟨ret_bool HF.out.symm, HB.out⟩
    have f0 : 1 ≤ k := by omega
    clear c0
    by_cases c1 : ¬ (k ≤ 15)
    · have HF := Lib.hid (show r = false by
        rw [← HRE.out]
        cases hm : mayM ⟨k, a, b, c, d, e, er, p0, p1, p2, p3, s, t⟩
        · rfl
        · have hm := (mayM_iff _).1 hm
          unfold big62 at hm; simp only at hm; omega)
      have f1 : decide (k ≤ 15) = false := by simpa using c1
      clear c1
      go_wp2_with fail
      go_ret
      exact ⟨ret_bool HF.out.symm, HB.out⟩
    have f1 : k ≤ 15 := by omega
    clear c1
    by_cases c2 : ¬ wi a (0) (4611686018427387904) = true
    · have HF := Lib.hid (show r = false by
        rw [← HRE.out]
        cases hm : mayM ⟨k, a, b, c, d, e, er, p0, p1, p2, p3, s, t⟩
        · rfl
        · have hm := (mayM_iff _).1 hm
          exact absurd (wi_iff.2 (by unfold big62 at hm; simp only at hm; omega)) c2)
      have f2 : wi a (0) (4611686018427387904) = false := by simpa using c2
      clear c2
      go_wp2_with (first | (with_reducible refine (within_any a (0) (4611686018427387904) _).mono ?_; rintro e1 w2 ⟨rfl, rfl⟩))
      go_ret
      exact ⟨ret_bool HF.out.symm, HB.out⟩
    have f2 : wi a (0) (4611686018427387904) = true := by simpa using c2
    clear c2
    by_cases c3 : ¬ wi b (0) (4611686018427387904) = true
    · have HF := Lib.hid (show r = false by
        rw [← HRE.out]
        cases hm : mayM ⟨k, a, b, c, d, e, er, p0, p1, p2, p3, s, t⟩
        · rfl
        · have hm := (mayM_iff _).1 hm
          exact absurd (wi_iff.2 (by unfold big62 at hm; simp only at hm; omega)) c3)
      have f3 : wi b (0) (4611686018427387904) = false := by simpa using c3
      clear c3
      go_wp2_with (first | (with_reducible refine (within_any a (0) (4611686018427387904) _).mono ?_; rintro e1 w2 ⟨rfl, rfl⟩) | (with_reducible refine (within_any b (0) (4611686018427387904) _).mono ?_; rintro e1 w2 ⟨rfl, rfl⟩))
      go_ret
      exact ⟨ret_bool HF.out.symm, HB.out⟩
    have f3 : wi b (0) (4611686018427387904) = true := by simpa using c3
    clear c3
    by_cases c4 : ¬ wi c (-4611686018427387904) (4611686018427387904) = true
    · have HF := Lib.hid (show r = false by
        rw [← HRE.out]
        cases hm : mayM ⟨k, a, b, c, d, e, er, p0, p1, p2, p3, s, t⟩
        · rfl
        · have hm := (mayM_iff _).1 hm
          exact absurd (wi_iff.2 (by unfold big62 at hm; simp only at hm; omega)) c4)
      have f4 : wi c (-4611686018427387904) (4611686018427387904) = false := by simpa using c4
      clear c4
      go_wp2_with (first | (with_reducible refine (within_any a (0) (4611686018427387904) _).mono ?_; rintro e1 w2 ⟨rfl, rfl⟩) | (with_reducible refine (within_any b (0) (4611686018427387904) _).mono ?_; rintro e1 w2 ⟨rfl, rfl⟩) | (with_reducible refine (within_any c (-4611686018427387904) (4611686018427387904) _).mono ?_; rintro e1 w2 ⟨rfl, rfl⟩))
      go_ret
      exact ⟨ret_bool HF.out.symm, HB.out⟩
    have f4 : wi c (-4611686018427387904) (4611686018427387904) = true := by simpa using c4
    clear c4
    by_cases c5 : ¬ (-1 ≤ d)
    · have HF := Lib.hid (show r = false by
        rw [← HRE.out]
        cases hm : mayM ⟨k, a, b, c, d, e, er, p0, p1, p2, p3, s, t⟩
        · rfl
        · have hm := (mayM_iff _).1 hm
          unfold big62 at hm; simp only at hm; omega)
      have f5 : decide (-1 ≤ d) = false := by simpa using c5
      clear c5
      go_wp2_with (first | (with_reducible refine (within_any a (0) (4611686018427387904) _).mono ?_; rintro e1 w2 ⟨rfl, rfl⟩) | (with_reducible refine (within_any b (0) (4611686018427387904) _).mono ?_; rintro e1 w2 ⟨rfl, rfl⟩) | (with_reducible refine (within_any c (-4611686018427387904) (4611686018427387904) _).mono ?_; rintro e1 w2 ⟨rfl, rfl⟩))
      go_ret
      exact ⟨ret_bool HF.out.symm, HB.out⟩
    have f5 : -1 ≤ d := by omega
    clear c5
    by_cases c6 : ¬ (d ≤ 31)
    · have HF := Lib.hid (show r = false by
        rw [← HRE.out]
        cases hm : mayM ⟨k, a, b, c, d, e, er, p0, p1, p2, p3, s, t⟩
        · rfl
        · have hm := (mayM_iff _).1 hm
          unfold big62 at hm; simp only at hm; omega)
      have f6 : decide (d ≤ 31) = false := by simpa using c6
      clear c6
      go_wp2_with (first | (with_reducible refine (within_any a (0) (4611686018427387904) _).mono ?_; rintro e1 w2 ⟨rfl, rfl⟩) | (with_reducible refine (within_any b (0) (4611686018427387904) _).mono ?_; rintro e1 w2 ⟨rfl, rfl⟩) | (with_reducible refine (within_any c (-4611686018427387904) (4611686018427387904) _).mono ?_; rintro e1 w2 ⟨rfl, rfl⟩))
      go_ret
      exact ⟨ret_bool HF.out.symm, HB.out⟩
    have f6 : d ≤ 31 := by omega
    clear c6
    by_cases c7 : ¬ (-1 ≤ e)
    · have HF := Lib.hid (show r = false by
        rw [← HRE.out]
        cases hm : mayM ⟨k, a, b, c, d, e, er, p0, p1, p2, p3, s, t⟩
        · rfl
        · have hm := (mayM_iff _).1 hm
          unfold big62 at hm; simp only at hm; omega)
      have f7 : decide (-1 ≤ e) = false := by simpa using c7
      clear c7
      go_wp2_with (first | (with_reducible refine (within_any a (0) (4611686018427387904) _).mono ?_; rintro e1 w2 ⟨rfl, rfl⟩) | (with_reducible refine (within_any b (0) (4611686018427387904) _).mono ?_; rintro e1 w2 ⟨rfl, rfl⟩) | (with_reducible refine (within_any c (-4611686018427387904) (4611686018427387904) _).mono ?_; rintro e1 w2 ⟨rfl, rfl⟩))
      go_ret
      exact ⟨ret_bool HF.out.symm, HB.out⟩
    have f7 : -1 ≤ e := by omega
    clear c7
    by_cases c8 : ¬ (e ≤ 3)
    · have HF := Lib.hid (show r = false by
        rw [← HRE.out]
        cases hm : mayM ⟨k, a, b, c, d, e, er, p0, p1, p2, p3, s, t⟩
        · rfl
        · have hm := (mayM_iff _).1 hm
          unfold big62 at hm; simp only at hm; omega)
      have f8 : decide (e ≤ 3) = false := by simpa using c8
      clear c8
      go_wp2_with (first | (with_reducible refine (within_any a (0) (4611686018427387904) _).mono ?_; rintro e1 w2 ⟨rfl, rfl⟩) | (with_reducible refine (within_any b (0) (4611686018427387904) _).mono ?_; rintro e1 w2 ⟨rfl, rfl⟩) | (with_reducible refine (within_any c (-4611686018427387904) (4611686018427387904) _).mono ?_; rintro e1 w2 ⟨rfl, rfl⟩))
      go_ret
      exact ⟨ret_bool HF.out.symm, HB.out⟩
    have f8 : e ≤ 3 := by omega
    clear c8
    by_cases c9 : ¬ (0 ≤ er)
    · have HF := Lib.hid (show r = false by
        rw [← HRE.out]
        cases hm : mayM ⟨k, a, b, c, d, e, er, p0, p1, p2, p3, s, t⟩
        · rfl
        · have hm := (mayM_iff _).1 hm
          unfold big62 at hm; simp only at hm; omega)
      have f9 : decide (0 ≤ er) = false := by simpa using c9
      clear c9
      go_wp2_with (first | (with_reducible refine (within_any a (0) (4611686018427387904) _).mono ?_; rintro e1 w2 ⟨rfl, rfl⟩) | (with_reducible refine (within_any b (0) (4611686018427387904) _).mono ?_; rintro e1 w2 ⟨rfl, rfl⟩) | (with_reducible refine (within_any c (-4611686018427387904) (4611686018427387904) _).mono ?_; rintro e1 w2 ⟨rfl, rfl⟩))
      go_ret
      exact ⟨ret_bool HF.out.symm, HB.out⟩
    have f9 : 0 ≤ er := by omega
    clear c9
    by_cases c10 : ¬ (er ≤ 31)
    · have HF := Lib.hid (show r = false by
        rw [← HRE.out]
        cases hm : mayM ⟨k, a, b, c, d, e, er, p0, p1, p2, p3, s, t⟩
        · rfl
        · have hm := (mayM_iff _).1 hm
          unfold big62 at hm; simp only at hm; omega)
      have f10 : decide (er ≤ 31) = false := by simpa using c10
      clear c10
      go_wp2_with (first | (with_reducible refine (within_any a (0) (4611686018427387904) _).mono ?_; rintro e1 w2 ⟨rfl, rfl⟩) | (with_reducible refine (within_any b (0) (4611686018427387904) _).mono ?_; rintro e1 w2 ⟨rfl, rfl⟩) | (with_reducible refine (within_any c (-4611686018427387904) (4611686018427387904) _).mono ?_; rintro e1 w2 ⟨rfl, rfl⟩))
      go_ret
      exact ⟨ret_bool HF.out.symm, HB.out⟩
    have f10 : er ≤ 31 := by omega
    clear c10
    by_cases c11 : ¬ ((s.size : Int) ≤ 40)
    · have HF := Lib.hid (show r = false by
        rw [← HRE.out]
        cases hm : mayM ⟨k, a, b, c, d, e, er, p0, p1, p2, p3, s, t⟩
        · rfl
        · have hm := (mayM_iff _).1 hm
          unfold big62 at hm; simp only at hm; omega)
      have f11 : decide ((s.size : Int) ≤ 40) = false := by simpa using c11
      clear c11
      go_wp2_with (first | (with_reducible refine (within_any a (0) (4611686018427387904) _).mono ?_; rintro e1 w2 ⟨rfl, rfl⟩) | (with_reducible refine (within_any b (0) (4611686018427387904) _).mono ?_; rintro e1 w2 ⟨rfl, rfl⟩) | (with_reducible refine (within_any c (-4611686018427387904) (4611686018427387904) _).mono ?_; rintro e1 w2 ⟨rfl, rfl⟩))
      go_ret
      exact ⟨ret_bool HF.out.symm, HB.out⟩
    have f11 : (s.size : Int) ≤ 40 := by omega
    clear c11
    by_cases c12 : ¬ ((t.size : Int) ≤ 10)
    · have HF := Lib.hid (show r = false by
        rw [← HRE.out]
        cases hm : mayM ⟨k, a, b, c, d, e, er, p0, p1, p2, p3, s, t⟩
        · rfl
        · have hm := (mayM_iff _).1 hm
          unfold big62 at hm; simp only at hm; omega)
      have f12 : decide ((t.size : Int) ≤ 10) = false := by simpa using c12
      clear c12
      go_wp2_with (first | (with_reducible refine (within_any a (0) (4611686018427387904) _).mono ?_; rintro e1 w2 ⟨rfl, rfl⟩) | (with_reducible refine (within_any b (0) (4611686018427387904) _).mono ?_; rintro e1 w2 ⟨rfl, rfl⟩) | (with_reducible refine (within_any c (-4611686018427387904) (4611686018427387904) _).mono ?_; rintro e1 w2 ⟨rfl, rfl⟩))
      go_ret
      exact ⟨ret_bool HF.out.symm, HB.out⟩
    have f12 : (t.size : Int) ≤ 10 := by omega
    clear c12
    have HF := Lib.hid (show r = true by
      rw [← HRE.out, mayM_iff]
      have h1 := wi_iff.1 f2; have h2 := wi_iff.1 f3; have h3 := wi_iff.1 f4
      have g0 := wi_iff.1 HP.out.1; have g1 := wi_iff.1 HP.out.2.1; have g2 := wi_iff.1 HP.out.2.2.1; have g3 := wi_iff.1 HP.out.2.2.2
      unfold big62 at *
      simp only
      refine ⟨g0, g1, g2, g3, ?_, ?_, ?_, h1, h2, h3, ?_, ?_, ?_⟩ <;> omega)
    go_wp2_with (first | (with_reducible refine (within_any a (0) (4611686018427387904) _).mono ?_; rintro e1 w2 ⟨rfl, rfl⟩) | (with_reducible refine (within_any b (0) (4611686018427387904) _).mono ?_; rintro e1 w2 ⟨rfl, rfl⟩) | (with_reducible refine (within_any c (-4611686018427387904) (4611686018427387904) _).mono ?_; rintro e1 w2 ⟨rfl, rfl⟩))
    go_ret
    exact ⟨ret_bool HF.out.symm, HB.out⟩
  · cases hv : wi p0 0 big62
    · have HF := Lib.hid (show r = false by
        rw [← HRE.out]
        unfold mayM
        simp [hv])
      go_wp2_with (with_reducible refine (within_any p0 0 4611686018427387904 _).mono ?_; rintro e1 w2 ⟨rfl, rfl⟩; rw [show wi p0 0 4611686018427387904 = false from hv])
      go_ret
      exact ⟨ret_bool HF.out.symm, HB.out⟩
    · have HV := Lib.hid hv
      go_wp2_with (with_reducible refine (within_any p0 0 4611686018427387904 _).mono ?_; rintro e1 w2 ⟨rfl, rfl⟩; rw [show wi p0 0 4611686018427387904 = true from hv])
      clear hv
      go_roundg (4 - (0 + 1))
      case measure => omega
      case rel => exact ⟨0 + 1, rfl, by omega, rfl, rfl, fun h => HV.out, fun h => (by omega), fun h => (by omega), fun h => (by omega)⟩
  · cases hv : wi p1 0 big62
    · have HF := Lib.hid (show r = false by
        rw [← HRE.out]
        unfold mayM
        simp [hv])
      go_wp2_with (with_reducible refine (within_any p1 0 4611686018427387904 _).mono ?_; rintro e1 w2 ⟨rfl, rfl⟩; rw [show wi p1 0 4611686018427387904 = false from hv])
      go_ret
      exact ⟨ret_bool HF.out.symm, HB.out⟩
    · have HV := Lib.hid hv
      go_wp2_with (with_reducible refine (within_any p1 0 4611686018427387904 _).mono ?_; rintro e1 w2 ⟨rfl, rfl⟩; rw [show wi p1 0 4611686018427387904 = true from hv])
      clear hv
      go_roundg (4 - (1 + 1))
      case measure => omega
      case rel => exact ⟨1 + 1, rfl, by omega, rfl, rfl, fun h => H0.out (by omega), fun h => HV.out, fun h => (by omega), fun h => (by omega)⟩
  · cases hv : wi p2 0 big62
    · have HF := Lib.hid (show r = false by
        rw [← HRE.out]
        unfold mayM
        simp [hv])
      go_wp2_with (with_reducible refine (within_any p2 0 4611686018427387904 _).mono ?_; rintro e1 w2 ⟨rfl, rfl⟩; rw [show wi p2 0 4611686018427387904 = false from hv])
      go_ret
      exact ⟨ret_bool HF.out.symm, HB.out⟩
    · have HV := Lib.hid hv
      go_wp2_with (with_reducible refine (within_any p2 0 4611686018427387904 _).mono ?_; rintro e1 w2 ⟨rfl, rfl⟩; rw [show wi p2 0 4611686018427387904 = true from hv])
      clear hv
      go_roundg (4 - (2 + 1))
      case measure => omega
      case rel => exact ⟨2 + 1, rfl, by omega, rfl, rfl, fun h => H0.out (by omega), fun h => H1.out (by omega), fun h => HV.out, fun h => (by omega)⟩
  · cases hv : wi p3 0 big62
    · have HF := Lib.hid (show r = false by
        rw [← HRE.out]
        unfold mayM
        simp [hv])
      go_wp2_with (with_reducible refine (within_any p3 0 4611686018427387904 _).mono ?_; rintro e1 w2 ⟨rfl, rfl⟩; rw [show wi p3 0 4611686018427387904 = false from hv])
      go_ret
      exact ⟨ret_bool HF.out.symm, HB.out⟩
    · have HV := Lib.hid hv
      go_wp2_with (with_reducible refine (within_any p3 0 4611686018427387904 _).mono ?_; rintro e1 w2 ⟨rfl, rfl⟩; rw [show wi p3 0 4611686018427387904 = true from hv])
      clear hv
      go_roundg (4 - (3 + 1))
      case measure => omega
      case rel => exact ⟨3 + 1, rfl, by omega, rfl, rfl, fun h => H0.out (by omega), fun h => H1.out (by omega), fun h => H2.out (by omega), fun h => HV.out⟩
end Go.Proofs.Ytodjmeodcmbdoaa
