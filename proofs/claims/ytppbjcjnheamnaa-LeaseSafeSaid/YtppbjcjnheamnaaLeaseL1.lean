/- The walks of the laws LeaseWaits, LeaseAdds: each returns true. Conditions: the arguments fit int64. -/
import Derived.Test.YtppbjcjnheamnaaLeaseA
set_option linter.unusedVariables false
set_option linter.unusedSimpArgs false
namespace Go.Proofs.Ytppbjcjnheamnaa
open Go.RowKit

theorem not_ok {n d : Int} (h : ¬ waitOk n d = true) : n < 0 ∨ 1099511627776 < n ∨ d < 0 ∨ 1000 ≤ d := by
  rw [waitOk_iff] at h; omega

theorem waits_walk (n m d f : Int) (w : World) (_bn : -9223372036854775808 ≤ n ∧ n ≤ 9223372036854775807) (_bm : -9223372036854775808 ≤ m ∧ m ≤ 9223372036854775807) (_bd : -9223372036854775808 ≤ d ∧ d ≤ 9223372036854775807) (_bf : -9223372036854775808 ≤ f ∧ f ≤ 9223372036854775807) : Calls Try.prog 4 #[.int .i64 n, .int .i64 m, .int .i64 d, .int .i64 f] w fun e w' => e = .returned (.bool true) ∧ Below w.heap.size w w' := by
  by_cases h1 : waitOk n d = true
  · obtain ⟨n0, n1, d0, d1⟩ := waitOk_iff.1 h1
    clear h1
    by_cases h2 : waitOk m f = true
    · obtain ⟨m0, m1, f0, f1⟩ := waitOk_iff.1 h2
      clear h2
      have HZ := Lib.hid (fun h : d = 0 => h ▸ waitV_zero n : d = 0 → waitV n d = n + 1)
      have HM := Lib.hid (fun (h : n ≤ m) (h' : d ≤ f) => waitV_mono n0 d0 f1 h h')
      have ha0 := waitV_ge n0 d0 d1
      have WA := Lib.hid (fun w => wait_ok n d w n0 n1 d0 d1)
      have WB := Lib.hid (fun w => wait_ok m f w m0 m1 f0 f1)
      generalize waitV n d = a at *
      generalize waitV m f = b at *
      have g1 : decide (a ≤ n) = false := by simp; omega
      go_enter Try.func4, Try.ntmps4
      go_wp2_with (first
        | (go_at_call 9; refine (awake_any _).mono ?_; rintro e w1 ⟨rfl, hB1⟩)
        | (go_at_call 11; (with_reducible refine (WA.out _).mono ?_); rintro e w' ⟨rfl, rfl⟩)
        | (go_at_call 11; (with_reducible refine (WB.out _).mono ?_); rintro e w' ⟨rfl, rfl⟩))
      all_goals
        have hz := HZ.out
        have hm := HM.out
        first
          | (exfalso; rename_i hh; simp at hh; omega)
          | (go_ret
             refine ⟨ret_bool ?_, hB1⟩
             first | rfl | (simp; omega))
    · have b2 := not_ok h2
      have WA := Lib.hid (fun w => wait_ok n d w n0 n1 d0 d1)
      have WB := Lib.hid (fun w => wait_bad m f w b2)
      generalize waitV n d = a at *
      go_enter Try.func4, Try.ntmps4
      go_wp2_with (first
        | (go_at_call 9; refine (awake_any _).mono ?_; rintro e w1 ⟨rfl, hB1⟩)
        | (go_at_call 11; (with_reducible refine (WA.out _).mono ?_); rintro e w' ⟨rfl, rfl⟩)
        | (go_at_call 11; (with_reducible refine (WB.out _).mono ?_); rintro e w' ⟨rfl, rfl⟩))
      go_ret
      exact ⟨rfl, hB1⟩
  · have b1 := not_ok h1
    have WA := Lib.hid (fun w => wait_bad n d w b1)
    have WB := Lib.hid (fun w => wait_any m f w)
    generalize waitR m f = b at *
    generalize waitE m f = g at *
    go_enter Try.func4, Try.ntmps4
    go_wp2_with (first
        | (go_at_call 9; refine (awake_any _).mono ?_; rintro e w1 ⟨rfl, hB1⟩)
        | (go_at_call 11; (with_reducible refine (WA.out _).mono ?_); rintro e w' ⟨rfl, rfl⟩)
        | (go_at_call 11; (with_reducible refine (WB.out _).mono ?_); rintro e w' ⟨rfl, rfl⟩))
    all_goals
      go_ret
      exact ⟨rfl, hB1⟩

theorem adds_walk (n m d : Int) (w : World) (bn : -9223372036854775808 ≤ n ∧ n ≤ 9223372036854775807) (bm : -9223372036854775808 ≤ m ∧ m ≤ 9223372036854775807) (_bd : -9223372036854775808 ≤ d ∧ d ≤ 9223372036854775807) : Calls Try.prog 7 #[.int .i64 n, .int .i64 m, .int .i64 d] w fun e w' => e = .returned (.bool true) ∧ Below w.heap.size w w' := by
  by_cases h1 : waitOk n d = true
  · obtain ⟨n0, n1, d0, d1⟩ := waitOk_iff.1 h1
    clear h1
    by_cases h2 : waitOk m d = true
    · obtain ⟨m0, m1, _, _⟩ := waitOk_iff.1 h2
      clear h2
      have WA := Lib.hid (fun w => wait_ok n d w n0 n1 d0 d1)
      have WB := Lib.hid (fun w => wait_ok m d w m0 m1 d0 d1)
      have ha := waitV_ge n0 d0 d1
      have hb := waitV_ge m0 d0 d1
      have ha' := waitV_le n0 n1 d0 d1
      have hb' := waitV_le m0 m1 d0 d1
      by_cases h3 : n + m ≤ 1099511627776
      · have WC := Lib.hid (fun w => wait_ok (n + m) d w (by omega) h3 d0 d1)
        have HC := Lib.hid (waitV_adds (n := n) (m := m) d0 d1)
        generalize waitV n d = a at *
        generalize waitV m d = b at *
        generalize waitV (n + m) d = c at *
        have gc := HC.out.1
        have gc' := HC.out.2
        have g1 : decide (c ≤ a + b) = true := by simpa using gc
        go_enter Try.func7, Try.ntmps7
        go_wp2_with (first
          | (go_at_call 9; refine (awake_any _).mono ?_; rintro e w1 ⟨rfl, hB1⟩)
          | (go_at_call 11; (with_reducible refine (WA.out _).mono ?_); rintro e w' ⟨rfl, rfl⟩)
          | (go_at_call 11; (with_reducible refine (WB.out _).mono ?_); rintro e w' ⟨rfl, rfl⟩)
          | (go_at_call 11; (with_reducible refine (WC.out _).mono ?_); rintro e w' ⟨rfl, rfl⟩))
        go_ret
        exact ⟨ret_bool (by first | rfl | (simp; done) | (simp; omega)), hB1⟩
      · generalize waitV n d = a at *
        generalize waitV m d = b at *
        have g1 : decide (1099511627776 < n + m) = true := by simp; omega
        go_enter Try.func7, Try.ntmps7
        go_wp2_with (first
        | (go_at_call 9; refine (awake_any _).mono ?_; rintro e w1 ⟨rfl, hB1⟩)
        | (go_at_call 11; (with_reducible refine (WA.out _).mono ?_); rintro e w' ⟨rfl, rfl⟩)
        | (go_at_call 11; (with_reducible refine (WB.out _).mono ?_); rintro e w' ⟨rfl, rfl⟩))
        go_ret
        exact ⟨rfl, hB1⟩
    · have b2 := not_ok h2
      have WA := Lib.hid (fun w => wait_ok n d w n0 n1 d0 d1)
      have WB := Lib.hid (fun w => wait_bad m d w b2)
      generalize waitV n d = a at *
      go_enter Try.func7, Try.ntmps7
      go_wp2_with (first
        | (go_at_call 9; refine (awake_any _).mono ?_; rintro e w1 ⟨rfl, hB1⟩)
        | (go_at_call 11; (with_reducible refine (WA.out _).mono ?_); rintro e w' ⟨rfl, rfl⟩)
        | (go_at_call 11; (with_reducible refine (WB.out _).mono ?_); rintro e w' ⟨rfl, rfl⟩))
      go_ret
      exact ⟨rfl, hB1⟩
  · have b1 := not_ok h1
    have WA := Lib.hid (fun w => wait_bad n d w b1)
    have WB := Lib.hid (fun w => wait_any m d w)
    generalize waitR m d = b at *
    generalize waitE m d = g at *
    go_enter Try.func7, Try.ntmps7
    go_wp2_with (first
        | (go_at_call 9; refine (awake_any _).mono ?_; rintro e w1 ⟨rfl, hB1⟩)
        | (go_at_call 11; (with_reducible refine (WA.out _).mono ?_); rintro e w' ⟨rfl, rfl⟩)
        | (go_at_call 11; (with_reducible refine (WB.out _).mono ?_); rintro e w' ⟨rfl, rfl⟩))
    go_ret
    exact ⟨rfl, hB1⟩
end Go.Proofs.Ytppbjcjnheamnaa
