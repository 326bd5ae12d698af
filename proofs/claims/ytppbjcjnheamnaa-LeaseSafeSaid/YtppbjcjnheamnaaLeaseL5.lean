/- The walk of the law LeaseSafe: it returns true. Conditions: as its arguments are read. -/
import Derived.Test.YtppbjcjnheamnaaLeaseL3
import Derived.Test.YtppbjcjnheamnaaLeaseL1
import Derived.Test.YtppbjcjnheamnaaLeaseR
set_option linter.unusedVariables false
set_option linter.unusedSimpArgs false
namespace Go.Proofs.Ytppbjcjnheamnaa
open Go.RowKit

theorem rtog_out (A : Option Addr) (n c : Nat) (d : Int) (w : World) (h : d < 0 ∨ 1000 ≤ d) :
    Calls Try.prog 10 #[.slice A n c, .int .i64 d] w fun e w' => e = .returned (.bool false) ∧ w = w' := by
  rcases h with h | h
  · have k0 : decide (d < 0) = true := by simp; omega
    go_enter Try.func10, Try.ntmps10
    go_wp2
    go_ret
    exact ⟨rfl, rfl⟩
  · have k0 : decide (d < 0) = false := by simp; omega
    have k1 : decide (999 < d) = true := by simp; omega
    go_enter Try.func10, Try.ntmps10
    go_wp2
    go_ret
    exact ⟨rfl, rfl⟩
theorem rtog_any (A : Option Addr) (n c : Nat) (d : Int) (xs : List Bool) (w : World) (hn : xs.length = n) (hn2 : n ≤ 200) (hx : Rd w A (xs.map Value.bool)) :
    Calls Try.prog 10 #[.slice A n c, .int .i64 d] w fun e w' => e = .returned (.bool (rtog xs d)) ∧ w = w' := by
  unfold rtog
  by_cases h : inD d = true
  · rw [h]
    exact rtog_in A n c d xs w hn hn2 hx (inD_iff.1 h).1 (inD_iff.1 h).2
  · rw [show inD d = false by simpa using h]
    refine rtog_out A n c d w ?_
    rw [inD_iff] at h
    omega

theorem late_false {w n a b a' b' : Int} {t : Bool} {ts : List Bool} (ha : (if t then a + 1 else a) = a') (hb : (if t then b else b + 1) = b') (h : late w n (t :: ts) a b = false) : (¬ w ≤ a' ∨ ¬ b' < n) ∧ late w n ts a' b' = false := by
  simp only [late, ha, hb, Bool.or_eq_false_iff, Bool.and_eq_false_iff, decide_eq_false_iff_not] at h
  exact h

set_option maxRecDepth 100000 in
theorem safe_walk (a0 : Option Addr) (n0 c0 : Nat) (a1 : Int) (a2 : Int) (a3 : Int) (w : World) (b0 : Sh.Is w (.slice 1 .bool) [.slice a0 n0 c0]) (b1 : 0 ≤ a1 ∧ a1 ≤ 255) (b2 : -9223372036854775808 ≤ a2 ∧ a2 ≤ 9223372036854775807) (b3 : -9223372036854775808 ≤ a3 ∧ a3 ≤ 9223372036854775807) :
    Calls Try.prog 3 #[.slice a0 n0 c0, .int .u8 a1, .int .i64 a2, .int .i64 a3] w fun e w' => e = .returned (.bool true) ∧ Below w.heap.size w w' := by
  obtain ⟨xs, hl, hc, hnc, hr⟩ := is_bools b0
  clear b0
  have HR := Lib.hid hr; clear hr
  have HL := Lib.hid hl; clear hl
  by_cases g0 : n0 ≤ 200
  · have k0 : decide ((200 : Int) < n0) = false := by simp; omega
    have R1 := Lib.hid (fun W (hb : Below w.heap.size w W) => rtog_any a0 n0 c0 a3 xs W HL.out g0 (HR.out.below hb))
    by_cases g1 : rtog xs a3 = true
    · have g2 := g1
      unfold rtog at g2
      simp only [Bool.and_eq_true] at g2
      obtain ⟨d0, d1⟩ := inD_iff.1 g2.1
      have hs := g2.2
      clear g2
      rw [g1] at R1
      by_cases g3 : waitOk a2 a3 = true
      · obtain ⟨m0, m1, _, _⟩ := waitOk_iff.1 g3
        have W1 := Lib.hid (fun W => wait_ok a2 a3 W m0 m1 d0 d1)
        have HS := Lib.hid (fun k => never_late (n := a2) d0 d1 (xs.drop k) 0 0 (scans_drop k xs hs))
        have hw := waitV_le m0 m1 d0 d1
        have hw0 := waitV_ge m0 d0 d1
        generalize waitV a2 a3 = v at *
        clear g1 hs g3
        obtain ⟨fr, rfl⟩ := Int.eq_ofNat_of_zero_le b1.1
        go_enter Try.func3, Try.ntmps3
        go_wp2_with (first
          | (go_at_call 9; refine (awake_any _).mono ?_; rintro e w1 ⟨rfl, hB1⟩)
          | (go_at_call 11; (with_reducible refine (W1.out _).mono ?_); rintro e w' ⟨rfl, rfl⟩)
          | (go_at_call 10; (with_reducible refine (R1.out _ hB1).mono ?_); rintro e w' ⟨rfl, rfl⟩))
        go_loop [11, 12, 13] (fun x y i => ∃ (k : Nat) (p q : Int), k ≤ 455 ∧ i = .int .i64 k ∧ x = .int .i64 p ∧ y = .int .i64 q ∧ 0 ≤ p ∧ p ≤ k ∧ 0 ≤ q ∧ q ≤ k ∧ Hid (late v a2 (xs.drop k) p q = false)) (fun _ _ i => n0 - (intOf i).toNat)
        case atStart => exact ⟨fr, 0, 0, by omega, rfl, rfl, rfl, by omega, by omega, by omega, by omega, HS.out fr⟩
        case round =>
          obtain ⟨k, p, q, hk, rfl, rfl, rfl, hp0, hp1, hq0, hq1, HA⟩ := hrel
          by_cases hlt : k < n0
          · have hk2 : k < xs.length := by rw [HL.out]; exact hlt
            obtain ⟨b, o, HAd, hck⟩ := (HR.out.below hB1).at_ k hk2
            have HA2 := HA.out
            rw [List.drop_eq_getElem_cons hk2] at HA2
            clear HA
            generalize xs[k] = t at *
            subst HAd
            cases t
            · obtain ⟨h1, h2⟩ := late_false (t := false) rfl rfl HA2
              simp only [Bool.false_eq_true, if_false] at h1 h2
              have H2 := Lib.hid h2; clear h2 HA2
              by_cases h3 : v ≤ p
              · have h4 : decide (q + 1 < a2) = false := by simp; omega
                clear h1
                go_wp2
                go_round
                case rel => exact ⟨k + 1, p, q + 1, by omega, by go_num, rfl, rfl, by omega, by omega, by omega, by omega, H2⟩
                case measure => simp [intOf]; omega
              · have h4 : decide (v ≤ p) = false := by simp; omega
                clear h1
                go_wp2
                go_round
                case rel => exact ⟨k + 1, p, q + 1, by omega, by go_num, rfl, rfl, by omega, by omega, by omega, by omega, H2⟩
                case measure => simp [intOf]; omega
            · obtain ⟨h1, h2⟩ := late_false (t := true) rfl rfl HA2
              simp only [if_true] at h1 h2
              have H2 := Lib.hid h2; clear h2 HA2
              by_cases h3 : v ≤ p + 1
              · have h4 : decide (q < a2) = false := by simp; omega
                clear h1
                go_wp2
                go_round
                case rel => exact ⟨k + 1, p + 1, q, by omega, by go_num, rfl, rfl, by omega, by omega, by omega, by omega, H2⟩
                case measure => simp [intOf]; omega
              · have h4 : decide (v ≤ p + 1) = false := by simp; omega
                clear h1
                go_wp2
                go_round
                case rel => exact ⟨k + 1, p + 1, q, by omega, by go_num, rfl, rfl, by omega, by omega, by omega, by omega, H2⟩
                case measure => simp [intOf]; omega
          · go_wp2
            go_ret
            exact ⟨rfl, hB1⟩
      · have W1 := Lib.hid (fun W => wait_bad a2 a3 W (not_ok g3))
        clear g1 g3 hs
        go_enter Try.func3, Try.ntmps3
        go_wp2_with (first
          | (go_at_call 9; refine (awake_any _).mono ?_; rintro e w1 ⟨rfl, hB1⟩)
          | (go_at_call 11; (with_reducible refine (W1.out _).mono ?_); rintro e w' ⟨rfl, rfl⟩)
          | (go_at_call 10; (with_reducible refine (R1.out _ hB1).mono ?_); rintro e w' ⟨rfl, rfl⟩))
        go_ret
        exact ⟨rfl, hB1⟩
    · have g2 : rtog xs a3 = false := by simpa using g1
      rw [g2] at R1
      clear g1 g2
      go_enter Try.func3, Try.ntmps3
      go_wp2_with (first
        | (go_at_call 9; refine (awake_any _).mono ?_; rintro e w1 ⟨rfl, hB1⟩)
        | (go_at_call 10; (with_reducible refine (R1.out _ hB1).mono ?_); rintro e w' ⟨rfl, rfl⟩))
      go_ret
      exact ⟨rfl, hB1⟩
  · have k0 : decide ((200 : Int) < n0) = true := by simp; omega
    go_enter Try.func3, Try.ntmps3
    go_wp2_with (first
      | (go_at_call 9; refine (awake_any _).mono ?_; rintro e w1 ⟨rfl, hB1⟩))
    go_ret
    exact ⟨rfl, hB1⟩
end Go.Proofs.Ytppbjcjnheamnaa
