/- The walks of mirror.Next, of the document's Next, and of awake. Conditions: numbers fit int64. -/
import Derived.Test.YtgmehcefmoleoaaMirW
set_option linter.unusedVariables false
set_option linter.unusedSimpArgs false
namespace Go.Proofs.Ytgmehcefmoleoaa
open Go.RowKit

theorem next_any (le ls e s : Int) (w : World) (hle : -9223372036854775808 ≤ le ∧ le ≤ 9223372036854775807) (hls : -9223372036854775808 ≤ ls ∧ ls ≤ 9223372036854775807) (he : -9223372036854775808 ≤ e ∧ e ≤ 9223372036854775807) (hs : -9223372036854775808 ≤ s ∧ s ≤ 9223372036854775807) :
    Calls Try.prog 22 #[.agg #[.int .i64 le, .int .i64 ls], .int .i64 e, .int .i64 s] w fun r w' => r = .returned (.int .i64 (nextM le ls e s)) ∧ Below w.heap.size w w' := by
  by_cases h1 : le < e
  · by_cases h2 : s < 1
    · go_enter Try.func22, Try.ntmps22
      go_wp2
      all_goals
        go_ret
        refine ⟨ret_int ?_, (Below.refl _ _).alloc (Nat.le_refl _) _⟩
        unfold nextM
        try simp only [beq_iff_eq, beq_eq_false_iff_ne, ne_eq] at *
        (repeat' split) <;> omega
    · go_enter Try.func22, Try.ntmps22
      go_wp2
      all_goals
        go_ret
        refine ⟨ret_int ?_, (Below.refl _ _).alloc (Nat.le_refl _) _⟩
        unfold nextM
        try simp only [beq_iff_eq, beq_eq_false_iff_ne, ne_eq] at *
        (repeat' split) <;> omega
  · by_cases h2 : s ≤ ls
    · go_enter Try.func22, Try.ntmps22
      go_wp2
      all_goals
        go_ret
        refine ⟨ret_int ?_, (Below.refl _ _).alloc (Nat.le_refl _) _⟩
        unfold nextM
        try simp only [beq_iff_eq, beq_eq_false_iff_ne, ne_eq] at *
        (repeat' split) <;> omega
    · have h3 : -9223372036854775807 ≤ s := by omega
      go_enter Try.func22, Try.ntmps22
      go_wp2
      all_goals
        go_ret
        refine ⟨ret_int ?_, (Below.refl _ _).alloc (Nat.le_refl _) _⟩
        unfold nextM
        try simp only [beq_iff_eq, beq_eq_false_iff_ne, ne_eq] at *
        (repeat' split) <;> omega

theorem wrap_one {a b : Int} (ha : -9223372036854775808 ≤ a ∧ a ≤ 9223372036854775807) (hb : -9223372036854775808 ≤ b ∧ b ≤ 9223372036854775807) (h : b < a) : wrap64 (a - b) = 1 ↔ a - 1 = b := by
  unfold wrap64
  omega
theorem rnext_any (le ls e s : Int) (w : World) (hle : -9223372036854775808 ≤ le ∧ le ≤ 9223372036854775807) (hls : -9223372036854775808 ≤ ls ∧ ls ≤ 9223372036854775807) (he : -9223372036854775808 ≤ e ∧ e ≤ 9223372036854775807) (hs : -9223372036854775808 ≤ s ∧ s ≤ 9223372036854775807) :
    Calls Try.prog 23 #[.agg #[.int .i64 le, .int .i64 ls], .int .i64 e, .int .i64 s] w fun r w' => r = .returned (.int .i64 (nextM le ls e s)) ∧ Below w.heap.size w w' := by
  rcases Int.lt_trichotomy e le with h | h | h
  · have k1 : (e == le) = false := by simp; omega
    have k2 : decide (le < e) = false := by simp; omega
    go_enter Try.func23, Try.ntmps23
    go_wp2
    all_goals
      go_ret
      refine ⟨ret_int ?_, (Below.refl _ _).alloc (Nat.le_refl _) _⟩
      unfold nextM
      try simp only [beq_iff_eq, beq_eq_false_iff_ne, ne_eq] at *
      (repeat' split) <;> omega
  · subst h
    have k2 : decide (e < e) = false := by simp
    by_cases h3 : s ≤ ls
    · have k3 : decide (s ≤ ls) = true := by simpa using h3
      go_enter Try.func23, Try.ntmps23
      go_wp2
      go_ret
      refine ⟨ret_int ?_, (Below.refl _ _).alloc (Nat.le_refl _) _⟩
      unfold nextM
      (repeat' split) <;> omega
    · have k3 : decide (s ≤ ls) = false := by simpa using h3
      have hw := wrap_one hs hls (by omega)
      by_cases h4 : s - 1 = ls
      · have k4 : (wrap64 (s - ls) == 1) = true := by simpa using hw.2 h4
        clear hw
        go_enter Try.func23, Try.ntmps23
        go_wp2
        all_goals
          go_ret
          refine ⟨ret_int ?_, (Below.refl _ _).alloc (Nat.le_refl _) _⟩
          unfold nextM
          (repeat' split) <;> omega
      · have k4 : (wrap64 (s - ls) == 1) = false := by simpa using fun hh => h4 (hw.1 hh)
        clear hw
        go_enter Try.func23, Try.ntmps23
        go_wp2
        all_goals
          go_ret
          refine ⟨ret_int ?_, (Below.refl _ _).alloc (Nat.le_refl _) _⟩
          unfold nextM
          (repeat' split) <;> omega
  · have k1 : (e == le) = false := by simp; omega
    have k2 : decide (le < e) = true := by simp; omega
    go_enter Try.func23, Try.ntmps23
    go_wp2
    all_goals
      go_ret
      refine ⟨ret_int ?_, (Below.refl _ _).alloc (Nat.le_refl _) _⟩
      unfold nextM
      try simp only [beq_iff_eq, beq_eq_false_iff_ne, ne_eq] at *
      (repeat' split) <;> omega
end Go.Proofs.Ytgmehcefmoleoaa
