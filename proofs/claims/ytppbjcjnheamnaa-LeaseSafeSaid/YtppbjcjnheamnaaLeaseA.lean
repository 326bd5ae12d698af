/- The walk of awake: it returns true. No condition. -/
import Derived.Test.YtppbjcjnheamnaaLeaseW
set_option linter.unusedVariables false
set_option linter.unusedSimpArgs false
namespace Go.Proofs.Ytppbjcjnheamnaa
open Go.RowKit

theorem wait_13 (w : World) : Calls Try.prog 11 #[.int .i64 10, .int .i64 100] w fun e w' => e = .returned (.tuple #[.int .i64 13, .int .i64 0]) ∧ w = w' := by
  have := wait_ok 10 100 w (by decide) (by decide) (by decide) (by decide)
  rwa [show waitV 10 100 = 13 by decide] at this
theorem wait_1000 (w : World) : Calls Try.prog 11 #[.int .i64 10, .int .i64 1000] w fun e w' => e = .returned (.tuple #[.int .i64 0, .int .i64 1]) ∧ w = w' :=
  wait_bad 10 1000 w (by decide)

theorem tog_yes (W : World) (b : Nat) (hb : W.heap.size = b) :
    Calls Try.prog 12 #[.slice (some ⟨b, 0, none⟩) 3 3, .int .i64 0] (W.alloc (.cells #[.bool true, .bool false, .bool true] 4)) fun e w' => e = .returned (.bool true) ∧ Below W.heap.size W w' := by
  have := together_in _ 3 3 0 [true, false, true] _ rfl (by decide) (Rd.lit hb #[.bool true, .bool false, .bool true] 4) (by decide) (by decide)
  rw [show (ahead 0 true [true, false, true] 0 && ahead 0 false [true, false, true] 0) = true by decide] at this
  exact this.mono fun e w' ⟨he, hB⟩ => ⟨he, ((Below.refl _ W).alloc (Nat.le_refl _) _).trans (hB.mono (by simp))⟩
theorem tog_noes (W : World) (b : Nat) (hb : W.heap.size = b) :
    Calls Try.prog 12 #[.slice (some ⟨b, 0, none⟩) 3 3, .int .i64 0] (W.alloc (.cells #[.bool true, .bool true, .bool true] 4)) fun e w' => e = .returned (.bool false) ∧ Below W.heap.size W w' := by
  have := together_in _ 3 3 0 [true, true, true] _ rfl (by decide) (Rd.lit hb #[.bool true, .bool true, .bool true] 4) (by decide) (by decide)
  rw [show (ahead 0 true [true, true, true] 0 && ahead 0 false [true, true, true] 0) = false by decide] at this
  exact this.mono fun e w' ⟨he, hB⟩ => ⟨he, ((Below.refl _ W).alloc (Nat.le_refl _) _).trans (hB.mono (by simp))⟩
theorem awake_any (w : World) : Calls Try.prog 9 #[] w fun e w' => e = .returned (.bool true) ∧ Below w.heap.size w w' := by
  go_enter Try.func9, Try.ntmps9
  go_wp2_with (first
    | (go_at_call 11; (with_reducible refine (wait_13 _).mono ?_); rintro e w' ⟨rfl, rfl⟩)
    | (go_at_call 11; (with_reducible refine (wait_1000 _).mono ?_); rintro e w' ⟨rfl, rfl⟩)
    | (go_at_call 15; refine (set_any _ _ 0 _ (by simp [go_sem]) (by simp [go_sem])).mono ?_; rintro e w' ⟨rfl, rfl⟩; simp only [show max (2 : Int) 0 = 2 from rfl])
    | (go_at_call 16; refine (tick_any _ 2 _ (by simp [go_sem]) (by simp [go_sem]) (by decide) (by decide)).mono ?_; rintro e w' ⟨rfl, rfl⟩; simp only [show max (2 - 1 : Int) 0 = 1 from rfl])
    | (go_at_call 14; refine (left_any _ 1 _ (by simp [go_sem])).mono ?_; rintro e w' ⟨rfl, rfl⟩)
    | (go_at_call 13; refine (on_any _ 1 _ (by simp [go_sem])).mono ?_; rintro e w' ⟨rfl, rfl⟩; simp only [show decide ((0 : Int) < 1) = true from rfl])
    | (go_at_call 12; (with_reducible refine (tog_yes _ _ (by simp)).mono ?_); rintro e w1 ⟨rfl, hB1⟩)
    | (go_at_call 12; (with_reducible refine (tog_noes _ _ (by simp)).mono ?_); rintro e w2 ⟨rfl, hB2⟩))
  go_ret
  refine ⟨rfl, ((((Below.refl _ _).alloc (Nat.le_refl _) _).trans (hB1.mono (by simp))).trans (hB2.mono ?_))⟩
  have := hB1.size
  simp at this
  omega
end Go.Proofs.Ytppbjcjnheamnaa
