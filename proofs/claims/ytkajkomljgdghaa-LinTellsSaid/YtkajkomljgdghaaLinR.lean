/- The reference of ch. 18: Must, Counts. -/
import Derived.Test.YtkajkomljgdghaaLinL5
set_option linter.unusedVariables false
set_option linter.unusedSimpArgs false
namespace Go.Proofs.Ytkajkomljgdghaa
open Go.RowKit
abbrev tRop : TypeId := 51
def LOp.must (o : LOp) : Bool := o.sure && decide (1 ≤ o.op) && decide (o.op ≤ 3)
theorem LOp.must_sure {o : LOp} (h : o.never = false) : o.must = o.sure := by
  have : 1 ≤ o.op ∧ o.op ≤ 3 := by
    unfold LOp.never at h
    split at h
    · omega
    · split at h
      · omega
      · cases h
  unfold LOp.must
  simp [this.1, this.2]
set_option maxRecDepth 100000 in
theorem must_any (o : LOp) (w : World) : Calls Try.prog 24 #[.agg o.cs] w fun e w' => e = .returned (.bool o.must) ∧ Below w.heap.size w w' := by
  obtain ⟨xo, xb, xd, xf, xt, xk, xe, xr⟩ := o
  have HB := Lib.hid ((Below.refl w.heap.size w).alloc (Nat.le_refl _) (.cells #[.int .i64 xo, .int .i64 xb, .string xd, .int .i64 xf, .int .i64 xt, .bool xk, .int .i64 xe, .string xr] tRop))
  unfold LOp.cs LOp.must LOp.sure
  by_cases he : xe = 0
  · subst he
    cases xk
    · go_enter Try.func24, Try.ntmps24
      go_wp2
      go_ret
      exact ⟨rfl, HB.out⟩
    · by_cases h1 : 1 ≤ xo
      · have f1 : decide (1 ≤ xo) = true := decide_eq_true h1
        by_cases h3 : xo ≤ 3
        · have f3 : decide (xo ≤ 3) = true := decide_eq_true h3
          go_enter Try.func24, Try.ntmps24
          go_wp2
          go_ret
          exact ⟨by simp [h1, h3], HB.out⟩
        · have f3 : decide (xo ≤ 3) = false := decide_eq_false h3
          go_enter Try.func24, Try.ntmps24
          go_wp2
          go_ret
          exact ⟨by simp [h1, h3], HB.out⟩
      · have f1 : decide (1 ≤ xo) = false := decide_eq_false h1
        go_enter Try.func24, Try.ntmps24
        go_wp2
        go_ret
        exact ⟨by simp [h1], HB.out⟩
  · have f0 : (xe == 0) = false := by simpa using he
    cases xk
    · go_enter Try.func24, Try.ntmps24
      go_wp2
      go_ret
      exact ⟨rfl, HB.out⟩
    · go_enter Try.func24, Try.ntmps24
      go_wp2
      go_ret
      exact ⟨by simp [he], HB.out⟩
set_option maxRecDepth 100000 in
theorem counts_any (o : LOp) (w : World) : Calls Try.prog 19 #[.agg o.cs] w fun e w' => e = .returned (.bool (!o.never)) ∧ Below w.heap.size w w' := by
  obtain ⟨xo, xb, xd, xf, xt, xk, xe, xr⟩ := o
  have HB := Lib.hid ((Below.refl w.heap.size w).alloc (Nat.le_refl _) (.cells #[.int .i64 xo, .int .i64 xb, .string xd, .int .i64 xf, .int .i64 xt, .bool xk, .int .i64 xe, .string xr] tRop))
  by_cases h2 : xo = 2 ∨ xo = 3
  · have hn : (!(LOp.mk xo xb xd xf xt xk xe xr).never) = !(xk && refused xe) := by unfold LOp.never; rw [if_neg (show ¬ xo = 1 by omega), if_pos h2]
    rw [hn]
    clear hn
    unfold LOp.cs
    have f2 : (xo != 2) = false ∨ (xo != 2) = true ∧ (xo != 3) = false := by rcases h2 with h | h <;> subst h <;> simp
    clear h2
    cases xk
    · rcases f2 with f2 | ⟨f2, f3⟩
      all_goals (
        go_enter Try.func19, Try.ntmps19
        go_wp2_with fail
        go_ret
        exact ⟨rfl, HB.out⟩)
    · by_cases e0 : xe = 1
      · subst e0
        rcases f2 with f2 | ⟨f2, f3⟩
        all_goals (
          go_enter Try.func19, Try.ntmps19
          go_wp2_with fail
          go_ret
          exact ⟨rfl, HB.out⟩)
      by_cases e1 : xe = 2
      · subst e1
        rcases f2 with f2 | ⟨f2, f3⟩
        all_goals (
          go_enter Try.func19, Try.ntmps19
          go_wp2_with fail
          go_ret
          exact ⟨rfl, HB.out⟩)
      by_cases e2 : xe = 3
      · subst e2
        rcases f2 with f2 | ⟨f2, f3⟩
        all_goals (
          go_enter Try.func19, Try.ntmps19
          go_wp2_with fail
          go_ret
          exact ⟨rfl, HB.out⟩)
      by_cases e3 : xe = 4
      · subst e3
        rcases f2 with f2 | ⟨f2, f3⟩
        all_goals (
          go_enter Try.func19, Try.ntmps19
          go_wp2_with fail
          go_ret
          exact ⟨rfl, HB.out⟩)
      by_cases e4 : xe = 20
      · subst e4
        rcases f2 with f2 | ⟨f2, f3⟩
        all_goals (
          go_enter Try.func19, Try.ntmps19
          go_wp2_with fail
          go_ret
          exact ⟨rfl, HB.out⟩)
      have hr : refused xe = false := decide_eq_false (by rintro (h | h | h | h | h) <;> contradiction)
      rw [hr]
      have g0 : (xe != 1) = true := by simpa using e0
      have g1 : (xe != 2) = true := by simpa using e1
      have g2 : (xe != 3) = true := by simpa using e2
      have g3 : (xe != 4) = true := by simpa using e3
      have g4 : (xe != 20) = true := by simpa using e4
      clear hr e0 e1 e2 e3 e4
      rcases f2 with f2 | ⟨f2, f3⟩
      all_goals (
        go_enter Try.func19, Try.ntmps19
        go_wp2_with fail
        go_ret
        exact ⟨rfl, HB.out⟩)
  · have f2 : (xo != 2) = true := by simp; omega
    have f3 : (xo != 3) = true := by simp; omega
    by_cases h1 : xo = 1
    · subst h1
      obtain ⟨s, hs⟩ : ∃ s, (LOp.mk 1 xb xd xf xt xk xe xr).must = s := ⟨_, rfl⟩
      have hn : (!(LOp.mk 1 xb xd xf xt xk xe xr).never) = s := by
        rw [← hs]
        unfold LOp.never LOp.must LOp.sure
        simp
      rw [hn]
      have HS := Lib.hid hs
      clear hn hs f2 f3 h2
      unfold LOp.cs
      go_enter Try.func19, Try.ntmps19
      go_wp2_with (go_at_call 24; refine (must_any ⟨1, xb, xd, xf, xt, xk, xe, xr⟩ _).mono ?_; rw [HS.out]; rintro e w1 ⟨rfl, hB⟩; have HB1 := Lib.hid (HB.out.trans (hB.mono (by simp))); clear hB)
      go_ret
      exact ⟨rfl, HB1.out⟩
    · have f1 : (xo == 1) = false := by simpa using h1
      have hn : (!(LOp.mk xo xb xd xf xt xk xe xr).never) = false := by unfold LOp.never; rw [if_neg h1, if_neg h2]; rfl
      rw [hn]
      clear hn h1 h2
      unfold LOp.cs
      go_enter Try.func19, Try.ntmps19
      go_wp2_with fail
      go_ret
      exact ⟨rfl, HB.out⟩
end Go.Proofs.Ytkajkomljgdghaa
