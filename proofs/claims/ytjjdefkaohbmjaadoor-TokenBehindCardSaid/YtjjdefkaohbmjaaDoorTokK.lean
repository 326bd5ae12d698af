/- The plain laws of package token. No condition but the lengths that the laws name. -/
import Derived.Test.YtjjdefkaohbmjaaDoorTokU
set_option linter.unusedVariables false
set_option linter.unusedSimpArgs false
namespace Go.Proofs.YtjjdefkaohbmjaaDoor
open Go.Lib
theorem head_low {x : UInt8} {l : Bs} {k : Nat} (hk : k < 128) (h : ru (x :: l) ≠ k) : x.toNat ≠ k := fun h2 => h ((ru_eq_low hk).2 h2)
theorem inPl_spec {r : Nat} (h : inPl r = true) : r ≠ 32 ∧ r ≠ 9 ∧ r ≠ 34 ∧ r ≠ 35 ∧ oddR r = false := by
  unfold inPl blankR at h
  simp only [Bool.and_eq_true, Bool.not_eq_true', Bool.or_eq_false_iff, decide_eq_false_iff_not, decide_eq_true_eq] at h
  exact ⟨h.1.1, h.1.2, h.2.1, h.2.2.1, h.2.2.2⟩
theorem oddR_spec {r : Nat} (h : oddR r = false) : 32 ≤ r ∧ r ≠ 127 ∧ r ≠ 65533 := by
  unfold oddR at h
  simp only [Bool.or_eq_false_iff, decide_eq_false_iff_not] at h
  omega
theorem isPl_ne {l : Bs} (h : isPl l = true) : l ≠ [] ∧ pl l = l.length := by
  unfold isPl at h
  simpa using h
/-- The first rune of a plain word. -/
theorem isPl_first {x : UInt8} {l : Bs} (h : isPl (x :: l) = true) : inPl (ru (x :: l)) = true := by
  have h1 := (isPl_ne h).2
  rw [pl_step (by simp)] at h1
  split at h1
  · assumption
  · simp at h1
theorem trimB_id {x : UInt8} {l : Bs} (h : x.toNat ≠ 32 ∧ x.toNat ≠ 9) : trimB (x :: l) = x :: l := by
  unfold trimB trimLeftS
  rw [List.dropWhile_cons]
  rw [if_neg]
  simp only [List.contains_cons, List.contains_nil, Bool.or_false, Bool.or_eq_true, beq_iff_eq]
  rintro (h1 | h1)
  · exact h.1 (by rw [h1]; rfl)
  · exact h.2 (by rw [h1]; rfl)
theorem trimB_nil : trimB [] = [] := rfl
/-- One word, alone. -/
theorem wo_last {c : Nat} {x : UInt8} {l w : Bs} (hc : c ≠ 12) (h1 : x.toNat ≠ 32 ∧ x.toNat ≠ 9) (h2 : x.toNat ≠ 35) (ho : one (x :: l) = some (w, (x :: l).length)) : wo c (x :: l) = .ok [w] := by
  have ht := trimB_id (l := l) h1
  have hnb : ¬ (trimB (x :: l) = [] ∨ (trimB (x :: l)).head? = some 35) := by
    rw [ht]
    rintro (h | h)
    · cases h
    · simp at h; exact h2 (by rw [h]; rfl)
  rw [wo_step hnb hc (by rw [ht]; exact ho) (by
    rw [ht]; unfold aft; rw [List.getElem?_eq_none (Nat.le_refl _)]), ht, List.drop_length, wo_over (.inl trimB_nil)]
  rfl
theorem one_plain {x : UInt8} {l : Bs} (h : isPl (x :: l) = true) : one (x :: l) = some (x :: l, (x :: l).length) := by
  have h1 := (isPl_ne h).2
  have h2 := inPl_spec (isPl_first h)
  unfold one
  rw [if_neg (by
    simp only [List.head?_cons, Option.some.injEq]
    intro e
    exact head_low (by decide) h2.2.2.1 (by rw [e]; rfl)), h1, if_neg (by simp), List.take_length]
theorem words_plain {l : Bs} (h : isPl l = true) (hl : l.length ≤ 400) : words l = .ok [l] := by
  cases l with
  | nil => exact absurd rfl (isPl_ne h).1
  | cons x l =>
    have h2 := inPl_spec (isPl_first h)
    unfold words
    rw [if_neg (by omega)]
    exact wo_last (by decide) ⟨head_low (by decide) h2.1, head_low (by decide) h2.2.1⟩ (head_low (by decide) h2.2.2.2.1) (one_plain h)
/-! Quoted texts are longer. -/
theorem qpiece_ge {l : Bs} (hl : l ≠ []) : wd l ≤ (qpiece l).length := by
  have h1 := wd_le hl
  unfold qpiece
  split
  · rename_i h
    rw [wd_low hl (by omega)]
    simp
  · split
    · rw [flat_len, List.length_take]; omega
    · rw [List.length_take]; omega
theorem qb_ge : ∀ (n : Nat) (l : Bs), l.length ≤ n → l.length ≤ (qb l).length
  | n, l, hn => by
    by_cases hl : l = []
    · subst hl; exact Nat.le_refl _
    · rw [qb_step hl, List.length_append]
      have h1 := qpiece_ge hl
      have h2 := drop_lt hl
      have h3 := wd_le hl
      cases n with
      | zero => have := ne_len hl; omega
      | succ n =>
        have := qb_ge n (l.drop (wd l)) (by omega)
        rw [List.length_drop] at this
        omega
theorem quote_no {l : Bs} (h : isPl l = false) : quote l = 34 :: (qb l ++ [34]) := by unfold quote; rw [h]; rfl
theorem quote_yes {l : Bs} (h : isPl l = true) : quote l = l := by unfold quote; rw [if_pos h]
theorem quote_len {l : Bs} (h : isPl l = false) : l.length + 2 ≤ (quote l).length := by
  rw [quote_no h]
  have := qb_ge l.length l (Nat.le_refl _)
  simp; omega
theorem quote_ne {l : Bs} (h : isPl l = false) : quote l ≠ l := fun e => by
  have := quote_len h
  rw [e] at this
  omega
theorem quote_max : ∀ (n : Nat) (l : Bs), l.length ≤ n → (qb l).length ≤ 4 * l.length
  | n, l, hn => by
    by_cases hl : l = []
    · subst hl; exact Nat.le_refl _
    · rw [qb_step hl, List.length_append]
      have h1 := qpiece_len l
      have h2 := drop_lt hl
      have h3 := wd_le hl
      cases n with
      | zero => have := ne_len hl; omega
      | succ n =>
        have := quote_max n (l.drop (wd l)) (by omega)
        rw [List.length_drop] at this
        omega
theorem quote_le (l : Bs) : (quote l).length ≤ 4 * l.length + 2 := by
  cases h : isPl l with
  | true => rw [quote_yes h]; omega
  | false =>
    rw [quote_no h]
    have := quote_max l.length l (Nat.le_refl _)
    simp; omega
end Go.Proofs.YtjjdefkaohbmjaaDoor
