/- Plain facts on records' bytes. No condition. -/
import Derived.Test.YtodjmeodcmbdoaaCodJ
set_option linter.unusedVariables false
set_option linter.unusedSimpArgs false
namespace Go.Proofs.Ytodjmeodcmbdoaa
open Go.RowKit
theorem xor255 : ∀ r : Fin 256, bits .xor .u8 ((r.val : Nat) : Int) 255 = ((255 - r.val : Nat) : Int) := by decide +kernel
theorem dec_more {r : Rec} (h : mayB r = true) (hn : ∀ n ∈ r.nums, i64 n) {rest : List UInt8} (hr : rest ≠ []) : decB (encB r ++ rest) = none := by
  obtain ⟨⟨h1, h2, h3, h4⟩, h5⟩ := (mayB_iff r).1 h
  obtain ⟨hh1, hh2⟩ := head_nat h3 h4
  unfold encB decB
  simp only [List.cons_append, hh1, hh2]
  rw [if_neg (by omega)]
  unfold bodB
  rw [List.append_assoc, rdNs_enc _ r.nums hn]
  have := rdTs_enc rest r.texts h5
  simp only [this, if_neg hr]
theorem enc_ne (r : Rec) : encB r ≠ [] := by unfold encB; simp
theorem enc_bound {r : Rec} (h : mayB r = true) (hi : ∀ n ∈ r.nums, i64 n) : (encB r).length ≤ 1162 := by
  obtain ⟨⟨h1, h2, h3, h4⟩, h5⟩ := (mayB_iff r).1 h
  rw [encB_hd, List.length_append, List.length_append]
  have e1 := fm_len numB 10 r.nums (fun x hx => numB_len (hi x hx))
  have e2 := fm_len txtB 201 r.texts (fun x hx => by rw [txt_len]; have := h5 x hx; omega)
  have : (hd2 r).length = 2 := rfl
  omega
theorem dec_cut {r : Rec} (h : mayB r = true) (hi : ∀ n ∈ r.nums, i64 n) {i : Nat} (hl : i < (encB r).length) : decB ((encB r).take i) = none := by
  cases hd : decB ((encB r).take i) with
  | none => rfl
  | some q =>
    obtain ⟨m1, m2, m3⟩ := enc_dec hd
    have h1 : decB (encB r) = none := by
      rw [← List.take_append_drop i (encB r), ← m2]
      exact dec_more m1 m3 (by intro e; have := congrArg List.length e; rw [List.length_drop] at this; simp at this; omega)
    rw [dec_enc h hi] at h1
    cases h1
/-- Two records' bytes: one is not the other's beginning. -/
theorem enc_apart {r q : Rec} (h : mayB r = true) (hi : ∀ n ∈ r.nums, i64 n) (h' : mayB q = true) (hi' : ∀ n ∈ q.nums, i64 n) {m : Nat} (hm : m = min (encB r).length (encB q).length) : ((encB r).take m = (encB q).take m) ↔ r = q := by
  constructor
  · intro e
    rcases Nat.lt_trichotomy (encB r).length (encB q).length with hlt | heq | hlt
    · have h1 : (encB q).take m = encB r := by rw [← e, List.take_of_length_le (by omega)]
      have h2 := dec_cut h' hi' (i := m) (by omega)
      rw [h1, dec_enc h hi] at h2
      cases h2
    · rw [List.take_of_length_le (by omega), List.take_of_length_le (by omega)] at e
      have h1 := dec_enc h hi
      rw [e, dec_enc h' hi'] at h1
      exact (Option.some.inj h1).symm
    · have h1 : (encB r).take m = encB q := by rw [e, List.take_of_length_le (by omega)]
      have h2 := dec_cut h hi (i := m) (by omega)
      rw [h1, dec_enc h' hi'] at h2
      cases h2
  · rintro rfl; rfl
end Go.Proofs.Ytodjmeodcmbdoaa
