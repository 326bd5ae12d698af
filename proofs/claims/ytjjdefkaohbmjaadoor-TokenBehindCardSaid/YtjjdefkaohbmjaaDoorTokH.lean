/- Quoted words are read back; words with blanks between. No condition. -/
import Derived.Test.YtjjdefkaohbmjaaDoorTokG
set_option linter.unusedVariables false
set_option linter.unusedSimpArgs false
namespace Go.Proofs.YtjjdefkaohbmjaaDoor
open Go.Lib
/-! All runes can be shown. -/
def shF : Nat → Bs → Bool
  | 0, _ => true
  | f + 1, l => if l = [] then true else !oddR (ru l) && shF f (l.drop (wd l))
def sh (l : Bs) : Bool := shF l.length l
theorem shF_eq : ∀ (f : Nat) (l : Bs), l.length ≤ f → shF f l = sh l
  | 0, l, h => by
    obtain rfl : l = [] := List.eq_nil_of_length_eq_zero (by omega)
    rfl
  | f + 1, l, h => by
    unfold sh
    by_cases hl : l = []
    · subst hl; rfl
    · obtain ⟨n, hn⟩ : ∃ n, l.length = n + 1 := ⟨l.length - 1, by have := ne_len hl; omega⟩
      rw [hn]
      have hd := drop_lt hl
      simp only [shF, if_neg hl]
      rw [shF_eq f _ (by omega), shF_eq n _ (by omega)]
theorem sh_nil : sh [] = true := rfl
theorem sh_step {l : Bs} (hl : l ≠ []) : sh l = (!oddR (ru l) && sh (l.drop (wd l))) := by
  rw [← shF_eq (l.length + 1) l (Nat.le_succ _)]
  have hd := drop_lt hl
  simp only [shF, if_neg hl]
  rw [shF_eq l.length _ (by omega)]
theorem sh_cons {x : UInt8} {l : Bs} (h : x.toNat < 128) (h2 : oddR x.toNat = false) : sh (x :: l) = sh l := by
  rw [sh_step (by simp)]
  unfold ru wd
  rw [dec_ascii l h]
  simp [h2]
theorem sh_plain : ∀ (n : Nat) (l : Bs), l.length ≤ n → pl l = l.length → sh l = true
  | n, l, hn, h => by
    by_cases hl : l = []
    · subst hl; rfl
    · have h1 := ne_len hl
      have h2 := drop_lt hl
      have h3 := wd_le hl
      rw [pl_step hl] at h
      split at h
      · rename_i hi
        rw [sh_step hl, (inPl_spec hi).2.2.2.2]
        cases n with
        | zero => omega
        | succ n => rw [sh_plain n (l.drop (wd l)) (by omega) (by rw [List.length_drop]; omega)]; rfl
      · omega
theorem sh_hexE (c : UInt8) (m : Bs) : sh (hexE c ++ m) = sh m := by
  have h : ∀ k, k < 16 → (hexL.getD k 0).toNat < 128 ∧ oddR (hexL.getD k 0).toNat = false := by decide
  have h1 := h (c.toNat / 16) (by have := UInt8.toNat_lt c; omega)
  have h2 := h (c.toNat % 16) (Nat.mod_lt _ (by decide))
  show sh (92 :: 120 :: hexL.getD (c.toNat / 16) 0 :: hexL.getD (c.toNat % 16) 0 :: m) = sh m
  rw [sh_cons (by decide) (by decide), sh_cons (by decide) (by decide), sh_cons h1.1 h1.2, sh_cons h2.1 h2.2]
theorem sh_hexes (l m : Bs) : sh (l.flatMap hexE ++ m) = sh m := by
  induction l with
  | nil => rfl
  | cons x l ih => rw [List.flatMap_cons, List.append_assoc, sh_hexE, ih]
theorem sh_piece {l : Bs} (hl : l ≠ []) (m : Bs) : sh (qpiece l ++ m) = sh m := by
  by_cases h : ru l = 34 ∨ ru l = 92
  · rw [qpiece_quote h]
    show sh (92 :: (ru l).toUInt8 :: m) = sh m
    rw [sh_cons (by decide) (by decide)]
    rcases h with h | h <;> rw [h] <;> exact sh_cons (by decide) (by decide)
  · cases ho : oddR (ru l) with
    | true => rw [qpiece_odd h ho, sh_hexes]
    | false =>
      rw [qpiece_rest h ho]
      have h3 : ru l ≠ 65533 := (oddR_spec ho).2.2
      have h4 := ru_cut hl h3 m
      have h5 := wd_le hl
      have h6 := wd_pos l
      have htl : (l.take (wd l)).length = wd l := by rw [List.length_take]; omega
      have hne : l.take (wd l) ++ m ≠ [] := by
        intro e
        have := congrArg List.length e
        rw [List.length_append, htl] at this
        simp at this
        omega
      rw [sh_step hne, h4.1, h4.2, ho]
      rw [List.drop_append_of_le_length (by rw [List.length_take]; omega), List.drop_eq_nil_of_le (by rw [List.length_take]; omega)]
      rfl
theorem sh_qb : ∀ (n : Nat) (l : Bs), l.length ≤ n → ∀ m, sh (qb l ++ m) = sh m
  | n, l, hn, m => by
    by_cases hl : l = []
    · subst hl; rfl
    · have h1 := ne_len hl
      have h2 := drop_lt hl
      rw [qb_step hl, List.append_assoc, sh_piece hl]
      cases n with
      | zero => omega
      | succ n => exact sh_qb n (l.drop (wd l)) (by omega) m
theorem sh_quote (l : Bs) : sh (quote l) = true := by
  cases h : isPl l with
  | true => rw [quote_yes h]; exact sh_plain _ l (Nat.le_refl _) (isPl_ne h).2
  | false =>
    rw [quote_no h, sh_cons (by decide) (by decide), sh_qb _ l (Nat.le_refl _)]
    rfl
theorem quote_nil_ne (l : Bs) : quote l ≠ [] := by
  cases h : isPl l with
  | true => rw [quote_yes h]; exact (isPl_ne h).1
  | false => rw [quote_no h]; simp
/-! A quoted text is read back. -/
theorem esc_two {c : UInt8} (h : c = 34 ∨ c = 92) (m : Bs) : item (92 :: c :: m) = some ([c], 2) := by
  have hr : ru (92 :: c :: m) = 92 := by unfold ru; rw [dec_ascii _ (by decide)]; rfl
  rw [item_esc hr]
  unfold esc
  show (if c = 34 ∨ c = 92 then _ else _) = _
  rw [if_pos h]
theorem hex_back : ∀ k, k < 16 → indexByte hexL (hexL.getD k 0) = (k : Int) := by decide
theorem esc_hexE (c : UInt8) (m : Bs) : item (hexE c ++ m) = some ([c], 4) := by
  have hr : ru (hexE c ++ m) = 92 := by unfold ru; show (decodeL (92 :: _)).1 = 92; rw [dec_ascii _ (by decide)]; rfl
  have h1 := hex_back (c.toNat / 16) (by have := UInt8.toNat_lt c; omega)
  have h2 := hex_back (c.toNat % 16) (Nat.mod_lt _ (by decide))
  rw [item_esc hr]
  have e2 : hx (hexE c ++ m) 2 = (c.toNat / 16 : Nat) := h1
  have e3 : hx (hexE c ++ m) 3 = (c.toNat % 16 : Nat) := h2
  unfold esc
  show (if (120 : UInt8) = 34 ∨ (120 : UInt8) = 92 then _ else if (120 : UInt8) = 120 ∧ 0 ≤ hx (hexE c ++ m) 2 ∧ 0 ≤ hx (hexE c ++ m) 3 then some ([((hx (hexE c ++ m) 2).toNat * 16 + (hx (hexE c ++ m) 3).toNat).toUInt8], 4) else none) = _
  rw [if_neg (by decide), e2, e3, if_pos ⟨rfl, by omega, by omega⟩, Int.toNat_natCast, Int.toNat_natCast, show c.toNat / 16 * 16 + c.toNat % 16 = c.toNat by omega]
  simp
theorem ru92_ne {l m : Bs} : ru (92 :: l) ≠ 34 := by unfold ru; rw [dec_ascii _ (by decide)]; decide
theorem qu_hexes : ∀ (l m : Bs) (q : Bs × Nat), qu m = some q → qu (l.flatMap hexE ++ m) = some (l ++ q.1, 4 * l.length + q.2)
  | [], m, q, h => by simpa using h
  | x :: l, m, q, h => by
    rw [List.flatMap_cons, List.append_assoc]
    have hne : hexE x ++ (l.flatMap hexE ++ m) ≠ [] := by simp [hexE]
    rw [qu_step hne (ru92_ne (m := [])) (esc_hexE x _)]
    show (qu (l.flatMap hexE ++ m)).map _ = _
    rw [qu_hexes l m q h]
    simp
    omega
theorem qu_piece {l m : Bs} {q : Bs × Nat} (hl : l ≠ []) (h : qu m = some q) : qu (qpiece l ++ m) = some (l.take (wd l) ++ q.1, (qpiece l).length + q.2) := by
  by_cases hq : ru l = 34 ∨ ru l = 92
  · rw [qpiece_quote hq]
    have hc : (ru l).toUInt8 = 34 ∨ (ru l).toUInt8 = 92 := by rcases hq with h | h <;> rw [h] <;> decide
    rw [show [92, (ru l).toUInt8] ++ m = 92 :: (ru l).toUInt8 :: m from rfl, qu_step (by simp) (ru92_ne (m := [])) (esc_two hc m)]
    show (qu m).map _ = _
    rw [h]
    have h1 : l.take (wd l) = [(ru l).toUInt8] := by
      cases l with
      | nil => exact absurd rfl hl
      | cons x l =>
        have h2 := ru_low (x := x) (l := l) (by omega)
        rw [h2.2, ← h2.1]
        simp
    rw [h1]
    rfl
  · cases ho : oddR (ru l) with
    | true =>
      rw [qpiece_odd hq ho, qu_hexes _ m q h, flat_len]
    | false =>
      rw [qpiece_rest hq ho]
      have h3 : ru l ≠ 65533 := (oddR_spec ho).2.2
      have h4 := ru_cut hl h3 m
      have h5 := wd_le hl
      have h6 := wd_pos l
      have htl : (l.take (wd l)).length = wd l := by rw [List.length_take]; omega
      have hne : l.take (wd l) ++ m ≠ [] := by
        intro e
        have := congrArg List.length e
        rw [List.length_append, htl] at this
        simp at this
        omega
      have hi : item (l.take (wd l) ++ m) = some (l.take (wd l), wd l) := by
        rw [item_plain (by rw [h4.1]; exact ho) (by rw [h4.1]; exact fun h => hq (.inr h)), h4.2, List.take_append_of_le_length (by omega), List.take_of_length_le (by omega)]
      rw [qu_step hne (by rw [h4.1]; exact fun h => hq (.inl h)) hi, List.drop_append_of_le_length (by omega), List.drop_eq_nil_of_le (by omega), List.nil_append, h, htl]
      rfl
theorem qu_qb : ∀ (n : Nat) (l : Bs), l.length ≤ n → ∀ m, qu (qb l ++ 34 :: m) = some (l, (qb l).length + 1)
  | n, l, hn, m => by
    by_cases hl : l = []
    · subst hl
      exact qu_end (by simp) (by unfold ru; show (decodeL (34 :: m)).1 = 34; rw [dec_ascii _ (by decide)]; rfl)
    · have h1 := ne_len hl
      have h2 := drop_lt hl
      have h3 := wd_le hl
      rw [qb_step hl, List.append_assoc]
      cases n with
      | zero => omega
      | succ n =>
        have ih := qu_qb n (l.drop (wd l)) (by omega) m
        rw [qu_piece hl ih, List.take_append_drop, List.length_append]
        simp only [Option.some.injEq, Prod.mk.injEq, true_and]
        omega
/-! A plain word ahead of a blank. -/
def bl (x : UInt8) : Bool := blankR x.toNat
/-- Nothing, or a blank first. -/
def Apart (m : Bs) : Prop := m = [] ∨ ∃ x t, m = x :: t ∧ bl x = true
theorem bl_spec {x : UInt8} (h : bl x = true) : x = 32 ∨ x = 9 := by
  unfold bl blankR at h
  simp only [Bool.or_eq_true, decide_eq_true_eq] at h
  rcases h with h | h
  · left; exact UInt8.toNat_inj.1 h
  · right; exact UInt8.toNat_inj.1 h
theorem bl_low {x : UInt8} (h : bl x = true) : x.toNat < 128 := by rcases bl_spec h with h | h <;> rw [h] <;> decide
theorem pl_apart {m : Bs} (h : Apart m) : pl m = 0 := by
  rcases h with rfl | ⟨x, t, rfl, hb⟩
  · rfl
  · rw [pl_step (by simp)]
    have : ru (x :: t) = x.toNat := by unfold ru; rw [dec_ascii _ (bl_low hb)]
    rw [this, if_neg]
    unfold inPl
    unfold bl at hb
    rw [hb]; simp
theorem ru_apart {l m : Bs} (hl : l ≠ []) (h : Apart m) : ru (l ++ m) = ru l ∧ wd (l ++ m) = wd l := by
  rcases h with rfl | ⟨x, t, rfl, hb⟩
  · rw [List.append_nil]; exact ⟨rfl, rfl⟩
  · exact ru_ext hl (bl_low hb) t
theorem pl_app : ∀ (n : Nat) (l m : Bs), l.length ≤ n → Apart m → pl (l ++ m) = pl l
  | n, l, m, hn, hm => by
    by_cases hl : l = []
    · subst hl; exact pl_apart hm
    · have h1 := ne_len hl
      have h2 := drop_lt hl
      have h3 := wd_le hl
      have h4 := ru_apart hl hm
      rw [pl_step (by simp [hl]), pl_step hl, h4.1, h4.2, List.drop_append_of_le_length h3]
      cases n with
      | zero => omega
      | succ n => rw [pl_app n (l.drop (wd l)) m (by omega) hm]
/-- The word ahead is the quoted one. -/
theorem one_quote (a m : Bs) (hm : Apart m) : one (quote a ++ m) = some (a, (quote a).length) := by
  cases h : isPl a with
  | true =>
    rw [quote_yes h]
    obtain ⟨h1, h2⟩ := isPl_ne h
    have h3 := pl_app _ a m (Nat.le_refl _) hm
    unfold one
    rw [if_neg, h3, h2, if_neg (by have := ne_len h1; omega), List.take_append_of_le_length (Nat.le_refl _), List.take_length]
    cases a with
    | nil => exact absurd rfl h1
    | cons x a =>
      simp only [List.cons_append, List.head?_cons, Option.some.injEq]
      intro e
      exact head_low (by decide) (inPl_spec (isPl_first h)).2.2.1 (by rw [e]; rfl)
  | false =>
    rw [quote_no h]
    unfold one
    rw [if_pos (show ((34 :: (qb a ++ [34]) ++ m : Bs)).head? = some (34 : UInt8) from rfl)]
    show (qu ((qb a ++ [34]) ++ m)).map _ = _
    rw [List.append_assoc]
    show (qu (qb a ++ 34 :: m)).map _ = _
    rw [qu_qb _ a (Nat.le_refl _)]
    simp
/-- What a quoted word begins with. -/
theorem quote_head (a : Bs) : ∃ x t, quote a = x :: t ∧ x.toNat ≠ 32 ∧ x.toNat ≠ 9 ∧ x.toNat ≠ 35 := by
  cases h : isPl a with
  | true =>
    rw [quote_yes h]
    cases a with
    | nil => exact absurd rfl (isPl_ne h).1
    | cons x a =>
      have h2 := inPl_spec (isPl_first h)
      exact ⟨x, a, rfl, head_low (by decide) h2.1, head_low (by decide) h2.2.1, head_low (by decide) h2.2.2.2.1⟩
  | false => rw [quote_no h]; exact ⟨34, _, rfl, by decide, by decide, by decide⟩
theorem trimB_bl {x : UInt8} (h : bl x = true) (l : Bs) : trimB (x :: l) = trimB l := by
  unfold trimB trimLeftS
  rw [List.dropWhile_cons, if_pos]
  rcases bl_spec h with h | h <;> rw [h] <;> decide
theorem trimB_bls : ∀ (b l : Bs), b.all bl = true → trimB (b ++ l) = trimB l
  | [], l, _ => rfl
  | x :: b, l, h => by
    simp only [List.all_cons, Bool.and_eq_true] at h
    rw [List.cons_append, trimB_bl h.1, trimB_bls b l h.2]
theorem wo_trim {c : Nat} {l m : Bs} (h : trimB l = trimB m) : wo c l = wo c m := by
  by_cases h0 : trimB l = [] ∨ (trimB l).head? = some 35
  · rw [wo_over h0, wo_over (by rw [← h]; exact h0)]
  · have h0' : ¬ (trimB m = [] ∨ (trimB m).head? = some 35) := by rw [← h]; exact h0
    by_cases hc : c = 12
    · rw [wo_many h0 hc, wo_many h0' hc]
    · cases ho : one (trimB l) with
      | none => rw [wo_none h0 hc ho, wo_none h0' hc (by rw [← h]; exact ho)]
      | some q =>
        obtain ⟨w, n⟩ := q
        cases ha : aft (trimB l) n with
        | false => rw [wo_form h0 hc ho ha, wo_form h0' hc (by rw [← h]; exact ho) (by rw [← h]; exact ha)]
        | true => rw [wo_step h0 hc ho ha, wo_step h0' hc (by rw [← h]; exact ho) (by rw [← h]; exact ha), h]
theorem aft_apart (a m : Bs) (hm : Apart m) : aft (a ++ m) a.length = true := by
  unfold aft
  rw [List.getElem?_append_right (Nat.le_refl _), Nat.sub_self]
  rcases hm with rfl | ⟨x, t, rfl, hb⟩
  · rfl
  · exact hb
/-- A quoted word, blanks ahead, and what comes behind. -/
theorem wo_quote {c : Nat} (b a m : Bs) (hb : b.all bl = true) (hm : Apart m) (hc : c ≠ 12) : wo c (b ++ (quote a ++ m)) = (wo (c + 1) m).cons a := by
  rw [wo_trim (trimB_bls b _ hb)]
  obtain ⟨x, t, hx, h1, h2, h3⟩ := quote_head a
  have ht : trimB (quote a ++ m) = quote a ++ m := by rw [hx]; exact trimB_id ⟨h1, h2⟩
  have hn : ¬ (trimB (quote a ++ m) = [] ∨ (trimB (quote a ++ m)).head? = some 35) := by
    rw [ht, hx]
    rintro (h | h)
    · cases h
    · simp at h; exact h3 (by rw [h]; rfl)
  rw [wo_step hn hc (by rw [ht]; exact one_quote a m hm) (by rw [ht]; exact aft_apart _ m hm), ht, List.drop_append_of_le_length (Nat.le_refl _), List.drop_length]
  rfl
theorem wo_quote_many {c : Nat} (b a m : Bs) (hb : b.all bl = true) (hc : c = 12) : wo c (b ++ (quote a ++ m)) = .bad 5 := by
  rw [wo_trim (trimB_bls b _ hb)]
  obtain ⟨x, t, hx, h1, h2, h3⟩ := quote_head a
  have ht : trimB (quote a ++ m) = quote a ++ m := by rw [hx]; exact trimB_id ⟨h1, h2⟩
  refine wo_many ?_ hc
  rw [ht, hx]
  rintro (h | h)
  · cases h
  · simp at h; exact h3 (by rw [h]; rfl)
theorem wo_nil (c : Nat) : wo c [] = .ok [] := wo_over (.inl rfl)
end Go.Proofs.YtjjdefkaohbmjaaDoor
