/- What stands behind a line: blanks, and a remark. No condition. -/
import Derived.Test.YtjjdefkaohbmjaaDoorTokI
set_option linter.unusedVariables false
set_option linter.unusedSimpArgs false
namespace Go.Proofs.YtjjdefkaohbmjaaDoor
open Go.RowKit Go.Lib
theorem trimB_app {l : Bs} (h : trimB l ≠ []) (S : Bs) : trimB (l ++ S) = trimB l ++ S := by
  unfold trimB trimLeftS at h ⊢
  rw [List.dropWhile_append, if_neg]
  simpa using h
theorem trimB_app_nil {l : Bs} (h : trimB l = []) (S : Bs) : trimB (l ++ S) = trimB S := by
  unfold trimB trimLeftS at h ⊢
  rw [List.dropWhile_append, if_pos]
  simpa using h
theorem get_app {l S : Bs} {i : Nat} (h : i < l.length) : (l ++ S)[i]? = l[i]? := List.getElem?_append_left h
theorem hx_app {l : Bs} {i : Nat} (h : i < l.length) (S : Bs) : hx (l ++ S) i = hx l i := by unfold hx; rw [get_app h]
theorem item_app {l p S : Bs} {k : Nat} (hl : l ≠ []) (hS : Apart S) (h : item l = some (p, k)) : item (l ++ S) = some (p, k) := by
  have hr := ru_apart hl hS
  have hk := item_le hl h
  unfold item at h ⊢
  rw [hr.1, hr.2]
  split at h
  · cases h
  · rename_i h1
    rw [if_neg h1]
    split at h
    · rename_i h2
      rw [if_pos h2, ← h, List.take_append_of_le_length (wd_le hl)]
    · rename_i h2
      rw [if_neg h2, ← h]
      unfold esc at h ⊢
      have hlen : 1 < l.length := by
        cases hc : l[1]? with
        | none => rw [hc] at h; cases h
        | some c => exact (List.getElem?_eq_some_iff.1 hc).1
      rw [get_app hlen]
      cases hc : l[1]? with
      | none => rfl
      | some c =>
        rw [hc] at h
        simp only at h ⊢
        by_cases h3 : c = 34 ∨ c = 92
        · rw [if_pos h3, if_pos h3]
        · rw [if_neg h3] at h
          rw [if_neg h3, if_neg h3]
          by_cases h4 : c = 120 ∧ 0 ≤ hx l 2 ∧ 0 ≤ hx l 3
          · have h5 := (hx_lt h4.2.1).1
            have h6 := (hx_lt h4.2.2).1
            rw [hx_app h5, hx_app h6]
          · rw [if_neg h4] at h; cases h
theorem qu_app {S : Bs} (hS : Apart S) : ∀ (n : Nat) (l : Bs), l.length ≤ n → ∀ q, qu l = some q → qu (l ++ S) = some q
  | n, l, hn, q, h => by
    by_cases hl : l = []
    · subst hl; cases h
    · have h1 := ne_len hl
      have hr := ru_apart hl hS
      have hne : l ++ S ≠ [] := by simp [hl]
      by_cases h34 : ru l = 34
      · rw [qu_end hl h34] at h
        rw [qu_end hne (by rw [hr.1]; exact h34), h]
      · cases hi : item l with
        | none => rw [qu_none h34 hi] at h; cases h
        | some x =>
          obtain ⟨p, k⟩ := x
          rw [qu_step hl h34 hi] at h
          have h2 := item_pos hi
          have h3 := item_le hl hi
          rw [qu_step hne (by rw [hr.1]; exact h34) (item_app hl hS hi), List.drop_append_of_le_length h3]
          cases hq : qu (l.drop k) with
          | none => rw [hq] at h; cases h
          | some q2 =>
            rw [hq] at h
            cases n with
            | zero => omega
            | succ n => rw [qu_app hS n (l.drop k) (by rw [List.length_drop]; omega) q2 hq, h]
/-- Behind an open quotation nothing closes it. -/
def Mute (S : Bs) : Prop := ∀ l, qu l = none → qu (l ++ S) = none
theorem hx_bl {l : Bs} {x : UInt8} (h : bl x = true) {i : Nat} (hi : l[i]? = some x) : hx l i < 0 := by
  unfold hx
  rw [hi]
  rcases bl_spec h with rfl | rfl <;> decide
theorem hx_none {l : Bs} {i : Nat} (hi : l[i]? = none) : hx l i < 0 := by
  unfold hx
  rw [hi]
  decide
theorem hx_ge {l S : Bs} (hS : Apart S) {i : Nat} (hi : i ≤ l.length) (h : 0 ≤ hx (l ++ S) i) : hx (l ++ S) i = hx l i := by
  rcases Nat.lt_or_ge i l.length with h1 | h1
  · exact hx_app h1 S
  · obtain rfl : i = l.length := by omega
    rcases hS with rfl | ⟨x, t, rfl, hb⟩
    · have := hx_none (l := l ++ []) (i := l.length) (by rw [List.append_nil]; exact List.getElem?_eq_none (Nat.le_refl _))
      omega
    · have := hx_bl (l := l ++ x :: t) hb (i := l.length) (by rw [List.getElem?_append_right (Nat.le_refl _), Nat.sub_self]; rfl)
      omega
theorem item_app_none {l S : Bs} (hl : l ≠ []) (hS : Apart S) (h : item l = none) : item (l ++ S) = none := by
  have hr := ru_apart hl hS
  unfold item at h ⊢
  rw [hr.1, hr.2]
  split at h
  · rename_i h1; rw [if_pos h1]
  · rename_i h1
    rw [if_neg h1]
    split at h
    · cases h
    · rename_i h2
      rw [if_neg h2]
      have h1l := ne_len hl
      unfold esc at h ⊢
      rcases Nat.lt_or_ge 1 l.length with hlen | hlen
      · rw [get_app hlen]
        cases hc : l[1]? with
        | none => rfl
        | some c =>
          rw [hc] at h
          simp only at h ⊢
          by_cases h3 : c = 34 ∨ c = 92
          · rw [if_pos h3] at h; cases h
          · rw [if_neg h3] at h
            rw [if_neg h3, if_neg]
            rintro ⟨h4, h5, h6⟩
            have e2 := hx_ge hS (i := 2) (by omega) h5
            have h5' := h5
            rw [e2] at h5'
            have h7 := (hx_lt h5').1
            have e3 := hx_ge hS (i := 3) (by omega) h6
            rw [if_pos ⟨h4, h5', by rw [← e3]; exact h6⟩] at h
            cases h
      · have hl1 : l.length = 1 := by omega
        rcases hS with rfl | ⟨x, t, rfl, hb⟩
        · rw [List.append_nil, List.getElem?_eq_none hlen]
        · rw [List.getElem?_append_right hlen, hl1]
          show (if x = 34 ∨ x = 92 then _ else if x = 120 ∧ _ then _ else _) = _
          rcases bl_spec hb with rfl | rfl
          · rw [if_neg (by decide), if_neg (fun h => absurd h.1 (by decide))]
          · rw [if_neg (by decide), if_neg (fun h => absurd h.1 (by decide))]
theorem mute_of {S : Bs} (hS : Apart S) (h0 : qu S = none) : ∀ (n : Nat) (l : Bs), l.length ≤ n → qu l = none → qu (l ++ S) = none
  | n, l, hn, h => by
    by_cases hl : l = []
    · subst hl; exact h0
    · have h1 := ne_len hl
      have hr := ru_apart hl hS
      have hne : l ++ S ≠ [] := by simp [hl]
      by_cases h34 : ru l = 34
      · rw [qu_end hl h34] at h; cases h
      · cases hi : item l with
        | none => exact qu_none (by rw [hr.1]; exact h34) (item_app_none hl hS hi)
        | some x =>
          obtain ⟨p, k⟩ := x
          rw [qu_step hl h34 hi] at h
          have h2 := item_pos hi
          have h3 := item_le hl hi
          rw [qu_step hne (by rw [hr.1]; exact h34) (item_app hl hS hi), List.drop_append_of_le_length h3]
          cases hq : qu (l.drop k) with
          | some q2 => rw [hq] at h; cases h
          | none =>
            cases n with
            | zero => omega
            | succ n => rw [mute_of hS h0 n (l.drop k) (by rw [List.length_drop]; omega) hq]; rfl
theorem Mute.of {S : Bs} (hS : Apart S) (h0 : qu S = none) : Mute S := fun l h => mute_of hS h0 _ l (Nat.le_refl _) h
theorem one_app {l w S : Bs} {n : Nat} (hl : l ≠ []) (hS : Apart S) (h : one l = some (w, n)) : one (l ++ S) = some (w, n) := by
  cases l with
  | nil => exact absurd rfl hl
  | cons x l =>
    unfold one at h ⊢
    rw [pl_app _ (x :: l) S (Nat.le_refl _) hS]
    show (if some x = some 34 then (qu (l ++ S)).map _ else _) = _
    have h : (if some x = some 34 then (qu l).map (fun q => (q.1, q.2 + 1)) else if pl (x :: l) = 0 then none else some ((x :: l).take (pl (x :: l)), pl (x :: l))) = some (w, n) := h
    by_cases hx : some x = some (34 : UInt8)
    · rw [if_pos hx] at h
      rw [if_pos hx]
      cases hq : qu l with
      | none => rw [hq] at h; cases h
      | some q => rw [qu_app hS _ l (Nat.le_refl _) q hq]; rw [hq] at h; exact h
    · rw [if_neg hx] at h
      rw [if_neg hx, List.take_append_of_le_length (pl_len _)]
      exact h
theorem one_app_none {l S : Bs} (hl : l ≠ []) (hS : Apart S) (hM : Mute S) (h : one l = none) : one (l ++ S) = none := by
  cases l with
  | nil => exact absurd rfl hl
  | cons x l =>
    unfold one at h ⊢
    rw [pl_app _ (x :: l) S (Nat.le_refl _) hS]
    show (if some x = some 34 then (qu (l ++ S)).map _ else _) = _
    have h : (if some x = some 34 then (qu l).map (fun q => (q.1, q.2 + 1)) else if pl (x :: l) = 0 then none else some ((x :: l).take (pl (x :: l)), pl (x :: l))) = none := h
    by_cases hx : some x = some (34 : UInt8)
    · rw [if_pos hx] at h
      rw [if_pos hx]
      cases hq : qu l with
      | some q => rw [hq] at h; cases h
      | none => rw [hM l hq]; rfl
    · rw [if_neg hx] at h
      rw [if_neg hx, List.take_append_of_le_length (pl_len _)]
      exact h
theorem aft_app {l S : Bs} {n : Nat} (hS : Apart S) (h : n ≤ l.length) : aft (l ++ S) n = aft l n := by
  unfold aft
  rcases Nat.lt_or_ge n l.length with h1 | h1
  · rw [get_app h1]
  · obtain rfl : n = l.length := by omega
    rw [List.getElem?_append_right (Nat.le_refl _), Nat.sub_self, List.getElem?_eq_none (Nat.le_refl _)]
    rcases hS with rfl | ⟨x, t, rfl, hb⟩
    · rfl
    · exact hb
/-- What is behind a line changes nothing. -/
theorem wo_tail {S : Bs} (hS : Apart S) (hT : trimB S = [] ∨ (trimB S).head? = some 35) : ∀ (n : Nat) (l : Bs), l.length ≤ n → ∀ c, (Mute S ∨ ∃ ws, wo c l = .ok ws) → wo c (l ++ S) = wo c l
  | n, l, hn, c, h => by
    by_cases h0 : trimB l = []
    · rw [wo_over (.inl h0), wo_over (by rw [trimB_app_nil h0]; exact hT)]
    · have ht := trimB_app h0 S
      have hhd : (trimB (l ++ S)).head? = (trimB l).head? := by
        rw [ht]
        cases e : trimB l with
        | nil => exact absurd e h0
        | cons x t => rfl
      by_cases h35 : (trimB l).head? = some 35
      · rw [wo_over (.inr h35), wo_over (.inr (by rw [hhd]; exact h35))]
      · have hn1 : ¬ (trimB l = [] ∨ (trimB l).head? = some 35) := fun h => h.elim h0 h35
        have hn2 : ¬ (trimB (l ++ S) = [] ∨ (trimB (l ++ S)).head? = some 35) := by
          rw [hhd, ht]
          rintro (h | h)
          · exact h0 (List.append_eq_nil_iff.1 h).1
          · exact h35 h
        by_cases hc : c = 12
        · rw [wo_many hn1 hc, wo_many hn2 hc]
        · cases ho : one (trimB l) with
          | none =>
            rw [wo_none hn1 hc ho] at h ⊢
            rcases h with h | ⟨ws, h⟩
            · exact wo_none hn2 hc (by rw [ht]; exact one_app_none h0 hS h ho)
            · cases h
          | some q =>
            obtain ⟨w, k⟩ := q
            have h2 := one_le ho
            have h3 := one_pos ho
            have h4 := trimB_le l
            have ho2 : one (trimB (l ++ S)) = some (w, k) := by rw [ht]; exact one_app h0 hS ho
            have ha2 : aft (trimB (l ++ S)) k = aft (trimB l) k := by rw [ht]; exact aft_app hS h2
            cases ha : aft (trimB l) k with
            | false => rw [wo_form hn1 hc ho ha, wo_form hn2 hc ho2 (by rw [ha2]; exact ha)]
            | true =>
              rw [wo_step hn1 hc ho ha] at h ⊢
              rw [wo_step hn2 hc ho2 (by rw [ha2]; exact ha), ht, List.drop_append_of_le_length h2]
              cases n with
              | zero => omega
              | succ n =>
                rw [wo_tail hS hT n ((trimB l).drop k) (by rw [List.length_drop]; omega) (c + 1) (h.imp id (fun ⟨ws, h⟩ => by
                  obtain ⟨m, hm, _⟩ := cons_ok h
                  exact ⟨m, hm⟩))]
/-! The two laws' lines. -/
theorem words_behind {l t : Bs} {ws : List Bs} (hl : (l ++ (32 :: 35 :: t)).length ≤ 400) (h : words l = .ok ws) : words (l ++ (32 :: 35 :: t)) = .ok ws := by
  unfold words at h ⊢
  rw [if_neg (by rw [List.length_append] at hl; omega)] at h
  rw [if_neg (by omega), wo_tail (.inr ⟨32, 35 :: t, rfl, rfl⟩) (.inr rfl) _ l (Nat.le_refl _) 0 (.inr ⟨ws, h⟩), h]
theorem rep9 : ∀ (k : Nat) (X : Bs), trimB (List.replicate k 9 ++ X) = trimB X
  | 0, X => rfl
  | k + 1, X => by
    rw [List.replicate_succ, List.cons_append, trimB_bl (by decide), rep9 k X]
theorem apart9 {X : Bs} (h : Apart X) : ∀ (k : Nat), Apart (List.replicate k 9 ++ X)
  | 0 => h
  | k + 1 => .inr ⟨9, _, by rw [List.replicate_succ, List.cons_append], rfl⟩
theorem qu9 {X : Bs} (h : qu X = none) : ∀ (k : Nat), qu (List.replicate k 9 ++ X) = none
  | 0 => h
  | k + 1 => by
    rw [List.replicate_succ, List.cons_append]
    have hr : ru (9 :: (List.replicate k 9 ++ X)) = 9 := by unfold ru; rw [dec_ascii _ (by decide)]; rfl
    exact qu_none (by rw [hr]; decide) (item_odd (by rw [hr]; decide))
theorem rep32 (k : Nat) : (List.replicate k (32 : UInt8)).all bl = true := by
  rw [List.all_replicate]
  split
  · rfl
  · decide
theorem words_blanks {l : Bs} (i j : Nat) (hl : (List.replicate i 32 ++ l ++ List.replicate j 9).length ≤ 400) : words (List.replicate i 32 ++ l ++ List.replicate j 9) = words l := by
  have e := wo_tail (S := List.replicate j 9 ++ []) (apart9 (.inl rfl) j) (.inl (by rw [rep9]; rfl)) _ l (Nat.le_refl _) 0 (.inl (Mute.of (apart9 (.inl rfl) j) (qu9 rfl j)))
  rw [List.append_nil] at e
  unfold words
  rw [if_neg (by omega), if_neg (by rw [List.length_append, List.length_append] at hl; omega), List.append_assoc, wo_trim (trimB_bls _ _ (rep32 i)), e]
theorem words_blanks2 {l : Bs} (i j : Nat) (hl : (List.replicate i 32 ++ l ++ List.replicate j 9 ++ [32, 35, 32, 120]).length ≤ 400) : words (List.replicate i 32 ++ l ++ List.replicate j 9 ++ [32, 35, 32, 120]) = words l := by
  have hA : Apart [32, 35, 32, 120] := .inr ⟨32, _, rfl, rfl⟩
  have e := wo_tail (S := List.replicate j 9 ++ [32, 35, 32, 120]) (apart9 hA j) (.inr (by rw [rep9]; rfl)) _ l (Nat.le_refl _) 0 (.inl (Mute.of (apart9 hA j) (qu9 (by kernel_rfl) j)))
  unfold words
  rw [if_neg (by omega), if_neg (by rw [List.length_append, List.length_append, List.length_append] at hl; omega), List.append_assoc, List.append_assoc, wo_trim (trimB_bls _ _ (rep32 i)), e]
/-! Of whatever line. -/
def Res.ws : Res → List Bs
  | .ok l => l
  | .bad _ => []
def Res.ez : Res → Int
  | .ok _ => 0
  | .bad z => z
theorem ws_len (l : Bs) : (words l).ws.length ≤ 12 := by
  cases h : words l with
  | ok ws => exact (words_ok h).2.1
  | bad z => exact Nat.zero_le _
theorem words_uni (s : ByteArray) (w : World) (hs : s.size ≤ 140737488351232) (hT : Tabs w) :
    Calls Tryd.prog 14 #[.string s] w fun e w' => ∃ P c, e = .returned (.tuple #[.slice P (words s.data.toList).ws.length c, .int .i64 (words s.data.toList).ez]) ∧ Sep w w' [tOwn tStr 1 (.slice P (words s.data.toList).ws.length c) (words s.data.toList).ws.length (eStr.fl ((words s.data.toList).ws.map ba))] :=
  (Words_any s w hs hT).mono fun e w' h => by
    cases hw : words s.data.toList with
    | ok ws =>
      rw [hw] at h
      exact h
    | bad z =>
      rw [hw] at h
      obtain ⟨he, hB⟩ := h
      exact ⟨none, 0, he, (Sep.nil w).new hB (Own.nil w' tStr 1) (fun k hk => by cases hk)⟩
end Go.Proofs.YtjjdefkaohbmjaaDoor
