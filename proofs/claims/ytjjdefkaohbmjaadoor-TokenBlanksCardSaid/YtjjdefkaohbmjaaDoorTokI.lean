/- Lines of quoted words, and what lines give. No condition. -/
import Derived.Test.YtjjdefkaohbmjaaDoorTokH
set_option linter.unusedVariables false
set_option linter.unusedSimpArgs false
namespace Go.Proofs.YtjjdefkaohbmjaaDoor
open Go.Lib
theorem ba_app (x y : Bs) : ba x ++ ba y = ba (x ++ y) := by
  apply ByteArray.ext
  simp [ba]
theorem item_wl {l p : Bs} {k : Nat} (h : item l = some (p, k)) : p.length ≤ k := by
  unfold item at h
  split at h
  · cases h
  · split at h
    · simp only [Option.some.injEq, Prod.mk.injEq] at h
      rw [← h.1, ← h.2, List.length_take]; omega
    · unfold esc at h
      split at h
      · split at h
        · simp only [Option.some.injEq, Prod.mk.injEq] at h
          rw [← h.1, ← h.2]; simp
        · split at h
          · simp only [Option.some.injEq, Prod.mk.injEq] at h
            rw [← h.1, ← h.2]; simp
          · cases h
      · cases h
theorem qu_wl : ∀ (n : Nat) (l : Bs), l.length ≤ n → ∀ q, qu l = some q → q.1.length ≤ q.2
  | n, l, hn, q, h => by
    by_cases hl : l = []
    · subst hl; cases h
    · have h1 := ne_len hl
      by_cases h34 : ru l = 34
      · rw [qu_end hl h34] at h
        cases h
        exact Nat.zero_le _
      · cases hi : item l with
        | none => rw [qu_none h34 hi] at h; cases h
        | some x =>
          obtain ⟨p, k⟩ := x
          rw [qu_step hl h34 hi] at h
          have h2 := item_pos hi
          have h3 := item_wl hi
          cases hq : qu (l.drop k) with
          | none => rw [hq] at h; cases h
          | some q2 =>
            rw [hq] at h
            cases h
            cases n with
            | zero => omega
            | succ n =>
              have := qu_wl n (l.drop k) (by rw [List.length_drop]; omega) q2 hq
              simp only [List.length_append]; omega
theorem one_wl {t w : Bs} {n : Nat} (h : one t = some (w, n)) : w.length ≤ n := by
  unfold one at h
  split at h
  · cases hq : qu t.tail with
    | none => rw [hq] at h; cases h
    | some q =>
      rw [hq] at h
      have := qu_wl _ _ (Nat.le_refl _) _ hq
      simp only [Option.map_some, Option.some.injEq, Prod.mk.injEq] at h
      rw [← h.1, ← h.2]; omega
  · split at h
    · cases h
    · simp only [Option.some.injEq, Prod.mk.injEq] at h
      rw [← h.1, ← h.2, List.length_take]; omega
theorem cons_ok {r : Res} {w : Bs} {ws : List Bs} (h : r.cons w = .ok ws) : ∃ l, r = .ok l ∧ ws = w :: l := by
  cases r with
  | ok l => simp only [Res.cons, Res.ok.injEq] at h; exact ⟨l, rfl, h.symm⟩
  | bad e => cases h
theorem cons_bad {r : Res} {w : Bs} {z : Int} (h : r.cons w = .bad z) : r = .bad z := by
  cases r with
  | ok l => cases h
  | bad e => simp only [Res.cons, Res.bad.injEq] at h; rw [h]
/-- What the words of a line are like. -/
theorem wo_ok : ∀ (n : Nat) (l : Bs), l.length ≤ n → ∀ c ws, c ≤ 12 → wo c l = .ok ws → c + ws.length ≤ 12 ∧ ∀ x ∈ ws, x.length ≤ l.length
  | n, l, hn, c, ws, hc, h => by
    by_cases h0 : trimB l = [] ∨ (trimB l).head? = some 35
    · rw [wo_over h0] at h
      simp only [Res.ok.injEq] at h
      subst h
      exact ⟨hc, fun x hx => by cases hx⟩
    · by_cases h12 : c = 12
      · rw [wo_many h0 h12] at h; cases h
      · cases ho : one (trimB l) with
        | none => rw [wo_none h0 h12 ho] at h; cases h
        | some q =>
          obtain ⟨w, k⟩ := q
          cases ha : aft (trimB l) k with
          | false => rw [wo_form h0 h12 ho ha] at h; cases h
          | true =>
            rw [wo_step h0 h12 ho ha] at h
            obtain ⟨m, hm, rfl⟩ := cons_ok h
            have h1 := one_pos ho
            have h2 := one_le ho
            have h3 := one_wl ho
            have h4 := trimB_le l
            have h5 := List.length_drop (i := k) (l := trimB l)
            cases n with
            | zero => omega
            | succ n =>
              have ih := wo_ok n ((trimB l).drop k) (by omega) (c + 1) m (by omega) hm
              refine ⟨by rw [List.length_cons]; omega, ?_⟩
              intro x hx
              rcases List.mem_cons.1 hx with rfl | hx
              · omega
              · have := ih.2 x hx; omega
theorem wo_bad : ∀ (n : Nat) (l : Bs), l.length ≤ n → ∀ c z, wo c l = .bad z → z = 4 ∨ z = 5
  | n, l, hn, c, z, h => by
    by_cases h0 : trimB l = [] ∨ (trimB l).head? = some 35
    · rw [wo_over h0] at h; cases h
    · by_cases h12 : c = 12
      · rw [wo_many h0 h12] at h; cases h; exact .inr rfl
      · cases ho : one (trimB l) with
        | none => rw [wo_none h0 h12 ho] at h; cases h; exact .inl rfl
        | some q =>
          obtain ⟨w, k⟩ := q
          cases ha : aft (trimB l) k with
          | false => rw [wo_form h0 h12 ho ha] at h; cases h; exact .inl rfl
          | true =>
            rw [wo_step h0 h12 ho ha] at h
            have hm := cons_bad h
            have h1 := one_pos ho
            have h2 := one_le ho
            have h4 := trimB_le l
            have h5 := List.length_drop (i := k) (l := trimB l)
            cases n with
            | zero => omega
            | succ n => exact wo_bad n ((trimB l).drop k) (by omega) (c + 1) z hm
theorem words_ok {l : Bs} {ws : List Bs} (h : words l = .ok ws) : l.length ≤ 400 ∧ ws.length ≤ 12 ∧ ∀ x ∈ ws, x.length ≤ 400 := by
  unfold words at h
  split at h
  · cases h
  · have := wo_ok _ l (Nat.le_refl _) 0 ws (by omega) h
    refine ⟨by omega, by omega, fun x hx => ?_⟩
    have := this.2 x hx
    omega
theorem words_bad {l : Bs} {z : Int} (h : words l = .bad z) : z = 4 ∨ z = 5 := by
  unfold words at h
  split at h
  · cases h; exact .inr rfl
  · exact wo_bad _ l (Nat.le_refl _) 0 z h
theorem words_long {l : Bs} (h : 400 < l.length) : words l = .bad 5 := by unfold words; rw [if_pos h]
/-- Words with a blank ahead of each. -/
def jn (ws : List Bs) : Bs := ws.flatMap fun w => 32 :: quote w
theorem jn_apart (ws : List Bs) : Apart (jn ws) := by
  cases ws with
  | nil => exact .inl rfl
  | cons w ws => exact .inr ⟨32, quote w ++ jn ws, rfl, rfl⟩
theorem wo_jn : ∀ (ws : List Bs) (c : Nat), c + ws.length ≤ 12 → wo c (jn ws) = .ok ws
  | [], c, h => wo_nil c
  | w :: ws, c, h => by
    rw [List.length_cons] at h
    have e := wo_quote (c := c) [32] w (jn ws) rfl (jn_apart ws) (by omega)
    show wo c ([32] ++ (quote w ++ jn ws)) = _
    rw [e, wo_jn ws (c + 1) (by omega)]
    rfl
theorem words_jn {ws : List Bs} (h : ws.length ≤ 12) (h2 : (jn ws).length ≤ 400) : words (jn ws) = .ok ws := by
  unfold words
  rw [if_neg (by omega), wo_jn ws 0 (by omega)]
theorem jn_snoc (ws : List Bs) (w : Bs) : jn (ws ++ [w]) = jn ws ++ (32 :: quote w) := by
  unfold jn
  rw [List.flatMap_append]
  simp
theorem jn_len : ∀ (ws : List Bs), (∀ x ∈ ws, x.length ≤ 400) → (jn ws).length ≤ ws.length * 1603
  | [], _ => Nat.le_refl _
  | w :: ws, h => by
    have h1 := jn_len ws (fun x hx => h x (List.mem_cons_of_mem _ hx))
    have h2 := h w (List.mem_cons_self ..)
    have h3 := quote_le w
    show ((32 :: quote w) ++ jn ws).length ≤ _
    rw [List.length_append, List.length_cons, List.length_cons]
    omega
/-- One word many times. -/
def rp (k : Nat) (s : Bs) : Bs := (List.replicate k (quote s ++ [32])).flatten
theorem rp_succ (k : Nat) (s : Bs) : rp (k + 1) s = rp k s ++ (quote s ++ [32]) := by
  unfold rp
  rw [List.replicate_succ', List.flatten_append]
  simp
theorem rp_len (k : Nat) (s : Bs) : (rp k s).length = k * ((quote s).length + 1) := by
  unfold rp
  simp
theorem rp_head (k : Nat) (s : Bs) : rp (k + 1) s = quote s ++ (32 :: rp k s) := by
  unfold rp
  rw [List.replicate_succ, List.flatten_cons]
  simp
theorem wo_bls {c : Nat} (b : Bs) (hb : b.all bl = true) : wo c (b ++ []) = .ok [] := by
  rw [wo_trim (trimB_bls b [] hb), wo_nil]
theorem wo_rp : ∀ (k c : Nat) (b s : Bs), b.all bl = true → c + k ≤ 12 → wo c (b ++ rp k s) = .ok (List.replicate k s)
  | 0, c, b, s, hb, h => wo_bls b hb
  | k + 1, c, b, s, hb, h => by
    rw [rp_head, wo_quote b s _ hb (.inr ⟨32, _, rfl, rfl⟩) (by omega)]
    have e := wo_rp k (c + 1) [32] s rfl (by omega)
    rw [show (32 :: rp k s : Bs) = [32] ++ rp k s from rfl, e]
    rfl
theorem wo_rp_many : ∀ (k c : Nat) (b s : Bs), b.all bl = true → c ≤ 12 → 12 < c + k → wo c (b ++ rp k s) = .bad 5
  | 0, c, b, s, hb, h, h2 => by omega
  | k + 1, c, b, s, hb, h, h2 => by
    rw [rp_head]
    by_cases hc : c = 12
    · exact wo_quote_many b s _ hb hc
    · rw [wo_quote b s _ hb (.inr ⟨32, _, rfl, rfl⟩) hc]
      have e := wo_rp_many k (c + 1) [32] s rfl (by omega) (by omega)
      rw [show (32 :: rp k s : Bs) = [32] ++ rp k s from rfl, e]
      rfl
theorem words_rp {k : Nat} {s : Bs} (h : (rp k s).length ≤ 400) (hk : k ≤ 12) : words (rp k s) = .ok (List.replicate k s) := by
  unfold words
  rw [if_neg (by omega)]
  exact wo_rp k 0 [] s rfl (by omega)
theorem words_rp_many {k : Nat} {s : Bs} (h : 400 < (rp k s).length ∨ 12 < k) : words (rp k s) = .bad 5 := by
  unfold words
  split
  · rfl
  · exact wo_rp_many k 0 [] s rfl (by omega) (by omega)
end Go.Proofs.YtjjdefkaohbmjaaDoor
