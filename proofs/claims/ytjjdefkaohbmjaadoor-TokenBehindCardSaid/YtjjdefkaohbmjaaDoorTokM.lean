/- The plain side of package token: runes, plain words, quoted words, lines, numbers. No condition. -/
import Derived.Lib.TrimUEq
import Derived.Lib.MapLaws
import Derived.Lib.Bytealg
import Derived.Lib.SlTrimSet
set_option linter.unusedVariables false
set_option linter.unusedSimpArgs false
namespace Go.Proofs.YtjjdefkaohbmjaaDoor
open Go.Lib
abbrev Bs : Type := List UInt8
def ru (l : Bs) : Nat := (decodeL l).1
def wd (l : Bs) : Nat := (decodeL l).2
theorem ne_len {l : Bs} (h : l ≠ []) : 1 ≤ l.length := by
  cases l with
  | nil => exact absurd rfl h
  | cons x l => simp
theorem wd_pos (l : Bs) : 1 ≤ wd l := by
  unfold wd; rw [decodeL_N]; exact decodeN_ge1 _ _ _ _ _
theorem wd_le {l : Bs} (h : l ≠ []) : wd l ≤ l.length := by
  unfold wd
  rw [decodeL_N]
  have := ne_len h
  unfold decodeN
  repeat' split
  all_goals (simp only; omega)
theorem ru_le (l : Bs) : ru l ≤ 1114111 := by
  unfold ru; rw [decodeL_N]; exact decodeN_rune_le _ _ _ _ _ (UInt8.toNat_lt _)
theorem drop_lt {l : Bs} (h : l ≠ []) : (l.drop (wd l)).length < l.length := by
  have h1 := wd_pos l
  have h2 := ne_len h
  rw [List.length_drop]; omega
/-- Of an ASCII byte ahead. -/
theorem dec_ascii {x : UInt8} (l : Bs) (h : x.toNat < 128) : decodeL (x :: l) = (x.toNat, 1) := by
  rw [decodeL_N]
  unfold decodeN
  rw [if_pos (by simpa using h)]
  simp
theorem dec_high {x : UInt8} (l : Bs) (h : ¬ x.toNat < 128) : 128 ≤ (decodeL (x :: l)).1 := by
  rw [decodeL_N]
  unfold decodeN
  rw [if_neg (by simpa using h)]
  repeat' split
  all_goals (simp only; omega)
theorem ru_low {x : UInt8} {l : Bs} (h : ru (x :: l) < 128) : x.toNat = ru (x :: l) ∧ wd (x :: l) = 1 := by
  by_cases hx : x.toNat < 128
  · unfold ru wd; rw [dec_ascii l hx]; exact ⟨rfl, rfl⟩
  · have := dec_high l hx
    unfold ru at h; omega
theorem ru_eq_low {x : UInt8} {l : Bs} {k : Nat} (hk : k < 128) : ru (x :: l) = k ↔ x.toNat = k := by
  by_cases hx : x.toNat < 128
  · unfold ru; rw [dec_ascii l hx]
  · have := dec_high l hx
    unfold ru
    constructor <;> intro h <;> omega
def blankR (r : Nat) : Bool := decide (r = 32) || decide (r = 9)
def oddR (r : Nat) : Bool := decide (r < 32) || (decide (r = 127) || decide (r = 65533))
def inPl (r : Nat) : Bool := !blankR r && (decide (r ≠ 34) && (decide (r ≠ 35) && !oddR r))
/-- How many bytes a plain word ahead has. -/
def plF : Nat → Bs → Nat
  | 0, _ => 0
  | f + 1, l => if l = [] then 0 else if inPl (ru l) = true then wd l + plF f (l.drop (wd l)) else 0
def pl (l : Bs) : Nat := plF l.length l
theorem plF_eq : ∀ (f : Nat) (l : Bs), l.length ≤ f → plF f l = pl l
  | 0, l, h => by
    obtain rfl : l = [] := List.eq_nil_of_length_eq_zero (by omega)
    rfl
  | f + 1, l, h => by
    unfold pl
    by_cases hl : l = []
    · subst hl; rfl
    · obtain ⟨n, hn⟩ : ∃ n, l.length = n + 1 := ⟨l.length - 1, by have := ne_len hl; omega⟩
      rw [hn]
      have hd := drop_lt hl
      simp only [plF, if_neg hl]
      rw [plF_eq f _ (by omega), plF_eq n _ (by omega)]
theorem pl_nil : pl [] = 0 := rfl
theorem pl_step {l : Bs} (hl : l ≠ []) : pl l = if inPl (ru l) = true then wd l + pl (l.drop (wd l)) else 0 := by
  rw [← plF_eq (l.length + 1) l (Nat.le_succ _)]
  have hd := drop_lt hl
  simp only [plF, if_neg hl]
  rw [plF_eq l.length _ (by omega)]
theorem pl_le : ∀ (n : Nat) (l : Bs), l.length ≤ n → pl l ≤ l.length
  | n, l, h => by
    by_cases hl : l = []
    · subst hl; exact Nat.le_refl _
    · rw [pl_step hl]
      split
      · have hd := drop_lt hl
        have hw := wd_le hl
        cases n with
        | zero => have := ne_len hl; omega
        | succ n =>
          have := pl_le n (l.drop (wd l)) (by omega)
          rw [List.length_drop] at this
          omega
      · exact Nat.zero_le _
theorem pl_len (l : Bs) : pl l ≤ l.length := pl_le _ l (Nat.le_refl _)
def isPl (l : Bs) : Bool := decide (l ≠ []) && decide (pl l = l.length)
/-- A digit of base sixteen. -/
def hexL : Bs := [48, 49, 50, 51, 52, 53, 54, 55, 56, 57, 97, 98, 99, 100, 101, 102]
def hx (l : Bs) (i : Nat) : Int := match l[i]? with
  | some c => indexByte hexL c
  | none => -1
/-- What one escape says, and how many bytes it has. -/
def esc (l : Bs) : Option (Bs × Nat) := match l[1]? with
  | some c => if c = 34 ∨ c = 92 then some ([c], 2) else if c = 120 ∧ 0 ≤ hx l 2 ∧ 0 ≤ hx l 3 then some ([((hx l 2).toNat * 16 + (hx l 3).toNat).toUInt8], 4) else none
  | none => none
def item (l : Bs) : Option (Bs × Nat) := if oddR (ru l) = true then none else if ru l ≠ 92 then some (l.take (wd l), wd l) else esc l
/-- What a quoted word says, of the bytes behind its first sign, and how many of them it takes. -/
def quF : Nat → Bs → Option (Bs × Nat)
  | 0, _ => none
  | f + 1, l => if l = [] then none else if ru l = 34 then some ([], 1) else match item l with
    | none => none
    | some (p, k) => (quF f (l.drop k)).map fun q => (p ++ q.1, k + q.2)
def qu (l : Bs) : Option (Bs × Nat) := quF l.length l
theorem item_pos {l p : Bs} {k : Nat} (h : item l = some (p, k)) : 1 ≤ k := by
  unfold item at h
  split at h
  · cases h
  · split at h
    · simp only [Option.some.injEq, Prod.mk.injEq] at h
      rw [← h.2]; exact wd_pos l
    · unfold esc at h
      split at h
      · split at h
        · simp only [Option.some.injEq, Prod.mk.injEq] at h; omega
        · split at h
          · simp only [Option.some.injEq, Prod.mk.injEq] at h; omega
          · cases h
      · cases h
theorem quF_eq : ∀ (f : Nat) (l : Bs), l.length ≤ f → quF f l = qu l
  | 0, l, h => by
    obtain rfl : l = [] := List.eq_nil_of_length_eq_zero (by omega)
    rfl
  | f + 1, l, h => by
    unfold qu
    by_cases hl : l = []
    · subst hl; rfl
    · obtain ⟨n, hn⟩ : ∃ n, l.length = n + 1 := ⟨l.length - 1, by have := ne_len hl; omega⟩
      rw [hn]
      simp only [quF, if_neg hl]
      split
      · rfl
      · cases hi : item l with
        | none => rfl
        | some x =>
          obtain ⟨p, k⟩ := x
          have hk := item_pos hi
          have h1 : (l.drop k).length ≤ n := by rw [List.length_drop]; omega
          simp only
          rw [quF_eq f _ (by omega), quF_eq n _ h1]
theorem qu_nil : qu [] = none := rfl
theorem qu_end {l : Bs} (hl : l ≠ []) (h : ru l = 34) : qu l = some ([], 1) := by
  rw [← quF_eq (l.length + 1) l (Nat.le_succ _)]
  simp only [quF, if_neg hl, if_pos h]
theorem qu_none {l : Bs} (h : ru l ≠ 34) (hi : item l = none) : qu l = none := by
  by_cases hl : l = []
  · subst hl; rfl
  · rw [← quF_eq (l.length + 1) l (Nat.le_succ _)]
    simp only [quF, if_neg hl, if_neg h, hi]
theorem qu_step {l p : Bs} {k : Nat} (hl : l ≠ []) (h : ru l ≠ 34) (hi : item l = some (p, k)) : qu l = (qu (l.drop k)).map fun q => (p ++ q.1, k + q.2) := by
  have hk := item_pos hi
  have := ne_len hl
  rw [← quF_eq (l.length + 1) l (Nat.le_succ _)]
  simp only [quF, if_neg hl, if_neg h, hi]
  rw [quF_eq l.length _ (by rw [List.length_drop]; omega)]
/-- The word ahead, and its bytes. -/
def one (t : Bs) : Option (Bs × Nat) := if t.head? = some 34 then (qu t.tail).map fun q => (q.1, q.2 + 1) else if pl t = 0 then none else some (t.take (pl t), pl t)
def trimB (l : Bs) : Bs := trimLeftS l [32, 9]
/-- May what stands there stand behind a word? -/
def aft (t : Bs) (n : Nat) : Bool := match t[n]? with
  | some c => blankR c.toNat
  | none => true
inductive Res where
  | ok (l : List Bs)
  | bad (e : Int)
def Res.cons (x : Bs) : Res → Res
  | .ok l => .ok (x :: l)
  | .bad e => .bad e
def Res.app (a : List Bs) : Res → Res
  | .ok l => .ok (a ++ l)
  | .bad e => .bad e
/-- The words of what is left, when there have been so many. -/
def woF : Nat → Nat → Bs → Res
  | 0, _, _ => .ok []
  | f + 1, c, l => if trimB l = [] ∨ (trimB l).head? = some 35 then .ok [] else if c = 12 then .bad 5 else match one (trimB l) with
    | none => .bad 4
    | some (w, n) => if aft (trimB l) n = true then (woF f (c + 1) ((trimB l).drop n)).cons w else .bad 4
def wo (c : Nat) (l : Bs) : Res := woF (l.length + 1) c l
def words (l : Bs) : Res := if 400 < l.length then .bad 5 else wo 0 l
theorem trimB_le (l : Bs) : (trimB l).length ≤ l.length := by
  unfold trimB trimLeftS
  exact (List.dropWhile_suffix _).length_le
theorem one_pos {t w : Bs} {n : Nat} (h : one t = some (w, n)) : 1 ≤ n := by
  unfold one at h
  split at h
  · cases hq : qu t.tail with
    | none => rw [hq] at h; cases h
    | some q =>
      rw [hq] at h
      simp only [Option.map_some, Option.some.injEq, Prod.mk.injEq] at h
      omega
  · split at h
    · cases h
    · simp only [Option.some.injEq, Prod.mk.injEq] at h; omega
theorem woF_eq : ∀ (f : Nat) (c : Nat) (l : Bs), l.length < f → woF f c l = wo c l
  | f + 1, c, l, h => by
    unfold wo
    simp only [woF]
    split
    · rfl
    · rename_i h0
      split
      · rfl
      · cases ho : one (trimB l) with
        | none => rfl
        | some x =>
          obtain ⟨w, n⟩ := x
          simp only
          have hn := one_pos ho
          have ht := trimB_le l
          have hne : trimB l ≠ [] := fun e => h0 (.inl e)
          have := ne_len hne
          have h1 : ((trimB l).drop n).length < l.length := by rw [List.length_drop]; omega
          rw [woF_eq f (c + 1) _ (by omega)]
          obtain ⟨m, hm⟩ : ∃ m, l.length = m + 1 := ⟨l.length - 1, by omega⟩
          rw [hm, woF_eq (m + 1) (c + 1) _ (by omega)]
theorem wo_over {c : Nat} {l : Bs} (h : trimB l = [] ∨ (trimB l).head? = some 35) : wo c l = .ok [] := by
  unfold wo; simp only [woF, if_pos h]
theorem wo_many {c : Nat} {l : Bs} (h : ¬ (trimB l = [] ∨ (trimB l).head? = some 35)) (hc : c = 12) : wo c l = .bad 5 := by
  unfold wo; simp only [woF, if_neg h, if_pos hc]
theorem wo_none {c : Nat} {l : Bs} (h : ¬ (trimB l = [] ∨ (trimB l).head? = some 35)) (hc : c ≠ 12) (ho : one (trimB l) = none) : wo c l = .bad 4 := by
  unfold wo; simp only [woF, if_neg h, if_neg hc, ho]
theorem wo_form {c n : Nat} {l w : Bs} (h : ¬ (trimB l = [] ∨ (trimB l).head? = some 35)) (hc : c ≠ 12) (ho : one (trimB l) = some (w, n)) (ha : aft (trimB l) n = false) : wo c l = .bad 4 := by
  unfold wo; simp only [woF, if_neg h, if_neg hc, ho, ha]; rfl
theorem wo_step {c n : Nat} {l w : Bs} (h : ¬ (trimB l = [] ∨ (trimB l).head? = some 35)) (hc : c ≠ 12) (ho : one (trimB l) = some (w, n)) (ha : aft (trimB l) n = true) : wo c l = (wo (c + 1) ((trimB l).drop n)).cons w := by
  have hn := one_pos ho
  have ht := trimB_le l
  have hne : trimB l ≠ [] := fun e => h (.inl e)
  have := ne_len hne
  rw [← woF_eq (l.length + 2) c l (by omega)]
  simp only [woF, if_neg h, if_neg hc, ho, if_pos ha]
  rw [← woF_eq (l.length + 1) (c + 1) _ (by rw [List.length_drop]; omega)]
  simp only [woF]
theorem Res.app_cons (a : List Bs) (w : Bs) (r : Res) : Res.app a (r.cons w) = Res.app (a ++ [w]) r := by
  cases r <;> simp [Res.app, Res.cons]
/-- How a text is quoted. -/
def hexE (c : UInt8) : Bs := [92, 120, hexL.getD (c.toNat / 16) 0, hexL.getD (c.toNat % 16) 0]
def qpiece (l : Bs) : Bs := if ru l = 34 ∨ ru l = 92 then [92, (ru l).toUInt8] else if oddR (ru l) = true then (l.take (wd l)).flatMap hexE else l.take (wd l)
def qbF : Nat → Bs → Bs
  | 0, _ => []
  | f + 1, l => if l = [] then [] else qpiece l ++ qbF f (l.drop (wd l))
def qb (l : Bs) : Bs := qbF l.length l
def quote (l : Bs) : Bs := if isPl l = true then l else 34 :: (qb l ++ [34])
theorem qbF_eq : ∀ (f : Nat) (l : Bs), l.length ≤ f → qbF f l = qb l
  | 0, l, h => by
    obtain rfl : l = [] := List.eq_nil_of_length_eq_zero (by omega)
    rfl
  | f + 1, l, h => by
    unfold qb
    by_cases hl : l = []
    · subst hl; rfl
    · obtain ⟨n, hn⟩ : ∃ n, l.length = n + 1 := ⟨l.length - 1, by have := ne_len hl; omega⟩
      rw [hn]
      have hd := drop_lt hl
      simp only [qbF, if_neg hl]
      rw [qbF_eq f _ (by omega), qbF_eq n _ (by omega)]
theorem qb_nil : qb [] = [] := rfl
theorem qb_step {l : Bs} (hl : l ≠ []) : qb l = qpiece l ++ qb (l.drop (wd l)) := by
  rw [← qbF_eq (l.length + 1) l (Nat.le_succ _)]
  have hd := drop_lt hl
  simp only [qbF, if_neg hl]
  rw [qbF_eq l.length _ (by omega)]
/-- Numbers. -/
def digB (c : UInt8) : Bool := decide (48 ≤ c.toNat) && decide (c.toNat ≤ 57)
def valF (n : Nat) (l : Bs) : Nat := l.foldl (fun n c => 10 * n + (c.toNat - 48)) n
def number (s : Bs) : Int × Int :=
  if trimPrefix s [45] = [] ∨ 19 < (trimPrefix s [45]).length then (0, 4)
  else if (trimPrefix s [45]).head? = some 48 ∧ s ≠ [48] then (0, 4)
  else if (trimPrefix s [45]).all digB = false then (0, 4)
  else if 4611686018427387904 < valF 0 (trimPrefix s [45]) then (0, 4)
  else if trimPrefix s [45] ≠ s then (-(valF 0 (trimPrefix s [45]) : Int), 0)
  else ((valF 0 (trimPrefix s [45]) : Int), 0)
end Go.Proofs.YtjjdefkaohbmjaaDoor
