/- The plain side of package code: records, their bytes, and what bytes are read as. No condition. -/
import Derived.WalkKit
set_option linter.unusedVariables false
set_option linter.unusedSimpArgs false
namespace Go.Proofs.Ytodjmeodcmbdoaa

structure Rec where
  kind : Int
  nums : List Int
  texts : List ByteArray
def mayB (r : Rec) : Bool := decide (0 ≤ r.kind ∧ r.kind ≤ 255 ∧ r.nums.length ≤ 16 ∧ r.texts.length ≤ 4) && r.texts.all (fun s => decide (s.size ≤ 200))
theorem mayB_iff (r : Rec) : mayB r = true ↔ (0 ≤ r.kind ∧ r.kind ≤ 255 ∧ r.nums.length ≤ 16 ∧ r.texts.length ≤ 4) ∧ ∀ s ∈ r.texts, s.size ≤ 200 := by
  simp [mayB]
def i64 (n : Int) : Prop := -9223372036854775808 ≤ n ∧ n ≤ 9223372036854775807
def zig (n : Int) : Nat := if n < 0 then (-2 * n - 1).toNat else (2 * n).toNat
def unzig (u : Nat) : Int := if u % 2 = 1 then -((u / 2 : Nat) : Int) - 1 else ((u / 2 : Nat) : Int)
theorem unzig_zig (n : Int) : unzig (zig n) = n := by
  unfold unzig zig
  split <;> split <;> omega
theorem zig_unzig (u : Nat) : zig (unzig u) = u := by
  unfold unzig zig
  split <;> split <;> omega
theorem zig_lt {n : Int} (h : i64 n) : zig n < 18446744073709551616 := by
  unfold zig; unfold i64 at h; split <;> omega
theorem unzig_i64 {u : Nat} (h : u < 18446744073709551616) : i64 (unzig u) := by
  unfold unzig i64; split <;> omega
theorem zig_inj {a b : Int} (h : zig a = zig b) : a = b := by rw [← unzig_zig a, h, unzig_zig]
def b8 (n : Nat) : UInt8 := UInt8.ofNat n
theorem b8_toNat {n : Nat} (h : n < 256) : (b8 n).toNat = n := by
  simp [b8, UInt8.toNat_ofNat']; omega
theorem b8_self (x : UInt8) : b8 x.toNat = x := by simp [b8]
def varB (u : Nat) : List UInt8 := if h : u < 128 then [b8 u] else b8 (u % 128 + 128) :: varB (u / 128)
termination_by u
decreasing_by omega
theorem varB_lt {u : Nat} (h : u < 128) : varB u = [b8 u] := by rw [varB, dif_pos h]
theorem varB_ge {u : Nat} (h : ¬ u < 128) : varB u = b8 (u % 128 + 128) :: varB (u / 128) := by rw [varB, dif_neg h]
def numB (n : Int) : List UInt8 := varB (zig n)
def txtB (s : ByteArray) : List UInt8 := b8 s.size :: s.data.toList
def headB (n t : Nat) : UInt8 := b8 (if n = 16 then 240 + t else n + 16 * t)
def bodB (r : Rec) : List UInt8 := r.nums.flatMap numB ++ r.texts.flatMap txtB
def encB (r : Rec) : List UInt8 := b8 r.kind.toNat :: headB r.nums.length r.texts.length :: bodB r

/-- A number from a place on: k bytes of it have been read, which make u. -/
def rdN (k u : Nat) : List UInt8 → Option (Nat × List UInt8)
  | [] => none
  | x :: l => if (k = 9 ∧ 1 < x.toNat) ∨ (0 < k ∧ x.toNat = 0) then none else
    if x.toNat < 128 then some (u + x.toNat % 128 * 128 ^ k, l) else rdN (k + 1) (u + x.toNat % 128 * 128 ^ k) l
def rdNs : Nat → List UInt8 → Option (List Int × List UInt8)
  | 0, l => some ([], l)
  | n + 1, l => match rdN 0 0 l with
    | none => none
    | some (u, l1) => match rdNs n l1 with
      | none => none
      | some (ns, l2) => some (unzig u :: ns, l2)
def rdT : List UInt8 → Option (ByteArray × List UInt8)
  | [] => none
  | x :: l => if 200 < x.toNat ∨ l.length < x.toNat then none else some (⟨(l.take x.toNat).toArray⟩, l.drop x.toNat)
def rdTs : Nat → List UInt8 → Option (List ByteArray × List UInt8)
  | 0, l => some ([], l)
  | n + 1, l => match rdT l with
    | none => none
    | some (s, l1) => match rdTs n l1 with
      | none => none
      | some (ss, l2) => some (s :: ss, l2)
def hN (h : Nat) : Nat := if 240 ≤ h then 16 else h % 16
def hT (h : Nat) : Nat := if 240 ≤ h then h - 240 else h / 16
def decB : List UInt8 → Option Rec
  | a :: h :: l => if 4 < hT h.toNat then none else match rdNs (hN h.toNat) l with
    | none => none
    | some (ns, l1) => match rdTs (hT h.toNat) l1 with
      | none => none
      | some (ts, l2) => if l2 = [] then some ⟨a.toNat, ns, ts⟩ else none
  | _ => none

theorem pow_succ' (k : Nat) : 128 ^ (k + 1) = 128 ^ k * 128 := Nat.pow_succ ..
/-- What is written is read. -/
theorem rdN_varB (rest : List UInt8) : ∀ (v k u : Nat), (k = 0 ∨ 0 < v) → v * 128 ^ k < 18446744073709551616 → k ≤ 9 → rdN k u (varB v ++ rest) = some (u + v * 128 ^ k, rest) := by
  intro v
  induction v using Nat.strongRecOn with
  | _ v ih =>
  intro k u h0 hv hk
  by_cases h : v < 128
  · rw [varB_lt h]
    simp only [List.cons_append, List.nil_append, rdN]
    rw [b8_toNat (by omega)]
    have h9 : ¬ ((k = 9 ∧ 1 < v) ∨ (0 < k ∧ v = 0)) := by
      rintro (⟨rfl, h1⟩ | ⟨h1, h2⟩)
      · have : 2 * 128 ^ 9 ≤ v * 128 ^ 9 := Nat.mul_le_mul_right _ h1
        omega
      · omega
    rw [if_neg h9, if_pos h, Nat.mod_eq_of_lt h]
  · have hk9 : k < 9 := by
      rcases Nat.lt_or_ge k 9 with h1 | h1
      · exact h1
      · obtain rfl : k = 9 := by omega
        have : 128 * 128 ^ 9 ≤ v * 128 ^ 9 := Nat.mul_le_mul_right _ (by omega)
        omega
    rw [varB_ge h]
    simp only [List.cons_append, rdN]
    rw [b8_toNat (by omega)]
    rw [if_neg (by omega), if_neg (by omega), show (v % 128 + 128) % 128 = v % 128 by omega, ih (v / 128) (by omega) (k + 1) _ (by omega) ?_ (by omega)]
    · congr 2
      rw [pow_succ', ← Nat.mul_assoc, Nat.mul_comm (v / 128) (128 ^ k), Nat.mul_assoc, Nat.add_assoc]
      congr 1
      rw [Nat.mul_comm (v % 128), ← Nat.mul_add, Nat.mul_comm v]
      congr 1
      omega
    · rw [pow_succ', Nat.mul_comm (128 ^ k), ← Nat.mul_assoc]
      refine Nat.lt_of_le_of_lt (Nat.mul_le_mul_right _ ?_) hv
      omega
/-- What is read is what was written. -/
theorem rdN_some : ∀ (l : List UInt8) (k u v : Nat) (rest : List UInt8), rdN k u l = some (v, rest) → k ≤ 9 → u < 128 ^ k → ∃ w, v = u + w * 128 ^ k ∧ l = varB w ++ rest ∧ (k = 0 ∨ 0 < w) ∧ v < 18446744073709551616
  | [], k, u, v, rest, h, _, _ => by simp [rdN] at h
  | x :: l, k, u, v, rest, h, hk, hu => by
    simp only [rdN] at h
    have hx := x.toNat_lt
    split at h
    · cases h
    · rename_i h9
      split at h
      · rename_i hlt
        simp only [Option.some.injEq, Prod.mk.injEq] at h
        obtain ⟨rfl, rfl⟩ := h
        refine ⟨x.toNat, by rw [Nat.mod_eq_of_lt hlt], ?_, by omega, ?_⟩
        · rw [varB_lt hlt, b8_self]; rfl
        · rw [Nat.mod_eq_of_lt hlt]
          rcases Nat.lt_or_ge k 9 with h1 | h1
          · have hm : 128 ^ k ≤ 128 ^ 8 := Nat.pow_le_pow_right (by decide) (by omega)
            have h2 : x.toNat * 128 ^ k ≤ 127 * 128 ^ k := Nat.mul_le_mul_right _ (by omega)
            omega
          · obtain rfl : k = 9 := by omega
            have h2 : x.toNat * 128 ^ 9 ≤ 1 * 128 ^ 9 := Nat.mul_le_mul_right _ (by omega)
            omega
      · rename_i hge
        have hk9 : k < 9 := by omega
        have hb : u + x.toNat % 128 * 128 ^ k < 128 ^ (k + 1) := by
          rw [pow_succ']
          have h2 : x.toNat % 128 * 128 ^ k ≤ 127 * 128 ^ k := Nat.mul_le_mul_right _ (by omega)
          omega
        obtain ⟨w, hv, hl, hw, hv2⟩ := rdN_some l (k + 1) _ v rest h (by omega) hb
        refine ⟨x.toNat % 128 + 128 * w, ?_, ?_, .inr (by omega), hv2⟩
        · rw [hv, pow_succ', Nat.add_mul, Nat.add_assoc]
          congr 2
          rw [Nat.mul_comm 128 w, Nat.mul_assoc, Nat.mul_comm 128]
        · rw [varB_ge (by omega), hl, show (x.toNat % 128 + 128 * w) / 128 = w by omega, show (x.toNat % 128 + 128 * w) % 128 + 128 = x.toNat by omega, b8_self]
          rfl
theorem rdN_none_of {l : List UInt8} (h : ∀ u rest, u < 18446744073709551616 → l ≠ varB u ++ rest) : rdN 0 0 l = none := by
  cases hr : rdN 0 0 l with
  | none => rfl
  | some p =>
    obtain ⟨v, rest⟩ := p
    obtain ⟨w, hv, hl, _, hv2⟩ := rdN_some l 0 0 v rest hr (by decide) (by decide)
    rw [Nat.pow_zero, Nat.mul_one, Nat.zero_add] at hv
    subst hv
    exact absurd hl (h _ _ hv2)
theorem rdNs_enc (rest : List UInt8) : ∀ ns : List Int, (∀ n ∈ ns, i64 n) → rdNs ns.length (ns.flatMap numB ++ rest) = some (ns, rest)
  | [], _ => rfl
  | n :: ns, h => by
    have h1 : rdN 0 0 (numB n ++ (ns.flatMap numB ++ rest)) = some (zig n, ns.flatMap numB ++ rest) := by
      have := rdN_varB (ns.flatMap numB ++ rest) (zig n) 0 0 (.inl rfl) (by have := zig_lt (h n (List.mem_cons_self ..)); omega) (by decide)
      simpa [numB] using this
    rw [List.flatMap_cons, List.append_assoc]
    simp only [List.length_cons, rdNs]
    rw [h1]
    simp only [rdNs_enc rest ns (fun m hm => h m (List.mem_cons_of_mem _ hm)), unzig_zig]
theorem rdNs_some : ∀ (n : Nat) (l : List UInt8) (ns : List Int) (rest : List UInt8), rdNs n l = some (ns, rest) → ns.length = n ∧ l = ns.flatMap numB ++ rest ∧ ∀ m ∈ ns, i64 m
  | 0, l, ns, rest, h => by
    simp only [rdNs, Option.some.injEq, Prod.mk.injEq] at h
    obtain ⟨rfl, rfl⟩ := h
    exact ⟨rfl, rfl, fun m hm => by cases hm⟩
  | n + 1, l, ns, rest, h => by
    simp only [rdNs] at h
    split at h
    · cases h
    · rename_i u l1 hu
      split at h
      · cases h
      · rename_i ms l2 hm
        simp only [Option.some.injEq, Prod.mk.injEq] at h
        obtain ⟨rfl, rfl⟩ := h
        obtain ⟨w, hv, hl, _, hv2⟩ := rdN_some l 0 0 u l1 hu (by decide) (by decide)
        rw [Nat.pow_zero, Nat.mul_one, Nat.zero_add] at hv
        subst hv
        obtain ⟨h1, h2, h3⟩ := rdNs_some n l1 ms l2 hm
        refine ⟨by simp [h1], ?_, fun m hm => ?_⟩
        · rw [hl, h2, List.flatMap_cons, numB, zig_unzig, List.append_assoc]
        · rcases List.mem_cons.1 hm with rfl | hm
          · exact unzig_i64 hv2
          · exact h3 m hm
theorem ba_data (s : ByteArray) : (⟨s.data.toList.toArray⟩ : ByteArray) = s := by cases s; simp
theorem rdTs_enc (rest : List UInt8) : ∀ ts : List ByteArray, (∀ s ∈ ts, s.size ≤ 200) → rdTs ts.length (ts.flatMap txtB ++ rest) = some (ts, rest)
  | [], _ => rfl
  | s :: ts, h => by
    have hs := h s (List.mem_cons_self ..)
    have hl : s.data.toList.length = s.size := by rw [Array.length_toList]; rfl
    rw [List.flatMap_cons, List.append_assoc]
    simp only [List.length_cons, rdTs, txtB, List.cons_append, rdT]
    rw [b8_toNat (by omega), if_neg (by rw [List.length_append]; omega), List.take_left' hl, List.drop_left' hl]
    have h2 := rdTs_enc rest ts (fun m hm => h m (List.mem_cons_of_mem _ hm))
    have e : ts.flatMap (fun s => b8 s.size :: s.data.toList) = ts.flatMap txtB := rfl
    simp only [e, h2, ba_data]
theorem rdTs_some : ∀ (n : Nat) (l : List UInt8) (ts : List ByteArray) (rest : List UInt8), rdTs n l = some (ts, rest) → ts.length = n ∧ l = ts.flatMap txtB ++ rest ∧ ∀ s ∈ ts, s.size ≤ 200
  | 0, l, ts, rest, h => by
    simp only [rdTs, Option.some.injEq, Prod.mk.injEq] at h
    obtain ⟨rfl, rfl⟩ := h
    exact ⟨rfl, rfl, fun m hm => by cases hm⟩
  | n + 1, l, ts, rest, h => by
    simp only [rdTs] at h
    split at h
    · cases h
    · rename_i s l1 hs
      split at h
      · cases h
      · rename_i ss l2 hm
        simp only [Option.some.injEq, Prod.mk.injEq] at h
        obtain ⟨rfl, rfl⟩ := h
        obtain ⟨h1, h2, h3⟩ := rdTs_some n l1 ss l2 hm
        cases l with
        | nil => simp [rdT] at hs
        | cons x l =>
          simp only [rdT] at hs
          split at hs
          · cases hs
          · rename_i hx
            simp only [Option.some.injEq, Prod.mk.injEq] at hs
            obtain ⟨rfl, rfl⟩ := hs
            have hsz : (⟨(l.take x.toNat).toArray⟩ : ByteArray).size = x.toNat := by simp [ByteArray.size]; omega
            refine ⟨by simp [h1], ?_, fun m hm => ?_⟩
            · rw [List.flatMap_cons, txtB, hsz, b8_self, List.append_assoc, List.cons_append, ← h2]
              simp
            · rcases List.mem_cons.1 hm with rfl | hm
              · rw [hsz]; omega
              · exact h3 m hm
theorem head_nat {n t : Nat} (hn : n ≤ 16) (ht : t ≤ 4) : hN (headB n t).toNat = n ∧ hT (headB n t).toNat = t := by
  unfold headB hN hT
  rw [b8_toNat (by split <;> omega)]
  split <;> split <;> omega
/-- A record that may be is read back. -/
theorem dec_enc {r : Rec} (h : mayB r = true) (hn : ∀ n ∈ r.nums, i64 n) : decB (encB r) = some r := by
  obtain ⟨⟨h1, h2, h3, h4⟩, h5⟩ := (mayB_iff r).1 h
  obtain ⟨hh1, hh2⟩ := head_nat h3 h4
  unfold encB decB
  simp only [hh1, hh2]
  rw [if_neg (by omega)]
  unfold bodB
  rw [rdNs_enc _ r.nums hn]
  have := rdTs_enc [] r.texts h5
  rw [List.append_nil] at this
  simp only [this, if_true]
  rw [b8_toNat (by omega)]
  congr
  omega
/-- What is read as a record is its bytes. -/
theorem enc_dec {l : List UInt8} {r : Rec} (h : decB l = some r) : mayB r = true ∧ encB r = l ∧ ∀ n ∈ r.nums, i64 n := by
  unfold decB at h
  split at h
  · rename_i a hb l
    split at h
    · cases h
    · rename_i h4
      split at h
      · cases h
      · rename_i ns l1 hns
        split at h
        · cases h
        · rename_i ts l2 hts
          split at h
          · rename_i hl2
            simp only [Option.some.injEq] at h
            subst h
            subst hl2
            obtain ⟨h1, h2, h3⟩ := rdNs_some _ _ _ _ hns
            obtain ⟨g1, g2, g3⟩ := rdTs_some _ _ _ _ hts
            have ha := a.toNat_lt
            have hbl := hb.toNat_lt
            refine ⟨(mayB_iff _).2 ⟨⟨by simp, by simp; omega, ?_, ?_⟩, g3⟩, ?_, h3⟩
            · simp only [h1]; unfold hN; split <;> omega
            · simp only [g1]; omega
            · unfold encB bodB
              simp only [h1, g1]
              rw [h2, g2, List.append_nil]
              congr 1
              · simp [b8_self]
              · congr 1
                unfold headB
                rw [show (if hN hb.toNat = 16 then 240 + hT hb.toNat else hN hb.toNat + 16 * hT hb.toNat) = hb.toNat by unfold hN hT; split <;> split <;> omega, b8_self]
          · cases h
  · cases h
theorem dec_iff {l : List UInt8} {r : Rec} : decB l = some r ↔ mayB r = true ∧ encB r = l ∧ ∀ n ∈ r.nums, i64 n :=
  ⟨enc_dec, fun ⟨h1, h2, h3⟩ => by rw [← h2]; exact dec_enc h1 h3⟩
end Go.Proofs.Ytodjmeodcmbdoaa
