/- The walks of package code's reader. Conditions: sizes. -/
import Derived.Test.YtodjmeodcmbdoaaCodF
import Derived.Deep.CutBlock
import Derived.WalkLawsBesides
set_option linter.unusedVariables false
set_option linter.unusedSimpArgs false
namespace Go.Proofs.Ytodjmeodcmbdoaa
open Go.RowKit
abbrev tRd : TypeId := 83
abbrev badC : List PanicEntry := [{ v := .iface 80 (.agg #[]), recovered := false }]
/-- A reader: its block, and the bytes that it hasn't taken. -/
structure Rdr (W : World) (g B : Nat) (l : List UInt8) (A : Option Addr) (c : Nat) : Prop where
  blk : Blk W g #[.slice A l.length c] tRd
  rd : Rd W A (eB.fl l)
  cap : l.length ≤ c
  nil : A = none → c = 0
  at_ : l ≠ [] → ∃ o, A = some ⟨B, o, none⟩
  ne : B ≠ g
  big : c ≤ 9223372036854775807
theorem Rdr.upd {S : Nat → Prop} {W W' : World} {g B : Nat} {l : List UInt8} {A : Option Addr} {c : Nat} (h : Rdr W g B l A c) (u : Upd S W W') (h1 : ¬ S g) (h2 : ¬ S B) : Rdr W' g B l A c := by
  refine ⟨h.blk.upd u h1, ?_, h.cap, h.nil, h.at_, h.ne, h.big⟩
  by_cases hl : l = []
  · subst hl; exact Rd.nil _ _
  · obtain ⟨o, rfl⟩ := h.at_ hl
    exact h.rd.upd u (fun a e => by cases e; exact h2)
theorem take_no (g B : Nat) (l : List UInt8) (A : Option Addr) (c n : Nat) (W : World) (h : Rdr W g B l A c) (hn : l.length < n) :
    Calls Try.prog 50 #[.pointer (some ⟨g, 0, none⟩), .int .i64 (n : Int)] W fun e W' => e = .panicked badC ∧ W = W' := by
  have z0 : W.cell? ⟨g, 0, none⟩ = some (.slice A l.length c) := h.blk.cell 0
  have h1 : decide ((l.length : Int) < (n : Int)) = true := by simp; omega
  have h2 : (l.length : Int) < (n : Int) := by omega
  clear h hn
  go_enter Try.func50, Try.ntmps50
  go_wp2
  exact ⟨rfl, rfl, rfl⟩
theorem take_yes (g B : Nat) (l : List UInt8) (A : Option Addr) (c n : Nat) (W : World) (h : Rdr W g B l A c) (hn : n ≤ l.length) :
    Calls Try.prog 50 #[.pointer (some ⟨g, 0, none⟩), .int .i64 (n : Int)] W fun e W' => e = .returned (.slice A n c) ∧ ∃ A' c', Rdr W' g B (l.drop n) A' c' ∧ Upd (fun k => k = g) W W' := by
  have z0 : W.cell? ⟨g, 0, none⟩ = some (.slice A l.length c) := h.blk.cell 0
  have fz := h.blk.frozen 0
  have h1 : decide ((l.length : Int) < (n : Int)) = false := by simp; omega
  have h2 : (n : Int) ≤ (l.length : Int) := by omega
  have h3 : (0 : Int) ≤ (n : Int) := by omega
  have h4 := h.cap
  have h5 : (n : Int) ≤ (c : Int) := by omega
  have hR : Rd W (if c = n then A else Option.map (fun x => x.add n) A) (eB.fl (l.drop n)) := by
    split
    · rw [List.drop_of_length_le (by omega)]
      exact Rd.nil _ _
    · rw [Enc.drop]
      have := h.rd.drop (n * eB.sz)
      rwa [show n * eB.sz = n from Nat.mul_one n] at this ⊢
  obtain ⟨A2, hA2⟩ : ∃ A2, (if c = n then A else Option.map (fun x => x.add n) A) = A2 := ⟨_, rfl⟩
  have hz : A2 = none → c - n = 0 := by
    intro e
    rw [e] at hA2
    have : A = none := by
      split at hA2
      · exact hA2
      · simpa using hA2
    have := h.nil this
    omega
  have hat : l.drop n ≠ [] → ∃ o, A2 = some ⟨B, o, none⟩ := by
    intro e
    have hlt : n < l.length := by
      rcases Nat.lt_or_ge n l.length with h | h
      · exact h
      · exact absurd (List.drop_of_length_le h) e
    obtain ⟨o, ho⟩ := h.at_ (by intro e2; rw [e2] at hlt; simp at hlt)
    rw [if_neg (by omega), ho] at hA2
    refine ⟨o + n, ?_⟩
    rw [← hA2]
    simp only [Option.map_some, Addr.add]
    split <;> simp_all
  rw [hA2] at hR
  have HR := Lib.hid hR; have HZ := Lib.hid hz; have HAT := Lib.hid hat; have HNE := Lib.hid h.ne; have HB := Lib.hid h.blk; have HBG := Lib.hid h.big
  clear hR hz hat h hn
  go_enter Try.func50, Try.ntmps50
  go_wp2
  go_ret
  have hu : Upd (fun k => k = g) W (W.setCell ⟨g, 0, none⟩ (.slice A2 (l.length - n) (c - n))) := Upd.setCell (S := fun k => k = g) (p := ⟨g, 0, none⟩) (Upd.refl _ W) (.inr rfl) _
  refine ⟨rfl, A2, c - n, ⟨?_, ?_, ?_, HZ.out, HAT.out, HNE.out, by have := HBG.out; omega⟩, hu⟩
  · rw [List.length_drop]
    exact HB.out.set 0 _
  · by_cases hl : l.drop n = []
    · rw [hl]; exact Rd.nil _ _
    · obtain ⟨o, rfl⟩ := HAT.out hl
      exact HR.out.upd hu (fun a e => by cases e; exact HNE.out)
  · rw [List.length_drop]; omega
theorem or_step {k u x s : Nat} (hk : k ≤ 9) (hu : u < 128 ^ k) (hx : x < 256) (h9 : k = 9 → x ≤ 1) (hs : s = 7 * k) :
    bits .or .u64 (u : Int) (IntKind.u64.wrap (IntKind.u64.wrap (bits .and .u8 (x : Int) 127) * 2 ^ s)) = ((u + x % 128 * 128 ^ k : Nat) : Int) ∧ u + x % 128 * 128 ^ k < 18446744073709551616 := by
  subst hs
  have h2 : 2 ^ (7 * k) = 128 ^ k := by rw [Nat.pow_mul]
  have hk2 : 128 ^ k ≤ 9223372036854775808 := by
    have := Nat.pow_le_pow_right (show 0 < 128 by decide) hk
    exact Nat.le_trans this (by decide)
  have hd : x % 128 * 128 ^ k ≤ 9223372036854775808 := by
    by_cases h : k = 9
    · have := h9 h
      have : x % 128 * 128 ^ k ≤ 1 * 128 ^ k := Nat.mul_le_mul_right _ (by omega)
      omega
    · have h8 : 128 ^ k ≤ 128 ^ 8 := Nat.pow_le_pow_right (by decide) (by omega)
      have : x % 128 * 128 ^ k ≤ 127 * 128 ^ k := Nat.mul_le_mul_right _ (by omega)
      omega
  have ha : bits .and .u8 (x : Int) 127 = ((x % 128 : Nat) : Int) := and127 ⟨x, hx⟩
  rw [ha, IntKind.wrap_u64, IntKind.wrap_u64]
  have e1 : ((x % 128 : Nat) : Int) % 18446744073709551616 * 2 ^ (7 * k) = ((x % 128 * 128 ^ k : Nat) : Int) := by
    rw [← h2]
    push_cast
    rw [Int.emod_eq_of_lt (by omega) (by omega)]
  rw [e1]
  have e2 : ((x % 128 * 128 ^ k : Nat) : Int) % 18446744073709551616 = ((x % 128 * 128 ^ k : Nat) : Int) := Int.emod_eq_of_lt (by omega) (by omega)
  rw [e2, bits_or_u64_nat _ _ (by omega) (by omega)]
  refine ⟨?_, by omega⟩
  congr 1
  have := Nat.two_pow_add_eq_or_of_lt (i := 7 * k) (b := u) (by rw [h2]; exact hu) (x % 128)
  rw [h2, Nat.mul_comm] at this
  rw [Nat.or_comm, ← this, Nat.add_comm]
theorem xor_i64_0 {a : Nat} (h : a < 9223372036854775808) : bits .xor .i64 (a : Int) 0 = a := by
  have h1 : (BitVec.ofInt 64 (a : Int)).toNat = a := by
    rw [BitVec.ofInt_natCast, BitVec.toNat_ofNat]; exact Nat.mod_eq_of_lt (by omega)
  show IntKind.i64.wrap ((BitVec.ofInt 64 (a : Int) ^^^ BitVec.ofInt 64 0).toNat : Int) = _
  rw [BitVec.toNat_xor, h1, show (BitVec.ofInt 64 0).toNat = 0 from rfl, Nat.xor_zero]
  exact IntWalk.i64_in _ (by omega)
theorem xor_i64_m1 {a : Nat} (h : a < 9223372036854775808) : bits .xor .i64 (a : Int) (-1) = -(a : Int) - 1 := by
  have h1 : (BitVec.ofInt 64 (a : Int)).toNat = a := by
    rw [BitVec.ofInt_natCast, BitVec.toNat_ofNat]; exact Nat.mod_eq_of_lt (by omega)
  show IntKind.i64.wrap ((BitVec.ofInt 64 (a : Int) ^^^ BitVec.ofInt 64 (-1)).toNat : Int) = _
  rw [BitVec.toNat_xor, h1, show (BitVec.ofInt 64 (-1)).toNat = 18446744073709551615 from rfl, xor_ones (by omega)]
  simp [IntKind.wrap, IntKind.bits, IntKind.signed]
  omega
theorem unzig_bits {v : Nat} (h : v < 18446744073709551616) : bits .xor .i64 ((v : Int) / 2) (wrap64 (-wrap64 (bits .and .u64 (v : Int) 1))) = unzig v := by
  have h1 : bits .and .u64 (v : Int) 1 = ((v % 2 : Nat) : Int) := by
    have := bits_and_u64_nat v 1 h (by decide)
    rw [Nat.and_one_is_mod] at this
    exact this
  rw [h1, show (v : Int) / 2 = ((v / 2 : Nat) : Int) by omega]
  unfold unzig
  rcases Nat.mod_two_eq_zero_or_one v with h0 | h0
  · rw [h0, show wrap64 (-wrap64 ((0 : Nat) : Int)) = 0 by unfold wrap64; omega, xor_i64_0 (by omega), if_neg (by decide)]
  · rw [h0, show wrap64 (-wrap64 ((1 : Nat) : Int)) = -1 by unfold wrap64; omega, xor_i64_m1 (by omega), if_pos rfl]
def NumPost (r : Option (Nat × List UInt8)) (g B : Nat) (W : World) (e : Ending) (W' : World) : Prop := match r with
  | some (u, l) => e = .returned (.int .i64 (unzig u)) ∧ ∃ A c, Rdr W' g B l A c ∧ Upd (fun k => k = g) W W'
  | none => e = .panicked badC ∧ Upd (fun k => k = g) W W'
set_option maxRecDepth 100000 in
theorem rnum_any (g B : Nat) (l : List UInt8) (A : Option Addr) (c : Nat) (W : World) (h : Rdr W g B l A c) :
    Calls Try.prog 51 #[.pointer (some ⟨g, 0, none⟩)] W (NumPost (rdN 0 0 l) g B W) := by
  have H := Lib.hid h
  clear h
  go_enter Try.func51, Try.ntmps51
  go_wp2_with fail
  go_loopg [3, 4] 9 (fun gk s3 s4 wr => ∃ (k s u : Nat) (l' : List UInt8) (A' : Option Addr) (c' : Nat), s3 = .int .u64 (u : Int) ∧ s4 = .int .i64 (s : Int) ∧ s = 7 * k ∧ gk = 9 - k ∧ k ≤ 9 ∧ u < 128 ^ k ∧ rdN k u l' = rdN 0 0 l ∧ Rdr wr g B l' A' c' ∧ Upd (fun k => k = g) W wr)
  case atStart => exact ⟨0, 0, 0, l, A, c, rfl, rfl, rfl, rfl, by decide, by decide, rfl, H.out, Upd.refl _ _⟩
  case round =>
  obtain ⟨k, s, u, l', A', c', rfl, rfl, hs, hgk, hk, hu, he, hr, hup⟩ := hrel
  have HE := Lib.hid he; have HR := Lib.hid hr; have HU := Lib.hid hup
  clear he hr hup H
  cases l' with
  | nil =>
    have HP := Lib.hid (show rdN 0 0 l = none by rw [← HE.out]; rfl)
    clear hu hs hgk hk
    go_wp2_with fail
    refine (take_no g B [] A' c' 1 wr HR.out (by decide)).mono ?_
    rintro e w2 ⟨rfl, rfl⟩
    go_wp2
    refine ⟨rfl, ?_⟩
    rw [HP.out]
    exact ⟨rfl, HU.out⟩
  | cons x l' =>
    have hx := x.toNat_lt
    have hs63 : s ≤ 63 := by omega
    obtain ⟨o0, hA0⟩ := HR.out.at_ (by simp)
    subst hA0
    obtain ⟨b, o, hA, u0⟩ := HR.out.rd.byt 0 x rfl
    simp only [Option.some.injEq, Addr.mk.injEq, and_true] at hA
    obtain ⟨rfl, rfl⟩ := hA
    simp only [Nat.add_zero] at u0
    have hblk := HR.out.ne
    obtain ⟨X, hX⟩ : ∃ X, x.toNat = X := ⟨_, rfl⟩
    have HX := Lib.hid hX
    rw [hX] at u0 hx
    clear hX
    go_wp2_with fail
    refine (take_yes g B (x :: l') _ c' 1 wr HR.out (by simp)).mono ?_
    rintro e w2 ⟨rfl, A2, c2, hr2, hu2⟩
    have u1 : w2.cell? ⟨B, o0, none⟩ = some (.int .u8 (X : Int)) := hu2.cell u0 hblk
    have hc1 := HR.out.cap
    have HR2 := Lib.hid hr2
    have HU2 := Lib.hid hu2
    clear hr2 hu2 u0 hblk
    have HK := Lib.hid hs; have HKK := Lib.hid (And.intro hk hu); have HGK := Lib.hid hgk
    have e1 : decide ((1 : Int) < (X : Int)) = decide (1 < X) := by rw [decide_eq_decide]; omega
    have e2 : decide ((0 : Int) < (s : Int)) = decide (0 < s) := by simp
    have e3 : ((X : Int) == 0) = (X == 0) := by rw [Bool.eq_iff_iff]; simp
    have e4 : ((s : Int) == 63) = (s == 63) := by rw [Bool.eq_iff_iff]; simp; omega
    by_cases hbad : (k = 9 ∧ 1 < X) ∨ (0 < k ∧ X = 0)
    · have HBAD := Lib.hid hbad
      clear hs hk hu hgk hbad
      cases f1 : (s == 63) <;> cases f2 : decide (1 < X) <;> cases f3 : decide (0 < s) <;> cases f4 : (X == 0)
      all_goals
        first
          | (exfalso; have h1 := HBAD.out; have h2 := HK.out; have h3 := HKK.out.1; simp at f1 f2 f3 f4; omega)
          | (rw [f2] at e1; rw [f3] at e2; rw [f4] at e3; rw [f1] at e4)
      all_goals
        go_wp2
        refine ⟨rfl, ?_⟩
        have HP : rdN 0 0 l = none := by
          rw [← HE.out]
          simp only [rdN]
          rw [HX.out, if_pos (HBAD.out)]
        rw [HP]
        exact ⟨rfl, HU.out.trans HU2.out⟩
    · obtain ⟨hor, hv64⟩ := or_step (s := s) hk hu hx (by omega) hs
      obtain ⟨v, hv⟩ : ∃ v, u + X % 128 * 128 ^ k = v := ⟨_, rfl⟩
      rw [hv] at hor hv64
      have HV := Lib.hid hv
      have HBAD := Lib.hid hbad
      clear hv hs hk hu hgk hbad
      have v1 : (v : Int) < 18446744073709551616 := by omega
      have hq : (v : Int) / 2 ≤ 9223372036854775807 := by omega
      cases f1 : (s == 63) <;> cases f2 : decide (1 < X) <;> cases f3 : decide (0 < s) <;> cases f4 : (X == 0)
      all_goals
        first
          | (exfalso; have h1 := HBAD.out; have h2 := HK.out; have h3 := HKK.out.1; simp at f1 f2 f3 f4; omega)
          | (rw [f2] at e1; rw [f3] at e2; rw [f4] at e3; rw [f1] at e4)
      all_goals
        by_cases hlt : X < 128
        · have hlt' : (X : Int) < 128 := by omega
          go_wp2
          go_ret
          have HP : rdN 0 0 l = some (v, l') := by
            rw [← HE.out]
            simp only [rdN]
            rw [HX.out, if_neg (HBAD.out), if_pos hlt, HV.out]
          rw [HP]
          exact ⟨ret_int (unzig_bits hv64), A2, c2, HR2.out, HU.out.trans HU2.out⟩
        · have hlt' : ¬ (X : Int) < 128 := by omega
          have hlt2 : decide ((X : Int) < 128) = false := by simp; omega
          have hks := HK.out
          have hk9 : k < 9 := by
            have h1 := HBAD.out
            have h2 := HKK.out.1
            omega
          have HS7 := Lib.hid (show s + 7 = 7 * (k + 1) by omega)
          have HV2 := Lib.hid (show v < 128 ^ (k + 1) by
            rw [← HV.out, pow_succ']
            have h2 : X % 128 * 128 ^ k ≤ 127 * 128 ^ k := Nat.mul_le_mul_right _ (by omega)
            have := HKK.out.2
            omega)
          have HK9 := Lib.hid hk9
          clear hks hk9
          go_wp2_with fail
          go_roundg (9 - (k + 1))
          case measure => have := HGK.out; have := HK9.out; omega
          case rel =>
            refine ⟨k + 1, s + 7, v, l', A2, c2, rfl, by push_cast; rfl, HS7.out, rfl, by have := HK9.out; omega, HV2.out, ?_, HR2.out, HU.out.trans HU2.out⟩
            rw [← HE.out]
            simp only [rdN]
            rw [HX.out, if_neg (HBAD.out), if_neg hlt, HV.out]
end Go.Proofs.Ytodjmeodcmbdoaa
