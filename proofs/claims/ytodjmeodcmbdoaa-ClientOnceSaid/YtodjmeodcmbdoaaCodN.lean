/- The walk of the document's reading of a number. Conditions: sizes. -/
import Derived.Test.YtodjmeodcmbdoaaCodB
set_option linter.unusedVariables false
set_option linter.unusedSimpArgs false
namespace Go.Proofs.Ytodjmeodcmbdoaa
open Go.RowKit
def numV (r : Option (Nat × List UInt8)) (n : Nat) : Value := match r with
  | none => .tuple #[.int .i64 0, .int .i64 0, .bool false]
  | some (u, l) => .tuple #[.int .i64 (unzig u), .int .i64 ((n - l.length : Nat) : Int), .bool true]
theorem step_bound {k u x : Nat} (hk : k ≤ 9) (hu : u < 128 ^ k) (hx : x < 256) (h9 : k = 9 → x ≤ 1) : u + x % 128 * 128 ^ k < 18446744073709551616 ∧ x % 128 * 128 ^ k < 18446744073709551616 ∧ 128 ^ k ≤ 9223372036854775808 := by
  have hk2 : 128 ^ k ≤ 9223372036854775808 := by
    have := Nat.pow_le_pow_right (show 0 < 128 by decide) hk
    exact Nat.le_trans this (by decide)
  have hd : x % 128 * 128 ^ k ≤ 9223372036854775808 := by
    by_cases h : k = 9
    · have := h9 h
      have : x % 128 * 128 ^ k ≤ 1 * 128 ^ k := Nat.mul_le_mul_right _ (by omega)
      omega
    · have h8 : 128 ^ k ≤ 128 ^ 8 := Nat.pow_le_pow_right (by decide) (by omega)
      have : x % 128 * 128 ^ k ≤ 127 * 128 ^ k := Nat.mul_le_mul_right _ (by omega)
      omega
  omega
set_option maxRecDepth 100000 in
set_option maxHeartbeats 4000000 in
theorem refnum_any (l : List UInt8) (A : Option Addr) (n c i : Nat) (w : World) (hl : l.length = n) (hr : Rd w A (eB.fl l)) (hn : n ≤ 65536) (hi : i ≤ n) :
    Calls Try.prog 44 #[.slice A n c, .int .i64 (i : Int)] w fun e w' => e = .returned (numV (rdN 0 0 (l.drop i)) n) ∧ w = w' := by
  have HL := Lib.hid hl; have HR := Lib.hid hr
  clear hl hr
  go_enter Try.func44, Try.ntmps44
  go_wp2_with fail
  go_loopg [1, 7, 8, 9, 10] 9 (fun gk s1 s7 s8 s9 s10 wr => ∃ (k u M j : Nat) (v10 : Value), v10 = s10 ∧ s1 = .int .i64 (j : Int) ∧ s7 = .int .u64 (u : Int) ∧ s8 = .int .u64 (M : Int) ∧ s9 = .int .i64 (k : Int) ∧ j = i + k ∧ gk = 9 - k ∧ k ≤ 9 ∧ u < 128 ^ k ∧ M = 128 ^ k ∧ j ≤ n ∧ rdN k u (l.drop j) = rdN 0 0 (l.drop i) ∧ wr = w)
  case atStart => exact ⟨0, 0, 1, i, _, rfl, rfl, rfl, rfl, rfl, rfl, rfl, by decide, by decide, rfl, hi, rfl, rfl⟩
  case round =>
  obtain ⟨k, u, M, j, v10, rfl, rfl, rfl, rfl, rfl, hj, hgk, hk, hu, hM, hjn, he, rfl⟩ := hrel
  have HE := Lib.hid he; have HJ := Lib.hid hj; have HM := Lib.hid hM; have HGK := Lib.hid hgk
  clear he hj hgk
  have k10 : (k : Int) < 10 := by omega
  by_cases hjl : j < n
  rotate_left
  · have e1 : (n : Int) ≤ (j : Int) := by omega
    have HP := Lib.hid (show rdN 0 0 (l.drop i) = none by rw [← HE.out, List.drop_of_length_le (by rw [HL.out]; omega)]; rfl)
    clear hM hu
    go_wp2_with fail
    refine bodyPost_ret (results_tmp3 rfl _ _ _) rfl ?_
    rw [HP.out]
    exact ⟨rfl, rfl⟩
  have e1 : ¬ (n : Int) ≤ (j : Int) := by omega
  have j0 : (0 : Int) ≤ (j : Int) := by omega
  have j1 : (j : Int) < (n : Int) := by omega
  obtain ⟨x, hx⟩ : ∃ x, l[j]'(by rw [HL.out]; exact hjl) = x := ⟨_, rfl⟩
  have hx0 : l[j]? = some x := by rw [← hx]; exact List.getElem?_eq_getElem _
  have HDR := Lib.hid (show l.drop j = x :: l.drop (j + 1) by rw [← hx]; exact List.drop_eq_getElem_cons _)
  obtain ⟨b, o, rfl, u0⟩ := HR.out.byt j x hx0
  have hx8 := x.toNat_lt
  obtain ⟨X, hX⟩ : ∃ X, x.toNat = X := ⟨_, rfl⟩
  have HX := Lib.hid hX
  rw [hX] at u0 hx8
  clear hX hx hx0
  have e2 : decide ((1 : Int) < (X : Int)) = decide (1 < X) := by rw [decide_eq_decide]; omega
  have e3 : decide ((0 : Int) < (k : Int)) = decide (0 < k) := by simp
  have e4 : ((X : Int) == 0) = (X == 0) := by rw [Bool.eq_iff_iff]; simp
  have e5 : ((k : Int) == 9) = (k == 9) := by rw [Bool.eq_iff_iff]; simp; omega
  by_cases hbad : (k = 9 ∧ 1 < X) ∨ (0 < k ∧ X = 0)
  · have HBAD := Lib.hid hbad
    have HP := Lib.hid (show rdN 0 0 (l.drop i) = none by
      rw [← HE.out, HDR.out]
      simp only [rdN]
      rw [HX.out, if_pos hbad])
    clear hbad hM hu
    cases f1 : (k == 9) <;> cases f2 : decide (1 < X) <;> cases f3 : decide (0 < k) <;> cases f4 : (X == 0)
    all_goals
      first
        | (exfalso; have h1 := HBAD.out; simp at f1 f2 f3 f4; omega)
        | (rw [f2] at e2; rw [f3] at e3; rw [f4] at e4; rw [f1] at e5)
    all_goals
      go_wp2_with fail
      refine bodyPost_ret (results_tmp3 rfl _ _ _) rfl ?_
      rw [HP.out]
      exact ⟨rfl, rfl⟩
  · obtain ⟨hv64, hp64, hm63⟩ := step_bound (x := X) hk hu hx8 (by omega)
    rw [← hM] at hv64 hp64 hm63
    obtain ⟨P, hP⟩ : ∃ P, X % 128 * M = P := ⟨_, rfl⟩
    obtain ⟨V, hV⟩ : ∃ V, u + P = V := ⟨_, rfl⟩
    have hPi : (X : Int) % 128 * (M : Int) = (P : Int) := by rw [← hP]; push_cast; rfl
    rw [hP] at hv64 hp64
    have hVi : (u : Int) + (P : Int) = (V : Int) := by omega
    have v64 : (V : Int) < 18446744073709551616 := by omega
    have p64 : (P : Int) < 18446744073709551616 := by omega
    have wP : IntKind.u64.wrap (P : Int) = (P : Int) := IntWalk.u64_in _ (by omega)
    have wV : IntKind.u64.wrap (V : Int) = (V : Int) := IntWalk.u64_in _ (by omega)
    have HV := Lib.hid (show u + X % 128 * 128 ^ k = V by rw [← HM.out, hP, hV])
    have HU := Lib.hid hu; have HBAD := Lib.hid hbad
    clear hbad hM hu hP hV hv64 hp64
    have e6 : ((V : Int) % 2 == 1) = (V % 2 == 1) := by rw [Bool.eq_iff_iff]; simp; omega
    by_cases hlt : X < 128
    · have hlt' : (X : Int) < 128 := by omega
      have HP := Lib.hid (show rdN 0 0 (l.drop i) = some (V, l.drop (j + 1)) by
        rw [← HE.out, HDR.out]
        simp only [rdN]
        rw [HX.out, if_neg HBAD.out, if_pos hlt, HV.out])
      have HRL := Lib.hid (show n - (l.drop (j + 1)).length = j + 1 by rw [List.length_drop, HL.out]; omega)
      have w1 : IntKind.i64.wrap (-((V : Int) / 2)) = -((V : Int) / 2) := IntWalk.i64_in _ (by omega)
      have w2 : IntKind.i64.wrap (-((V : Int) / 2) - 1) = -((V : Int) / 2) - 1 := IntWalk.i64_in _ (by omega)
      have w3 : IntKind.i64.wrap ((V : Int) / 2) = (V : Int) / 2 := IntWalk.i64_in _ (by omega)
      have HUZ := Lib.hid (show unzig V = if V % 2 = 1 then -((V : Int) / 2) - 1 else (V : Int) / 2 by unfold unzig; split <;> omega)
      cases f1 : (k == 9) <;> cases f2 : decide (1 < X) <;> cases f3 : decide (0 < k) <;> cases f4 : (X == 0) <;> cases f5 : (V % 2 == 1)
      all_goals
        first
          | (exfalso; have h1 := HBAD.out; simp at f1 f2 f3 f4; omega)
          | (rw [f2] at e2; rw [f3] at e3; rw [f4] at e4; rw [f1] at e5; rw [f5] at e6)
      all_goals
        go_wp2_with fail
        refine bodyPost_ret (results_tmp3 rfl _ _ _) rfl ?_
        rw [HP.out]
        unfold numV
        simp only
        rw [HRL.out, HUZ.out]
        simp at f5
        simp [f5]
    · have hlt' : ¬ (X : Int) < 128 := by omega
      have hlt2 : decide ((X : Int) < 128) = false := by simp; omega
      have hk9 : k < 9 := by
        have h1 := HBAD.out
        omega
      have hm2 : M ≤ 72057594037927936 := by
        rw [HM.out]
        exact Nat.pow_le_pow_right (by decide) (show k ≤ 8 by omega)
      have wM : IntKind.u64.wrap ((M : Int) * 128) = (M : Int) * 128 := IntWalk.u64_in _ (by omega)
      have HMM := Lib.hid (show M * 128 = 128 ^ (k + 1) by rw [HM.out, pow_succ'])
      have HV2 := Lib.hid (show V < 128 ^ (k + 1) by
        rw [← HV.out, pow_succ']
        have h2 : X % 128 * 128 ^ k ≤ 127 * 128 ^ k := Nat.mul_le_mul_right _ (by omega)
        have := HU.out
        omega)
      have f1 : (k == 9) = false := by simp; omega
      rw [f1] at e5
      cases f3 : decide (0 < k) <;> cases f4 : (X == 0)
      all_goals
        first
          | (exfalso; have h1 := HBAD.out; simp at f3 f4; omega)
          | (rw [f3] at e3; rw [f4] at e4)
      all_goals
        go_wp2_with fail
        go_roundg (9 - (k + 1))
        case measure => have := HGK.out; omega
        case rel =>
          refine ⟨k + 1, V, M * 128, j + 1, _, rfl, by push_cast; rfl, rfl, by push_cast; rfl, by push_cast; rfl, by have := HJ.out; omega, rfl, by omega, HV2.out, HMM.out, by omega, ?_, rfl⟩
          rw [← HE.out, HDR.out]
          simp only [rdN]
          rw [HX.out, if_neg HBAD.out, if_neg hlt, HV.out]
end Go.Proofs.Ytodjmeodcmbdoaa
