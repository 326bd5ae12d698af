/- The walk of the document's Together: it returns what its plain twin (LeaseM) says. Conditions: up to 200 ticks. -/
import Derived.Test.YtppbjcjnheamnaaProg
import Derived.Test.YtppbjcjnheamnaaLib
import Derived.Test.YtppbjcjnheamnaaLeaseM
set_option linter.unusedVariables false
set_option linter.unusedSimpArgs false
namespace Go.Proofs.Ytppbjcjnheamnaa
open Go.RowKit

theorem prod_bd {p x m : Int} (h0 : 0 ≤ p) (h1 : p ≤ 202) (h2 : 0 ≤ x) (h3 : x ≤ 2000) : 0 ≤ p * x ∧ p * x ≤ 404000 :=
  ⟨Int.mul_nonneg h0 h2, by have := Int.mul_le_mul h1 h3 h2 (by omega : (0 : Int) ≤ 202); omega⟩

theorem scan_no {d a b : Int} {t : Bool} {ts : List Bool} (h : fine d (if t then a + 1 else a) (if t then b else b + 1) = false) : scan d (t :: ts) a b = false := by
  simp [scan, h]
theorem scan_on {d a b a' b' : Int} {t : Bool} {ts : List Bool} (ha : (if t then a + 1 else a) = a') (hb : (if t then b else b + 1) = b') (h : fine d a' b' = true) : scan d (t :: ts) a b = scan d ts a' b' := by
  simp [scan, ha, hb, h]

set_option maxHeartbeats 1000000 in
theorem rtog_in (A : Option Addr) (n c : Nat) (d : Int) (xs : List Bool) (w : World) (hn : xs.length = n) (hn2 : n ≤ 200) (hx : Rd w A (xs.map Value.bool)) (h0 : 0 ≤ d) (h1 : d < 1000) :
    Calls Try.prog 10 #[.slice A n c, .int .i64 d] w fun e w' => e = .returned (.bool (scans d xs)) ∧ w = w' := by
  have Hn := Lib.hid hn; clear hn
  have Hx := Lib.hid hx; clear hx
  go_enter Try.func10, Try.ntmps10
  go_wp2
  go_loop [5] (fun i => ∃ (k : Nat), k ≤ n ∧ i = .int .i64 k ∧ Hid (scans d (xs.drop k) = scans d xs)) (fun i => n - (intOf i).toNat)
  case atStart => exact ⟨0, by omega, rfl, rfl⟩
  case round =>
    obtain ⟨k, hk, rfl, HA⟩ := hrel
    by_cases hlt : k < n
    · have hk2 : k < xs.length := by rw [Hn.out]; exact hlt
      have HA2 : (scan d (xs.drop k) 0 0 && scans d (xs.drop (k + 1))) = scans d xs := by
        rw [← HA.out, List.drop_eq_getElem_cons hk2]; rfl
      have HA3 := Lib.hid HA2; clear HA2 HA hk2
      go_wp2
      go_loop [6, 7, 8] (fun a b j => ∃ (m : Nat) (p q : Int), k ≤ m ∧ m ≤ n ∧ j = .int .i64 m ∧ a = .int .i64 p ∧ b = .int .i64 q ∧ 0 ≤ p ∧ p ≤ m ∧ 0 ≤ q ∧ q ≤ m ∧ Hid (scan d (xs.drop m) p q = scan d (xs.drop k) 0 0)) (fun _ _ j => n - (intOf j).toNat)
      case atStart => exact ⟨k, 0, 0, by omega, by omega, rfl, rfl, rfl, by omega, by omega, by omega, by omega, rfl⟩
      case round =>
        obtain ⟨m, p, q, hm0, hm, rfl, rfl, rfl, hp0, hp1, hq0, hq1, HB⟩ := hrel
        by_cases hlm : m < n
        · have hm2 : m < xs.length := by rw [Hn.out]; exact hlm
          obtain ⟨b, o, HAd, hck⟩ := Hx.out.bool m hm2
          have hd : xs.drop m = xs[m] :: xs.drop (m + 1) := List.drop_eq_getElem_cons hm2
          have HB2 := HB.out
          rw [hd] at HB2
          clear hd HB
          generalize xs[m] = t at *
          obtain ⟨ts, hts⟩ : ∃ ts, xs.drop (m + 1) = ts := ⟨_, rfl⟩
          rw [hts] at HB2
          have HTS := Lib.hid hts; clear hts
          have HB3 := Lib.hid HB2; clear HB2
          subst HAd
          cases t
          · have u1 := prod_bd (p := p) (x := 1000 - d) (m := 0) (by omega) (by omega) (by omega) (by omega)
            have u2 := prod_bd (p := q + 1 + 1) (x := 1000 + d) (m := 0) (by omega) (by omega) (by omega) (by omega)
            have u3 := prod_bd (p := q + 1) (x := 1000 - d) (m := 0) (by omega) (by omega) (by omega) (by omega)
            have u4 := prod_bd (p := p + 1) (x := 1000 + d) (m := 0) (by omega) (by omega) (by omega) (by omega)
            by_cases t1 : (q + 1 + 1) * (1000 + d) < p * (1000 - d)
            · have HF : Hid (fine d p (q + 1) = false) := by show _ = _; unfold fine; simp; omega
              go_wp2
              go_ret
              exact ⟨ret_bool (by rw [← HA3.out, ← HB3.out, scan_no (by simpa using HF.out)]; rfl), rfl⟩
            · have g1 : decide ((q + 1 + 1) * (1000 + d) < p * (1000 - d)) = false := by simpa using t1
              by_cases t2 : (p + 1) * (1000 + d) < (q + 1) * (1000 - d)
              · have HF : Hid (fine d p (q + 1) = false) := by show _ = _; unfold fine; simp; omega
                go_wp2
                go_ret
                exact ⟨ret_bool (by rw [← HA3.out, ← HB3.out, scan_no (by simpa using HF.out)]; rfl), rfl⟩
              · have HF : Hid (fine d p (q + 1) = true) := by show _ = _; unfold fine; simp; omega
                have g2 : decide ((p + 1) * (1000 + d) < (q + 1) * (1000 - d)) = false := by simpa using t2
                go_wp2
                go_round
                case rel => exact ⟨m + 1, p, q + 1, by omega, by omega, by go_num, rfl, rfl, by omega, by omega, by omega, by omega, by show _ = _; rw [← HB3.out, HTS.out]; exact Eq.symm (scan_on (by simp) (by simp) HF.out)⟩
                case measure => simp [intOf]; omega
          · have u1 := prod_bd (p := p + 1) (x := 1000 - d) (m := 0) (by omega) (by omega) (by omega) (by omega)
            have u2 := prod_bd (p := q + 1) (x := 1000 + d) (m := 0) (by omega) (by omega) (by omega) (by omega)
            have u3 := prod_bd (p := q) (x := 1000 - d) (m := 0) (by omega) (by omega) (by omega) (by omega)
            have u4 := prod_bd (p := p + 1 + 1) (x := 1000 + d) (m := 0) (by omega) (by omega) (by omega) (by omega)
            by_cases t1 : (q + 1) * (1000 + d) < (p + 1) * (1000 - d)
            · have HF : Hid (fine d (p + 1) q = false) := by show _ = _; unfold fine; simp; omega
              go_wp2
              go_ret
              exact ⟨ret_bool (by rw [← HA3.out, ← HB3.out, scan_no (by simpa using HF.out)]; rfl), rfl⟩
            · have g1 : decide ((q + 1) * (1000 + d) < (p + 1) * (1000 - d)) = false := by simpa using t1
              by_cases t2 : (p + 1 + 1) * (1000 + d) < q * (1000 - d)
              · have HF : Hid (fine d (p + 1) q = false) := by show _ = _; unfold fine; simp; omega
                go_wp2
                go_ret
                exact ⟨ret_bool (by rw [← HA3.out, ← HB3.out, scan_no (by simpa using HF.out)]; rfl), rfl⟩
              · have HF : Hid (fine d (p + 1) q = true) := by show _ = _; unfold fine; simp; omega
                have g2 : decide ((p + 1 + 1) * (1000 + d) < q * (1000 - d)) = false := by simpa using t2
                go_wp2
                go_round
                case rel => exact ⟨m + 1, p + 1, q, by omega, by omega, by go_num, rfl, rfl, by omega, by omega, by omega, by omega, by show _ = _; rw [← HB3.out, HTS.out]; exact Eq.symm (scan_on (by simp) (by simp) HF.out)⟩
                case measure => simp [intOf]; omega
        · have hmn : m = n := by omega
          subst hmn
          have HB2 := HB.out
          rw [List.drop_of_length_le (by rw [Hn.out]; omega)] at HB2
          have HB3 := Lib.hid HB2; clear HB2 HB
          go_wp2
          go_round
          case rel => exact ⟨k + 1, by omega, by go_num, by show _ = _; rw [← HA3.out, ← HB3.out]; simp [scan]⟩
          case measure => simp [intOf]; omega
    · have hkn : k = n := by omega
      subst hkn
      have HA2 := HA.out
      rw [List.drop_of_length_le (by rw [Hn.out]; omega)] at HA2
      have HA3 := Lib.hid HA2; clear HA2 HA
      go_wp2
      go_ret
      exact ⟨ret_bool (HA3.out ▸ rfl), rfl⟩
end Go.Proofs.Ytppbjcjnheamnaa
