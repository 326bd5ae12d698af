/- The walk of the document's Text. Conditions: sizes; no mark beyond the places. -/
import Derived.Test.YtlgmomjofhbggaaBitN
set_option linter.unusedVariables false
set_option linter.unusedSimpArgs false
namespace Go.Proofs.Ytlgmomjofhbggaa
open Go.RowKit

theorem bits_step (b m t : Nat) : b / 2 ^ m % 2 ^ (t + 1) = 2 * (b / 2 ^ (m + 1) % 2 ^ t) + (if b.testBit m then 1 else 0) := by
  rw [Nat.pow_succ, Nat.mul_comm (2 ^ t) 2, Nat.mod_mul, Nat.div_div_eq_div_mul, ← Nat.pow_succ, Nat.add_comm]
  congr 1
  rw [Nat.testBit_eq_decide_div_mod_eq]
  rcases Nat.mod_two_eq_zero_or_one (b / 2 ^ m) with h | h <;> rw [h] <;> simp
theorem has_low {n b : Nat} (hb : b < 2 ^ n) (k : Nat) : has n b (k : Int) = b.testBit k := by
  rw [has_nat]
  by_cases h : k < n
  · simp [h]
  · have : b.testBit k = false := Nat.testBit_lt_two_pow (Nat.lt_of_lt_of_le hb (Nat.pow_le_pow_right (by decide) (by omega)))
    simp [h, this]

structure RTextRel (w wr : World) (n b : Nat) (lv i : Value) (k : Nat) : Prop where
  hk : 8 * k < n + 8
  hi : i = .int .i64 (8 * (k : Int))
  own : wr.ownsRow (w.heap.size + 1) 5 1 lv (k + 1) (by8 (textTo n b k))
  blk : RB wr w.heap.size n b
  bel : Below w.heap.size w wr
theorem RB.below {w w' : World} {g n b : Nat} (h : RB w g n b) (hB : Below w.heap.size w w') : RB w' g n b := Blk.below h hB

set_option maxRecDepth 100000 in
set_option maxHeartbeats 2000000 in
theorem rtext_any (n b : Nat) (w : World) (hn : n ≤ 64) (hbn : b < 2 ^ n) :
    Calls Try.prog 33 #[.agg (rf n b).toArray] w fun e w' => e = .returned (.string (strOf (text n b))) ∧ Below w.heap.size w w' := by
  have HBN := Lib.hid hbn; clear hbn
  have cA : (w.alloc (.cells (rf n b).toArray rT)).cell? ⟨w.heap.size, 0, none⟩ = some (.int .i64 (n : Int)) := RB.c0 (Blk.new w _ _)
  go_enter Try.func33, Try.ntmps33
  go_upto_region 3 with fail
  have R0 := Lib.hid (show RTextRel w ((w.alloc (.cells (rf n b).toArray rT)).alloc (.cells #[.int .u8 n] 5)) n b (.slice (some ⟨w.heap.size + 1, 0, none⟩) 1 1) (.int .i64 0) 0 from
    ⟨by omega, rfl, own_one _ _ _ _ _ (by simp) (Nat.le_refl _), (Blk.new _ _ _).alloc _, ((Below.refl _ _).alloc (Nat.le_refl _) _).alloc (by simp) _⟩)
  clear cA
  generalize (w.alloc (.cells (rf n b).toArray rT)).alloc (.cells #[.int .u8 n] 5) = w0 at *
  go_loopw [3, 4] (fun lv i wr => ∃ (k : Nat), RTextRel w wr n b lv i k) (fun _ i _ => n - (intOf i).toNat)
  case atStart => exact ⟨0, R0.out⟩
  case round =>
    obtain ⟨k, hk, rfl, hown, hblk, hbel⟩ := hrel
    have HO := Lib.hid hown
    have HK := Lib.hid hblk
    have HB := Lib.hid hbel
    have c0 := hblk.c0
    clear hown hblk hbel
    by_cases hlt : 8 * k < n
    · have hlt' : decide (8 * (k : Int) < (n : Int)) = true := by simp; omega
      go_upto_region 7 with fail
      go_loopw [5, 6] (fun x j wi => ∃ t : Nat, t ≤ 8 ∧ x = .int .u8 ((b / 2 ^ (8 * k + 8 - t) % 2 ^ t : Nat) : Int) ∧ j = .int .i64 (7 - (t : Int)) ∧ Below wr.heap.size wr wi) (fun _ j _ => (intOf j + 1).toNat)
      case atStart => exact ⟨0, by omega, by simp [Nat.mod_one], rfl, Below.refl _ _⟩
      case round =>
        obtain ⟨t, ht, rfl, rfl, hbi⟩ := hrel
        have HBI := Lib.hid hbi
        have hbk := HK.out.below hbi
        have c0 := hbk.c0
        have HBK := Lib.hid hbk
        clear hbi hbk
        by_cases ht8 : t < 8
        · have q : decide ((0 : Int) ≤ 7 - (t : Int)) = true := by simp; omega
          have hx : b / 2 ^ (8 * k + 8 - t) % 2 ^ t < 128 := Nat.lt_of_lt_of_le (Nat.mod_lt _ (Nat.two_pow_pos _)) (by
            have := Nat.pow_le_pow_right (n := 2) (by decide) (show t ≤ 7 by omega); omega)
          have hst := bits_step b (8 * k + 7 - t) t
          rw [show 8 * k + 7 - t + 1 = 8 * k + 8 - t by omega] at hst
          have HH := Lib.hid (has_low HBN.out (8 * k + 7 - t))
          obtain ⟨x, hxx⟩ : ∃ x, b / 2 ^ (8 * k + 8 - t) % 2 ^ t = x := ⟨_, rfl⟩
          rw [hxx] at hx hst
          rw [hxx]
          clear hxx
          have hmul : IntKind.u8.wrap ((x : Int) * 2) = 2 * (x : Int) := by rw [IntKind.wrap_u8]; omega
          have hadd : IntKind.u8.wrap (2 * (x : Int) + 1) = 2 * (x : Int) + 1 := by rw [IntKind.wrap_u8]; omega
          have hij : IntKind.i64.wrap (8 * (k : Int) + (7 - (t : Int))) = ((8 * k + 7 - t : Nat) : Int) := by rw [IntWalk.i64_in _ (by omega)]; omega
          have hsub : IntKind.i64.wrap (7 - (t : Int) - 1) = 7 - ((t + 1 : Nat) : Int) := by rw [IntWalk.i64_in _ (by omega)]; omega
          obtain ⟨m, hm⟩ : ∃ m, 8 * k + 7 - t = m := ⟨_, rfl⟩
          rw [hm] at hst HH hij
          have HM := Lib.hid (show 8 * k + 8 - (t + 1) = m by omega)
          clear hm
          cases htb : b.testBit m with
          | true =>
            rw [htb] at HH
            have HST := Lib.hid (show b / 2 ^ m % 2 ^ (t + 1) = 2 * x + 1 by simpa [htb] using hst)
            clear htb hst
            go_upto_region 10 with fail
            refine wp_region_lit (l := [_, _, _, _, _]) ?_
            refine load_rf HBK.out rfl (.tmp 1) rfl rfl ?_
            go_wp2_with (go_at_call 32; with_reducible refine (rhas_any n b (m : Int) _ hn).mono ?_; rw [HH.out]; rintro e1 w1 ⟨rfl, B1⟩; have HB1 := Lib.hid (HBI.out.trans (B1.mono HBI.out.size)); clear B1)
            go_roundw
            case rel => exact ⟨t + 1, by omega, by rw [HM.out, HST.out]; push_cast; rfl, by push_cast; simp only [Value.int.injEq, true_and], HB1.out⟩
            case measure => simp [intOf]; omega
          | false =>
            rw [htb] at HH
            have HST := Lib.hid (show b / 2 ^ m % 2 ^ (t + 1) = 2 * x by simpa [htb] using hst)
            clear htb hst
            go_upto_region 10 with fail
            refine wp_region_lit (l := [_, _, _, _, _]) ?_
            refine load_rf HBK.out rfl (.tmp 1) rfl rfl ?_
            go_wp2_with (go_at_call 32; with_reducible refine (rhas_any n b (m : Int) _ hn).mono ?_; rw [HH.out]; rintro e1 w1 ⟨rfl, B1⟩; have HB1 := Lib.hid (HBI.out.trans (B1.mono HBI.out.size)); clear B1)
            go_roundw
            case rel => exact ⟨t + 1, by omega, by rw [HM.out, HST.out]; push_cast; rfl, by push_cast; simp only [Value.int.injEq, true_and], HB1.out⟩
            case measure => simp [intOf]; omega
        · obtain rfl : t = 8 := by omega
          have q : decide ((0 : Int) ≤ 7 - ((8 : Nat) : Int)) = false := by simp
          have hsum : IntKind.i64.wrap (8 * (k : Int) + 8) = 8 * (k : Int) + 8 := IntWalk.i64_in _ (by omega)
          have HV2 := Lib.hid (show by8 (textTo n b k) ++ [.int .u8 ((b / 2 ^ (8 * k) % 256 : Nat) : Int)] = by8 (textTo n b (k + 1)) by rw [textTo_succ]; simp [by8])
          have HO2 := Lib.hid (own_below HO.out HBI.out)
          have HB2 := Lib.hid (HB.out.trans (HBI.out.mono HB.out.size))
          rw [show 8 * k + 8 - 8 = 8 * k by omega, show (2 : Nat) ^ 8 = 256 from rfl]
          obtain ⟨x, hx⟩ : ∃ x, b / 2 ^ (8 * k) % 256 = x := ⟨_, rfl⟩
          rw [hx] at HV2 ⊢
          clear hx
          go_wp2_with (
            at_builtin
            refine app1 (w.heap.size + 1) 58 5 (.int .u8 0) 1 1 [.int .u8 (x : Int)] HO2.out (by have := HBK.out.lt; omega) (by omega) Try.underlying58 infoU8 rfl (by decide) (by decide) rfl (one1 _ _) (.tmp 30) (.tmp 32) rfl rfl rfl rfl ?_
            intro v1 x1 hown1 hg1 _
            have HX := Lib.hid (blk_grown HBK.out hg1 HO2.out (by omega))
            have HY := Lib.hid (Below.grown HB2.out hg1 HB2.out.size (fun q hq => by have := (HO2.out.lt q hq).1; omega))
            rw [HV2.out] at hown1
            have HZ := Lib.hid hown1
            clear hg1 hown1)
          go_roundw
          case rel => exact ⟨k + 1, by omega, by simp only [Value.int.injEq, true_and]; omega, HZ.out, HX.out, HY.out⟩
          case measure => simp [intOf]; omega
    · have hlt' : decide (8 * (k : Int) < (n : Int)) = false := by simp; omega
      obtain ⟨A2, c2, rfl, _, R2⟩ := own_rd HO.out
      have hkn : k = (n + 7) / 8 := by omega
      have HT := Lib.hid (show textTo n b k = text n b by rw [hkn]; rfl)
      have hstr := run_str (c := c2) R2 (textTo_len n b k) (by rw [HT.out]; exact text_lt n b hn) (by simp [textTo])
      have HS := Lib.hid (show strOf (textTo n b k) = strOf (text n b) by rw [HT.out])
      clear HO R2 hkn
      go_wp2
      rw [HS.out]
      go_ret
      exact ⟨rfl, HB.out⟩
end Go.Proofs.Ytlgmomjofhbggaa
