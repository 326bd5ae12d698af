/- The walk of CrcTurns. No condition but the row's own. -/
import Derived.Test.YtpiiepnljeifhaaCrcL2
import Derived.Deep.RegionHeld3
set_option linter.unusedVariables false
set_option linter.unusedSimpArgs false
namespace Go.Proofs.Ytpiiepnljeifhaa
open Go.RowKit

theorem own_some {w : World} {base n sz : Nat} {e : TypeId} {v : Value} {xs : List Value} (h : w.ownsRow base e sz v n xs) (hn : 0 < n) : ∃ g c, v = .slice (some ⟨g, 0, none⟩) n c := by
  rcases h.2 with ⟨_, h0⟩ | ⟨g, cap, cur, rfl, _⟩
  · omega
  · exact ⟨g, cap, rfl⟩
theorem own_rdg {w : World} {base n sz : Nat} {e : TypeId} {g c : Nat} {xs : List Value} (h : w.ownsRow base e sz (.slice (some ⟨g, 0, none⟩) n c) n xs) : Rd w (some ⟨g, 0, none⟩) xs := by
  obtain ⟨A, c', he, _, hr⟩ := own_rd h
  simp only [Value.slice.injEq, true_and] at he
  rw [he.1]; exact hr
theorem turn8 {x : Nat} (t : Nat) (hx : x < 256) : bits .xor .u8 (x : Int) (2 ^ (t % 8) % 256) = ((x ^^^ 2 ^ (t % 8) : Nat) : Int) ∧ x ^^^ 2 ^ (t % 8) < 256 ∧ x ^^^ 2 ^ (t % 8) ≠ x := by
  have h8 : t % 8 < 8 := Nat.mod_lt _ (by decide)
  have h2 : 2 ^ (t % 8) < 256 := Nat.pow_lt_pow_right (n := 8) (a := 2) (by decide) h8
  have e : ((2 : Int) ^ (t % 8) % 256) = ((2 ^ (t % 8) : Nat) : Int) := by
    have e1 : ((2 ^ (t % 8) : Nat) : Int) = (2 : Int) ^ (t % 8) := by simp
    rw [← e1]
    generalize 2 ^ (t % 8) = z at *
    omega
  refine ⟨by rw [e]; exact xor8 hx h2, Nat.xor_lt_two_pow (n := 8) hx h2, fun h => ?_⟩
  have h3 := congrArg (x ^^^ ·) h
  simp only [xor_kill, Nat.xor_self] at h3
  have := Nat.two_pow_pos (t % 8)
  omega
theorem by8_set (xs : List Nat) (j y : Nat) : (by8 xs).set j (.int .u8 (y : Int)) = by8 (xs.set j y) := by
  simp [by8, List.map_set]
/-- Another byte at one place makes another sum. -/
theorem run_set_ne {s j : Nat} {xs : List Nat} {y : Nat} (hs : s < 4294967296) (hb : ∀ b ∈ xs, b < 256) (hj : j < xs.length) (hy : y < 256) (hne : y ≠ xs[j]) : run s (xs.set j y) ≠ run s xs := by
  induction xs generalizing s j with
  | nil => simp at hj
  | cons x xs ih =>
    cases j with
    | zero =>
      intro h
      have hx := hb x (by simp)
      have h1 := run_inj xs (onB_lt hs hy) (onB_lt hs hx) h
      have h2 := it_inj 8 (xor_lt hs (by omega)) (xor_lt hs (by omega)) h1
      apply hne
      have : y = s ^^^ (s ^^^ y) := (xor_kill s y).symm
      rw [this, h2, xor_kill]
      rfl
    | succ j => exact ih (onB_lt hs (hb x (by simp))) (fun b h => hb b (by simp [h])) (by simpa using hj) hne
theorem sum_set_ne {j : Nat} {xs : List Nat} {y : Nat} (hb : ∀ b ∈ xs, b < 256) (hj : j < xs.length) (hy : y < 256) (hne : y ≠ xs[j]) : sum (xs.set j y) ≠ sum xs := by
  unfold sum more
  intro h
  have h2 := congrArg (4294967295 ^^^ ·) h
  simp only [xor_kill] at h2
  exact run_set_ne (by decide) hb hj hy hne h2

set_option maxRecDepth 100000 in
set_option maxHeartbeats 2000000 in
theorem w_CrcTurns (a0 : Option Addr) (n0 c0 : Nat) (a1 : Int) (w : World) (b0 : Sh.Is w (.slice 1 (.int .u8)) [.slice a0 n0 c0]) (b1 : -9223372036854775808 ≤ a1 ∧ a1 ≤ 9223372036854775807) :
    Calls Try.prog 9 #[.slice a0 n0 c0, .int .i64 a1] w fun e w' => e = .returned (.bool true) ∧ Below w.heap.size w w' := by
  obtain ⟨xs, xl, xc, xnc, xr, xb⟩ := is_bytes b0
  subst xl
  have XR := Lib.hid xr; have XB := Lib.hid xb; have XC := Lib.hid xnc
  clear b0 xr xb xnc
  by_cases g : 16384 < xs.length
  · have k0 : decide ((16384 : Int) < (xs.length : Int)) = true := by simp; omega
    go_enter Try.func9, Try.ntmps9
    go_wp2_with (go_at_call 11; refine (awake_any _).mono ?_; rintro e1 w1 ⟨rfl, B1⟩)
    go_ret
    exact ⟨rfl, B1⟩
  have k0 : decide ((16384 : Int) < (xs.length : Int)) = false := by simp; omega
  by_cases g1 : a1 < 0
  · have k1 : decide (a1 < 0) = true := by simpa using g1
    go_enter Try.func9, Try.ntmps9
    go_wp2_with (go_at_call 11; refine (awake_any _).mono ?_; rintro e1 w1 ⟨rfl, B1⟩)
    go_ret
    exact ⟨rfl, B1⟩
  have k1 : decide (a1 < 0) = false := by simpa using g1
  have p0 : 0 ≤ a1 := by omega
  obtain ⟨t, rfl⟩ := Int.eq_ofNat_of_zero_le p0
  have pt : t ≤ 9223372036854775807 := by omega
  clear g1 p0 b1
  by_cases g2 : xs.length ≤ t / 8
  · have k2 : decide ((xs.length : Int) ≤ (t : Int) / 8) = true := by simp; omega
    go_enter Try.func9, Try.ntmps9
    go_wp2_with (go_at_call 11; refine (awake_any _).mono ?_; rintro e1 w1 ⟨rfl, B1⟩)
    go_ret
    exact ⟨rfl, B1⟩
  have k2 : decide ((xs.length : Int) ≤ (t : Int) / 8) = false := by simp; omega
  go_enter Try.func9, Try.ntmps9
  go_upto_region 7 with (first
    | (go_at_call 11; refine (awake_any _).mono ?_; rintro e1 w1 ⟨rfl, B1⟩)
    | (at_builtin; refine appO w.heap.size 22 5 (.int .u8 0) 1 1 (by8 xs) xs.length (own_base' (own_empty w1 5 1) B1.size) (Nat.le_trans B1.size (by simp)) (by omega) Try.underlying22 infoU8 rfl (by decide) (by decide) (by simp [by8]) (by8_one xs) a0 c0 ((XR.out.below B1).below ((Below.refl _ _).alloc (Nat.le_refl _) _)) XC.out.1 XC.out.2 (.tmp 24) (.tmp 25) rfl rfl rfl rfl ?_
       intro v1 x1 hown hg _
       have HX1 := Lib.hid (below_app0 B1 hg)
       rw [List.nil_append, Nat.zero_add] at hown
       obtain ⟨g', c', rfl⟩ := own_some hown (by omega)
       have HO1 := Lib.hid hown
       clear hg hown)
    | (go_at_call 12; with_reducible refine (csum_n _ xs xs.length _ _ rfl (own_rdg HO1.out) XB.out (by omega)).mono ?_; rintro e1 w2 ⟨rfl, rfl⟩))
  have hj : t / 8 < xs.length := by omega
  have hc := own_cell HO1.out (t / 8) (.int .u8 (xs[t / 8] : Nat)) (by simp [by8, List.getElem?_eq_getElem hj])
  have hf := own_frozen HO1.out (by omega) (t / 8)
  have hq : (t : Int) / 8 < (xs.length : Int) := by omega
  have hq0 : (0 : Int) ≤ (t : Int) / 8 := by omega
  have hcd : w2.drew.cell? ⟨g', t / 8, none⟩ = some (.int .u8 (xs[t / 8] : Nat)) := hc
  go_region
  have hx := XB.out _ (List.getElem_mem hj)
  have HS := Lib.hid (turn8 (x := xs[t / 8]) t hx)
  rw [HS.out.1]
  have hy := HS.out.2.1
  have HB2 := Lib.hid (show ∀ b ∈ xs.set (t / 8) (xs[t / 8] ^^^ 2 ^ (t % 8)), b < 256 by
    intro b hb
    rcases List.mem_or_eq_of_mem_set hb with h | h
    · exact XB.out b h
    · rw [h]; exact hy)
  have HNE := Lib.hid (sum_set_ne XB.out hj hy HS.out.2.2)
  have HL2 := Lib.hid (show (xs.set (t / 8) (xs[t / 8] ^^^ 2 ^ (t % 8))).length = xs.length by simp)
  have HBK := Lib.hid (show (xs.set (t / 8) (xs[t / 8] ^^^ 2 ^ (t % 8))).set (t / 8) xs[t / 8] = xs by rw [List.set_set, List.set_getElem_self])
  have HGT := Lib.hid (show (xs.set (t / 8) (xs[t / 8] ^^^ 2 ^ (t % 8)))[t / 8]? = some (xs[t / 8] ^^^ 2 ^ (t % 8)) by simp [hj])
  have HT2 := Lib.hid (turn8 (x := xs[t / 8] ^^^ 2 ^ (t % 8)) t hy)
  have HO2 := Lib.hid (by8_set xs (t / 8) (xs[t / 8] ^^^ 2 ^ (t % 8)) ▸ own_set HO1.out (t / 8) (.int .u8 ((xs[t / 8] ^^^ 2 ^ (t % 8) : Nat) : Int)))
  have HX2 := Lib.hid ((HX1.out.setCell (p := ⟨g', t / 8, none⟩) (HO1.out.lt g' rfl).1 (.int .u8 ((xs[t / 8] ^^^ 2 ^ (t % 8) : Nat) : Int))).drew)
  have HX3 : w2.drew.drew = w2.drew.drew := rfl
  clear HX3 hc hcd hf
  have HO3 := Lib.hid (show ((w2.setCell ⟨g', t / 8, none⟩ (.int .u8 ((xs[t / 8] ^^^ 2 ^ (t % 8) : Nat) : Int))).drew).ownsRow w.heap.size 5 1 (.slice (some ⟨g', 0, none⟩) xs.length c') xs.length (by8 (xs.set (t / 8) (xs[t / 8] ^^^ 2 ^ (t % 8)))) from HO2.out)
  clear HO2
  generalize (w2.setCell ⟨g', t / 8, none⟩ (.int .u8 ((xs[t / 8] ^^^ 2 ^ (t % 8) : Nat) : Int))).drew = w3 at *
  generalize hyy : xs[t / 8] ^^^ 2 ^ (t % 8) = y at *
  have HYY := Lib.hid hyy; clear hyy
  generalize hss : xs.set (t / 8) y = ys at *
  clear hss
  have hc := own_cell HO3.out (t / 8) (.int .u8 (y : Nat)) (by simp [by8, HGT.out])
  have hf := own_frozen HO3.out (by omega) (t / 8)
  have HCC := Lib.hid hc; have HFF := Lib.hid hf
  clear hc hf
  go_upto_region 9 with (go_at_call 12; with_reducible refine (csum_n _ ys xs.length _ _ HL2.out (own_rdg HO3.out) HB2.out (by omega)).mono ?_; rintro e1 w4 ⟨rfl, rfl⟩)
  have hc := HCC.out
  have hf := HFF.out
  go_region
  have hyx : y ^^^ 2 ^ (t % 8) = xs[t / 8] := by rw [← HYY.out, Nat.xor_assoc, Nat.xor_self, Nat.xor_zero]
  rw [HT2.out.1, hyx]
  have HO4 := Lib.hid (show ((w4.setCell ⟨g', t / 8, none⟩ (.int .u8 ((xs[t / 8] : Nat) : Int))).drew).ownsRow w.heap.size 5 1 (.slice (some ⟨g', 0, none⟩) xs.length c') xs.length (by8 xs) by
    have h := own_set HO3.out (t / 8) (.int .u8 ((xs[t / 8] : Nat) : Int))
    rw [by8_set, HBK.out] at h
    exact h)
  have HX4 := Lib.hid ((HX2.out.setCell (p := ⟨g', t / 8, none⟩) (HO3.out.lt g' rfl).1 (.int .u8 ((xs[t / 8] : Nat) : Int))).drew)
  clear hc hf hyx
  generalize (w4.setCell ⟨g', t / 8, none⟩ (.int .u8 ((xs[t / 8] : Nat) : Int))).drew = w5 at *
  have q1 : (((sum ys : Nat) : Int) != ((sum xs : Nat) : Int)) = true := by have := HNE.out; simp; omega
  go_wp2_with (go_at_call 12; with_reducible refine (csum_n _ xs xs.length _ _ rfl (own_rdg HO4.out) XB.out (by omega)).mono ?_; rintro e1 w6 ⟨rfl, rfl⟩)
  go_ret
  exact ⟨ret_bool (by simp), HX4.out⟩
end Go.Proofs.Ytpiiepnljeifhaa
