/- The walks of CrcJoins, CrcBrackets, CrcEnds, CrcShifts. No condition but the row's own. -/
import Derived.Test.YtpiiepnljeifhaaCrcA
import Derived.Test.YtpiiepnljeifhaaRow
set_option linter.unusedVariables false
set_option linter.unusedSimpArgs false
namespace Go.Proofs.Ytpiiepnljeifhaa
open Go.RowKit

theorem is_bytes {w : World} {A : Option Addr} {n c by_ : Nat} (h : Sh.Is w (.slice by_ (.int .u8)) [.slice A n c]) :
    ∃ xs : List Nat, xs.length = n ∧ c * by_ ≤ 140737488351232 ∧ (n ≤ c ∧ (A = none → c = 0)) ∧ Rd w A (by8 xs) ∧ ∀ x ∈ xs, x < 256 := by
  obtain ⟨A', n', c', els, he, hl, hnc, hc, hr, hel⟩ := h
  simp only [List.cons.injEq, Value.slice.injEq, and_true] at he
  obtain ⟨rfl, rfl, rfl⟩ := he
  obtain ⟨ys, rfl, has⟩ := exists_map (f := fun x : Nat => [Value.int .u8 (x : Int)]) (p := fun x => x < 256) els (fun el hel' => by
    obtain ⟨x, rfl, hx⟩ := (hel el hel').2
    have hb := bd_u8 hx
    obtain ⟨y, rfl⟩ := Int.eq_ofNat_of_zero_le hb.1
    exact ⟨y, rfl, by omega⟩)
  refine ⟨ys, by simpa using hl, hc, hnc, ?_, has⟩
  rwa [show (ys.map fun x : Nat => [Value.int .u8 (x : Int)]).flatten = by8 ys by clear has hl hel hr; induction ys <;> simp_all] at hr

theorem natOf {x : Int} {m : Nat} (h : 0 ≤ x ∧ x ≤ m) : ∃ y : Nat, x = y ∧ y ≤ m := by
  obtain ⟨y, rfl⟩ := Int.eq_ofNat_of_zero_le h.1
  exact ⟨y, rfl, by omega⟩

theorem infoU8 : (Try.prog.info? 5).map (fun i => (i.zero, i.size, i.bytes)) = some (some (.int .u8 0), 1, 1) := by kernel_rfl
theorem by8_one (xs : List Nat) : ∀ u ∈ by8 xs, u.oneCell' = true := by simp [by8, Value.oneCell']

theorem cjoin0 (a b : Nat) (w : World) (ha : a < 4294967296) (hb : b < 4294967296) :
    Calls Try.prog 14 #[.int .u32 a, .int .u32 b, .int .i64 0] w fun e w' => e = .returned (.int .u32 a) ∧ Below w.heap.size w w' :=
  cjoin_any a b 0 w ha hb (by decide)

theorem w_CrcEnds (a0 : Int) (a1 : Int) (a2 : Option Addr) (n2 c2 : Nat) (w : World) (b0 : 0 ≤ a0 ∧ a0 ≤ 4294967295) (b1 : 0 ≤ a1 ∧ a1 ≤ 4294967295) (b2 : Sh.Is w (.slice 1 (.int .u8)) [.slice a2 n2 c2]) :
    Calls Try.prog 6 #[.int .u32 a0, .int .u32 a1, .slice a2 n2 c2] w fun e w' => e = .returned (.bool true) ∧ Below w.heap.size w w' := by
  obtain ⟨xs, xl, hc, hnc, hr, hb⟩ := is_bytes b2
  subst xl
  obtain ⟨x, rfl, hx⟩ := natOf (m := 4294967295) b0
  obtain ⟨y, rfl, hy⟩ := natOf (m := 4294967295) b1
  clear b0 b1 b2 hnc hc
  have HR := Lib.hid hr; clear hr
  have HB := Lib.hid hb; clear hb
  by_cases g : 16384 < xs.length
  · have k0 : decide ((16384 : Int) < (xs.length : Int)) = true := by simp; omega
    go_enter Try.func6, Try.ntmps6
    go_wp2_with (go_at_call 11; refine (awake_any _).mono ?_; rintro e1 w1 ⟨rfl, B1⟩)
    go_ret
    exact ⟨rfl, B1⟩
  · have k0 : decide ((16384 : Int) < (xs.length : Int)) = false := by simp; omega
    have HQ := Lib.hid (show ((((more x xs : Nat) : Int) == ((more y xs : Nat) : Int)) == ((x : Int) == (y : Int))) = true by
      by_cases he : x = y
      · simp [he]
      · have : more x xs ≠ more y xs := fun h => he (more_inj xs (by omega) (by omega) h)
        have h1 : (((more x xs : Nat) : Int) == ((more y xs : Nat) : Int)) = false := by simp; omega
        have h2 : ((x : Int) == (y : Int)) = false := by simp; omega
        rw [h1, h2]; rfl)
    go_enter Try.func6, Try.ntmps6
    go_wp2_with (first
      | (go_at_call 11; refine (awake_any _).mono ?_; rintro e1 w1 ⟨rfl, B1⟩)
      | (go_at_call 13; with_reducible refine (cmore_any x a2 xs c2 _ (by omega) (HR.out.below B1) HB.out (by omega)).mono ?_; rintro e1 w2 ⟨rfl, rfl⟩)
      | (go_at_call 13; with_reducible refine (cmore_any y a2 xs c2 _ (by omega) (HR.out.below B1) HB.out (by omega)).mono ?_; rintro e1 w2 ⟨rfl, rfl⟩))
    go_ret
    exact ⟨ret_bool HQ.out, B1⟩

theorem w_CrcShifts (a0 : Int) (a1 : Option Addr) (n1 c1 : Nat) (w : World) (b0 : 0 ≤ a0 ∧ a0 ≤ 4294967295) (b1 : Sh.Is w (.slice 1 (.int .u8)) [.slice a1 n1 c1]) :
    Calls Try.prog 10 #[.int .u32 a0, .slice a1 n1 c1] w fun e w' => e = .returned (.bool true) ∧ Below w.heap.size w w' := by
  obtain ⟨xs, xl, hc, hnc, hr, hb⟩ := is_bytes b1
  subst xl
  obtain ⟨x, rfl, hx⟩ := natOf (m := 4294967295) b0
  clear b0 b1 hnc hc
  have HR := Lib.hid hr; clear hr
  have HB := Lib.hid hb; clear hb
  by_cases g : 16384 < xs.length
  · have k0 : decide ((16384 : Int) < (xs.length : Int)) = true := by simp; omega
    go_enter Try.func10, Try.ntmps10
    go_wp2_with (go_at_call 11; refine (awake_any _).mono ?_; rintro e1 w1 ⟨rfl, B1⟩)
    go_ret
    exact ⟨rfl, B1⟩
  have k0 : decide ((16384 : Int) < (xs.length : Int)) = false := by simp; omega
  have HS := Lib.hid (join_sum x xs)
  have HL := Lib.hid (show sum xs < 4294967296 from more_lt xs (by decide) HB.out)
  by_cases g2 : xs.length = 0
  · have k2 : ((xs.length : Int) == 0) = true := beq_iff_eq.2 (by omega)
    have hx0 : xs = [] := List.eq_nil_of_length_eq_zero g2
    have k3 : (((more x xs : Nat) : Int) == (x : Int)) = true := by rw [hx0, more_nil]; simp
    clear hx0 g2
    go_enter Try.func10, Try.ntmps10
    go_wp2_with (first
      | (go_at_call 11; refine (awake_any _).mono ?_; rintro e1 w1 ⟨rfl, B1⟩)
      | (go_at_call 13; with_reducible refine (cmore_any x a1 xs c1 _ (by omega) (HR.out.below B1) HB.out (by omega)).mono ?_; rintro e1 w2 ⟨rfl, rfl⟩)
      | (go_at_call 12; with_reducible refine (csum_any a1 xs c1 _ (HR.out.below B1) HB.out (by omega)).mono ?_; rintro e1 w2 ⟨rfl, rfl⟩)
      | (go_at_call 14; with_reducible refine (cjoin0 x (sum xs) _ (by omega) HL.out).mono ?_; rintro e1 w3 ⟨rfl, B3⟩))
    go_ret
    exact ⟨rfl, B1.trans (B3.mono B1.size)⟩
  · have k2 : ((xs.length : Int) == 0) = false := beq_eq_false_iff_ne.2 (by omega)
    go_enter Try.func10, Try.ntmps10
    go_wp2_with (first
      | (go_at_call 11; refine (awake_any _).mono ?_; rintro e1 w1 ⟨rfl, B1⟩)
      | (go_at_call 12; with_reducible refine (csum_any a1 xs c1 _ (HR.out.below B1) HB.out (by omega)).mono ?_; rintro e1 w2 ⟨rfl, rfl⟩)
      | (go_at_call 14; with_reducible refine (cjoin_any x (sum xs) xs.length _ (by omega) HL.out (by omega)).mono ?_; rintro e1 w3 ⟨rfl, B3⟩; have HB3 := Lib.hid (B1.trans (B3.mono B1.size)); clear B3)
      | (go_at_call 13; with_reducible refine (cmore_any x a1 xs c1 _ (by omega) (HR.out.below HB3.out) HB.out (by omega)).mono ?_; rintro e1 w4 ⟨rfl, rfl⟩))
    go_ret
    exact ⟨ret_bool (by rw [HS.out]; simp), HB3.out⟩

theorem w_CrcBrackets (a0 : Int) (a1 : Int) (a2 : Int) (a3 : Int) (a4 : Int) (w : World) (b0 : 0 ≤ a0 ∧ a0 ≤ 4294967295) (b1 : 0 ≤ a1 ∧ a1 ≤ 4294967295) (b2 : 0 ≤ a2 ∧ a2 ≤ 4294967295) (b3 : -9223372036854775808 ≤ a3 ∧ a3 ≤ 9223372036854775807) (b4 : -9223372036854775808 ≤ a4 ∧ a4 ≤ 9223372036854775807) :
    Calls Try.prog 4 #[.int .u32 a0, .int .u32 a1, .int .u32 a2, .int .i64 a3, .int .i64 a4] w fun e w' => e = .returned (.bool true) ∧ Below w.heap.size w w' := by
  obtain ⟨x, rfl, hx⟩ := natOf (m := 4294967295) b0
  obtain ⟨y, rfl, hy⟩ := natOf (m := 4294967295) b1
  obtain ⟨z, rfl, hz⟩ := natOf (m := 4294967295) b2
  clear b0 b1 b2
  by_cases g : a3 < 1 ∨ a4 < 1 ∨ 16384 < a3 ∨ 16384 < a4
  · have HG := Lib.hid g; clear g
    by_cases g1 : a3 < 1
    · have q1 : decide (a3 < 1) = true := by simpa using g1
      go_enter Try.func4, Try.ntmps4
      go_wp2_with (first
        | (go_at_call 11; refine (awake_any _).mono ?_; rintro e1 w1 ⟨rfl, B1⟩)
        | (go_at_call 14; with_reducible refine (cjoin0 x y _ (by omega) (by omega)).mono ?_; rintro e1 w3 ⟨rfl, B3⟩))
      go_ret
      exact ⟨rfl, B1.trans (B3.mono B1.size)⟩
    have q1 : decide (a3 < 1) = false := by simpa using g1
    by_cases g2 : a4 < 1
    · have q2 : decide (a4 < 1) = true := by simpa using g2
      go_enter Try.func4, Try.ntmps4
      go_wp2_with (first
        | (go_at_call 11; refine (awake_any _).mono ?_; rintro e1 w1 ⟨rfl, B1⟩)
        | (go_at_call 14; with_reducible refine (cjoin0 x y _ (by omega) (by omega)).mono ?_; rintro e1 w3 ⟨rfl, B3⟩))
      go_ret
      exact ⟨rfl, B1.trans (B3.mono B1.size)⟩
    have q2 : decide (a4 < 1) = false := by simpa using g2
    by_cases g3 : 16384 < a3
    · have q3 : decide (16384 < a3) = true := by simpa using g3
      go_enter Try.func4, Try.ntmps4
      go_wp2_with (first
        | (go_at_call 11; refine (awake_any _).mono ?_; rintro e1 w1 ⟨rfl, B1⟩)
        | (go_at_call 14; with_reducible refine (cjoin0 x y _ (by omega) (by omega)).mono ?_; rintro e1 w3 ⟨rfl, B3⟩))
      go_ret
      exact ⟨rfl, B1.trans (B3.mono B1.size)⟩
    have q3 : decide (16384 < a3) = false := by simpa using g3
    have q4 : decide (16384 < a4) = true := by have := HG.out; simp; omega
    go_enter Try.func4, Try.ntmps4
    go_wp2_with (first
      | (go_at_call 11; refine (awake_any _).mono ?_; rintro e1 w1 ⟨rfl, B1⟩)
      | (go_at_call 14; with_reducible refine (cjoin0 x y _ (by omega) (by omega)).mono ?_; rintro e1 w3 ⟨rfl, B3⟩))
    go_ret
    exact ⟨rfl, B1.trans (B3.mono B1.size)⟩
  · obtain ⟨n, rfl, hn⟩ := natOf (m := 16384) (x := a3) (by omega)
    obtain ⟨m, rfl, hm⟩ := natOf (m := 16384) (x := a4) (by omega)
    have q1 : decide ((n : Int) < 1) = false := by simp; omega
    have q2 : decide ((m : Int) < 1) = false := by simp; omega
    have q3 : decide (16384 < (n : Int)) = false := by simp; omega
    have q4 : decide (16384 < (m : Int)) = false := by simp; omega
    have HQ := Lib.hid (join_join x y z n m (by omega) (by omega))
    have HY := Lib.hid (join_lt (a := x) (b := y) n (by omega) (by omega))
    have HZ := Lib.hid (join_lt (a := y) (b := z) m (by omega) (by omega))
    clear g b3 b4
    go_enter Try.func4, Try.ntmps4
    go_wp2_with fail
    refine (awake_any _).mono ?_
    rintro e1 w1 ⟨rfl, B1⟩
    go_wp2_with fail
    refine (cjoin_any x y n _ (by omega) (by omega) (by omega)).mono ?_
    rintro e1 w2 ⟨rfl, B2⟩
    have B2' := B1.trans (B2.mono B1.size)
    clear B1 B2
    go_wp2_with fail
    refine (cjoin_any (join x y n) z m _ HY.out (by omega) (by omega)).mono ?_
    rintro e1 w3 ⟨rfl, B3⟩
    have B3' := B2'.trans (B3.mono B2'.size)
    clear B2' B3
    go_wp2_with fail
    refine (cjoin_any y z m _ (by omega) (by omega) (by omega)).mono ?_
    rintro e1 w4 ⟨rfl, B4⟩
    have B4' := B3'.trans (B4.mono B3'.size)
    clear B3' B4
    go_wp2_with fail
    refine (cjoin_any x (join y z m) (n + m) _ (by omega) HZ.out (by omega)).mono ?_
    rintro e1 w5 ⟨rfl, B5⟩
    have B5' := B4'.trans (B5.mono B4'.size)
    clear B4' B5
    go_wp2
    go_ret
    exact ⟨ret_bool (by rw [HQ.out]; simp), B5'⟩
end Go.Proofs.Ytpiiepnljeifhaa
