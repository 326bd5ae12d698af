/- The walks of the row made by bits, of the loader, and of the comparison. No condition but sizes. -/
import Derived.Test.YtlgmomjofhbggaaBitW
set_option linter.unusedVariables false
set_option linter.unusedSimpArgs false
namespace Go.Proofs.Ytlgmomjofhbggaa
open Go.RowKit

theorem Below.drewN' {B : Nat} {w w' : World} (h : Below B w w') (n : Nat) : Below B w (w'.drewN n) := ⟨h.os, h.tape, h.output, h.size, h.block⟩
/-! ### Two rows of ints -/
theorem ints_any (A B : Option Addr) (xs ys : List Nat) (n m c d : Nat) (w : World) (hx : xs.length = n) (hy : ys.length = m) (hr : Rd w A (ivals xs)) (hs : Rd w B (ivals ys)) (hn : n ≤ 140737488351232) (hm : m ≤ 140737488351232) :
    Calls Try.prog 23 #[.slice A n c, .slice B m d] w fun e w' => e = .returned (.bool (decide (xs = ys))) ∧ Below w.heap.size w w' := by
  subst hx hy
  by_cases hl : xs.length = ys.length
  · have k0 : ((xs.length : Int) == (ys.length : Int)) = true := beq_iff_eq.2 (by omega)
    have k0' : ((xs.length : Int) != (ys.length : Int)) = false := by rw [bne, k0]; rfl
    go_enter Try.func23, Try.ntmps23
    go_wp2
    go_loopw [13] (fun i wr => ∃ (k : Nat), i = .int .i64 (k : Int) ∧ k ≤ xs.length ∧ xs.take k = ys.take k ∧ Below w.heap.size w wr) (fun i _ => xs.length - (intOf i).toNat)
    case atStart => exact ⟨0, rfl, by omega, by simp, Below.refl _ _⟩
    case round =>
      obtain ⟨k, rfl, hk, htk, hbel⟩ := hrel
      have HT := Lib.hid htk
      have HB := Lib.hid hbel
      clear htk hbel
      by_cases hlt : k < xs.length
      · have hlt' : decide ((k : Int) < (xs.length : Int)) = true := by simp; omega
        obtain ⟨b1, o1, rfl, c1⟩ := (hr.below HB.out).at_ (f := fun x : Nat => Value.int .i64 (x : Int)) k hlt
        obtain ⟨b2, o2, rfl, c2⟩ := (hs.below HB.out).at_ (f := fun x : Nat => Value.int .i64 (x : Int)) k (by omega)
        have HR := Lib.hid hr
        have HS := Lib.hid hs
        clear hr hs
        have hk2 : k < ys.length := by omega
        have hlt2 : decide ((k : Int) < (ys.length : Int)) = true := by simp; omega
        by_cases he : xs[k] = ys[k]
        · have q : ((xs[k] : Int) != (ys[k] : Int)) = false := by simp [he]
          have hsum : IntKind.i64.wrap ((k : Int) + 1) = (k : Int) + 1 := IntWalk.i64_in _ (by omega)
          go_wp2
          go_quiet (fail)
          go_wp2
          go_roundw
          case rel =>
            refine ⟨k + 1, by push_cast; rfl, by omega, ?_, Below.drewN' HB.out _⟩
            rw [List.take_add_one, List.take_add_one, HT.out, List.getElem?_eq_getElem hlt, List.getElem?_eq_getElem hk2, he]
          case measure => simp [intOf]; omega
        · have q : ((xs[k] : Int) != (ys[k] : Int)) = true := by simp [bne]; omega
          have hne : xs ≠ ys := by
            intro e
            subst e
            exact he rfl
          go_wp2
          go_quiet (fail)
          go_wp2
          go_ret
          exact ⟨ret_bool (by simp [hne]), Below.drewN' HB.out _⟩
      · have hlt' : decide ((k : Int) < (xs.length : Int)) = false := by simp; omega
        have he : xs = ys := by
          have h := HT.out
          rwa [List.take_of_length_le (by omega), List.take_of_length_le (by omega)] at h
        clear HT
        go_wp2
        go_ret
        exact ⟨ret_bool (by simp [he]), HB.out⟩
  · have k0 : ((xs.length : Int) == (ys.length : Int)) = false := beq_eq_false_iff_ne.2 (by omega)
    have k0' : ((xs.length : Int) != (ys.length : Int)) = true := by rw [bne, k0]; rfl
    have hne : xs ≠ ys := fun e => hl (by rw [e])
    go_enter Try.func23, Try.ntmps23
    go_wp2
    go_ret
    exact ⟨ret_bool (by simp [hne]), Below.refl _ _⟩

/-! ### A row made by bits -/
structure RowRel (w wr : World) (g m u : Nat) (i : Value) (k : Nat) : Prop where
  hk : k ≤ m
  hi : i = .int .i64 k
  blk : Blk wr g #[.int .i64 m, .int .u64 (u % 2 ^ k : Nat)] 26
  res : Blk wr w.heap.size #[.int .i64 0, .int .u64 0] 26
  bel : Below w.heap.size w wr
def rowOf (n : Int) (u : Nat) : Nat := u % 2 ^ newOf n

theorem row_core (n : Int) (u m z : Nat) (w : World) (hu : u < 18446744073709551616) (hm : m ≤ 64) (h1 : newOf n = m) (h2 : z = u % 2 ^ m) :
    Calls Try.prog 21 #[.int .i64 n, .int .u64 (u : Int)] w fun e w' => e = .returned (.agg #[.int .i64 (m : Nat), .int .u64 (z : Nat)]) ∧ Below w.heap.size w w' := by
  have HM := Lib.hid h2
  have H1 := Lib.hid h1
  clear h1 h2
  go_enter Try.func21, Try.ntmps21
  go_wp2_with (go_at_call 11; refine (bnew_any n _).mono ?_; rw [H1.out]; rintro e1 w1 ⟨rfl, B1⟩; have hA := (Blk.new w #[.int .i64 0, .int .u64 0] 26).below B1; have HB := Lib.hid ((((Below.refl w.heap.size w).alloc (Nat.le_refl _) (.cells #[.int .i64 0, .int .u64 0] 26))).trans (B1.mono (by simp))); have HA := Lib.hid hA; have hg := B1.size; clear hA B1)
  have R0 := Lib.hid (show RowRel w (w1.alloc (.cells #[.int .i64 m, .int .u64 0] 26)) w1.heap.size m u (.int .i64 0) 0 from
    ⟨by omega, rfl, by have := Blk.new w1 #[.int .i64 m, .int .u64 0] 26; rwa [Nat.pow_zero, Nat.mod_one], HA.out.alloc _, HB.out.alloc HB.out.size _⟩)
  have hg' : w.heap.size < w1.heap.size := by simp at hg; omega
  generalize w1.alloc (.cells #[.int .i64 m, .int .u64 0] 26) = w0 at *
  clear HA HB hg
  generalize w1.heap.size = g at *
  go_loopw [6] (fun i wr => ∃ (k : Nat), RowRel w wr g m u i k) (fun i _ => m - (intOf i).toNat)
  case atStart => exact ⟨0, R0.out⟩
  case round =>
    obtain ⟨k, hk, rfl, hblk, hres, hbel⟩ := hrel
    obtain ⟨ca0, ca1, fa0, fa1⟩ := hblk.c2
    have HK := Lib.hid hblk
    have HR := Lib.hid hres
    have HB := Lib.hid hbel
    clear hblk hres hbel
    by_cases hlt : k < m
    · have hlt' : decide ((k : Int) < (m : Int)) = true := by simp; omega
      have hsum : IntKind.i64.wrap ((k : Int) + 1) = (k : Int) + 1 := IntWalk.i64_in _ (by omega)
      have hbit := bit_walk (k := k) hu
      have HS := Lib.hid (low_succ u k)
      have hz : u % 2 ^ k < 18446744073709551616 := Nat.lt_of_le_of_lt (Nat.mod_le _ _) hu
      have hin : inn m (k : Int) = true := by simp [inn]; omega
      generalize u % 2 ^ k = y at *
      by_cases ht : u.testBit k = true
      · rw [ht] at hbit
        go_wp2_with (first
          | (go_at_call 25; refine (blen_any m y _).mono ?_; rintro e1 w2 ⟨rfl, B2⟩; have HK2 := Lib.hid (HK.out.below B2); have HR2 := Lib.hid (HR.out.below B2); have HB2 := Lib.hid (HB.out.trans (B2.mono HB.out.size)); obtain ⟨ca0, ca1, fa0, fa1⟩ := HK2.out.c2; clear B2)
          | (go_at_call 13; refine (bput_any m y k _ hm hz).mono ?_; rw [if_pos hin]; rintro e1 w3 ⟨rfl, B3⟩; have HK3 := Lib.hid (HK2.out.below B3); have HR3 := Lib.hid (HR2.out.below B3); have HB3 := Lib.hid (HB2.out.trans (B3.mono HB2.out.size)); obtain ⟨ca0, ca1, fa0, fa1⟩ := HK3.out.c2; clear B3))
        go_roundw
        case rel =>
          refine ⟨k + 1, by omega, by push_cast; rfl, ?_, (HR3.out.setOther (by simp; omega) _).setOther (by simp; omega) _, (HB3.out.setCell (by simp; omega) _).setCell (by simp; omega) _⟩
          have h := (HK3.out.set 0 (.int .i64 m)).set 1 (.int .u64 (put y k : Nat))
          rw [HS.out, if_pos ht]
          exact h
        case measure => simp [intOf]; omega
      · have ht' : u.testBit k = false := by simpa using ht
        rw [ht'] at hbit
        go_wp2_with (go_at_call 25; refine (blen_any m y _).mono ?_; rintro e1 w2 ⟨rfl, B2⟩; have HK2 := Lib.hid (HK.out.below B2); have HR2 := Lib.hid (HR.out.below B2); have HB2 := Lib.hid (HB.out.trans (B2.mono HB.out.size)); obtain ⟨ca0, ca1, fa0, fa1⟩ := HK2.out.c2; clear B2)
        go_roundw
        case rel =>
          refine ⟨k + 1, by omega, by push_cast; rfl, ?_, HR2.out, HB2.out⟩
          rw [HS.out, if_neg ht]
          exact HK2.out
        case measure => simp [intOf]; omega
    · have hlt' : decide ((k : Int) < (m : Int)) = false := by simp; omega
      obtain rfl : k = m := by omega
      rw [← HM.out] at ca1 HK
      go_wp2_with (go_at_call 25; refine (blen_any k z _).mono ?_; rintro e1 w2 ⟨rfl, B2⟩; have HK2 := Lib.hid (HK.out.below B2); have HR2 := Lib.hid (HR.out.below B2); have HB2 := Lib.hid (HB.out.trans (B2.mono HB.out.size)); obtain ⟨ca0, ca1, fa0, fa1⟩ := HK2.out.c2; obtain ⟨cb0, cb1, fb0, fb1⟩ := HR2.out.c2; clear B2)
      refine ret_cell (k := 4) (by kernel_rfl) rfl rfl ((HR2.out.set 0 _).set 1 _) (by kernel_rfl) (by kernel_rfl) ⟨rfl, (HB2.out.setCell (by simp) _).setCell (by simp) _⟩
theorem row_any (n : Int) (u : Nat) (w : World) (hu : u < 18446744073709551616) :
    Calls Try.prog 21 #[.int .i64 n, .int .u64 (u : Int)] w fun e w' => e = .returned (.agg #[.int .i64 (newOf n : Nat), .int .u64 (rowOf n u : Nat)]) ∧ Below w.heap.size w w' :=
  row_core n u (newOf n) (rowOf n u) w hu (newOf_le n) rfl rfl

/-! ### The loader -/
def loadV : Option (Nat × Nat) → Value
  | some (n, b) => .tuple #[.agg #[.int .i64 n, .int .u64 b], .int .i64 0]
  | none => .tuple #[.agg #[.int .i64 0, .int .u64 0], .int .i64 4]
/-- A text's bytes as numbers. -/
def natsOf (s : ByteArray) : List Nat := s.data.toList.map UInt8.toNat

end Go.Proofs.Ytlgmomjofhbggaa
