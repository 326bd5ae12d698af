/- The walk of awake: it returns true. No condition. -/
import Derived.Test.YtlgmomjofhbggaaBitD
set_option linter.unusedVariables false
set_option linter.unusedSimpArgs false
namespace Go.Proofs.Ytlgmomjofhbggaa
open Go.RowKit

def str3 : ByteArray := ⟨#[10, 2, 2]⟩
theorem q_new (w : World) : Calls Try.prog 11 #[.int .i64 10] w fun e w' => e = .returned (.agg #[.int .i64 10, .int .u64 0]) ∧ Below w.heap.size w w' := bnew_any 10 w
theorem q_put1 (w : World) : Calls Try.prog 13 #[.agg #[.int .i64 10, .int .u64 0], .int .i64 9] w fun e w' => e = .returned (.tuple #[.agg #[.int .i64 10, .int .u64 512], .int .i64 0]) ∧ Below w.heap.size w w' := bput_any 10 0 9 w (by decide) (by decide)
theorem q_put2 (w : World) : Calls Try.prog 13 #[.agg #[.int .i64 10, .int .u64 512], .int .i64 1] w fun e w' => e = .returned (.tuple #[.agg #[.int .i64 10, .int .u64 514], .int .i64 0]) ∧ Below w.heap.size w w' := bput_any 10 512 1 w (by decide) (by decide)
theorem q_put3 (w : World) : Calls Try.prog 13 #[.agg #[.int .i64 10, .int .u64 514], .int .i64 10] w fun e w' => e = .returned (.tuple #[.agg #[.int .i64 0, .int .u64 0], .int .i64 2]) ∧ Below w.heap.size w w' := bput_any 10 514 10 w (by decide) (by decide)
theorem q_next (w : World) : Calls Try.prog 27 #[.agg #[.int .i64 10, .int .u64 514], .int .i64 2] w fun e w' => e = .returned (.tuple #[.int .i64 9, .bool true]) ∧ Below w.heap.size w w' := bnext_any 10 514 2 w (by decide) (by decide) (by decide)
theorem q_load (w : World) : Calls Try.prog 19 #[.string ⟨#[10, 2, 2]⟩] w fun e w' => e = .returned (.tuple #[.agg #[.int .i64 10, .int .u64 514], .int .i64 0]) ∧ Below w.heap.size w w' := bload_any ⟨#[10, 2, 2]⟩ w (by decide)
theorem q_del (w : World) : Calls Try.prog 15 #[.agg #[.int .i64 10, .int .u64 514], .int .i64 9] w fun e w' => e = .returned (.tuple #[.agg #[.int .i64 10, .int .u64 2], .int .i64 0]) ∧ Below w.heap.size w w' := bdel_any 10 514 9 w (by decide) (by decide)
theorem q_or (w : World) : Calls Try.prog 16 #[.agg #[.int .i64 10, .int .u64 2], .agg #[.int .i64 10, .int .u64 514]] w fun e w' => e = .returned (.tuple #[.agg #[.int .i64 10, .int .u64 514], .int .i64 0]) ∧ Below w.heap.size w w' := bor_any 10 2 10 514 w (by decide) (by decide)
theorem q_all (w : World) : Calls Try.prog 24 #[.agg #[.int .i64 10, .int .u64 514]] w fun e w' => (∃ A c, e = .returned (.slice A 2 c)) ∧ Below w.heap.size w w' :=
  (ball_any 10 514 w (by decide) (by decide)).mono fun e w' ⟨v, he, ho, hB⟩ => by
    obtain ⟨A, c, rfl, _, _⟩ := own_rd ho
    exact ⟨⟨A, c, he⟩, hB⟩
theorem q_count (w : World) : Calls Try.prog 28 #[.agg #[.int .i64 10, .int .u64 2]] w fun e w' => e = .returned (.int .i64 1) ∧ Below w.heap.size w w' := bcount_any 10 2 w (by decide) (by decide)
theorem q_has (w : World) : Calls Try.prog 26 #[.agg #[.int .i64 10, .int .u64 514], .int .i64 9] w fun e w' => e = .returned (.bool true) ∧ Below w.heap.size w w' := bhas_any 10 514 9 w (by decide) (by decide)
theorem q_text (w : World) : Calls Try.prog 22 #[.agg #[.int .i64 10, .int .u64 514]] w fun e w' => e = .returned (.string ⟨#[10, 2, 2]⟩) ∧ Below w.heap.size w w' := btext_any 10 514 w (by decide) (by decide)
theorem q_len (w : World) : Calls Try.prog 25 #[.agg #[.int .i64 10, .int .u64 514]] w fun e w' => e = .returned (.int .i64 10) ∧ Below w.heap.size w w' := blen_any 10 514 w

theorem Blk.set2 {w : World} {g : Nat} {a b : Value} {T : TypeId} (h : Blk w g #[a, b] T) (x y : Value) : Blk ((w.setCell ⟨g, 0, none⟩ x).setCell ⟨g, 1, none⟩ y) g #[x, y] T := (h.set 0 x).set 1 y
theorem Below.set2 {B : Nat} {w w' : World} (h : Below B w w') {g : Nat} (hg : B ≤ g) (x y : Value) : Below B w ((w'.setCell ⟨g, 0, none⟩ x).setCell ⟨g, 1, none⟩ y) := (h.setCell hg _).setCell hg _
theorem Below.and {w w1 w2 : World} (h : Below w.heap.size w w1) (hB : Below w1.heap.size w1 w2) : Below w.heap.size w w2 := h.trans (hB.mono h.size)

set_option maxRecDepth 100000 in
set_option maxHeartbeats 2000000 in
theorem awake_any (w : World) : Calls Try.prog 10 #[] w fun e w' => e = .returned (.bool true) ∧ Below w.heap.size w w' := by
  go_enter Try.func10, Try.ntmps10
  go_wp2_with (first
    | (go_at_call 11; with_reducible refine (q_new _).mono ?_; rintro e1 w1 ⟨rfl, B1⟩; have HB1 := Lib.hid B1; clear B1)
    | (go_at_call 13; with_reducible refine (q_put1 _).mono ?_; rintro e2 w2 ⟨rfl, B2⟩; have HB2 := Lib.hid (HB1.out.trans (B2.mono HB1.out.size)); clear B2)
    | (go_at_call 13; with_reducible refine (q_put2 _).mono ?_; rintro e3 w3 ⟨rfl, B3⟩; have K1 := (Blk.new w2 #[.int .i64 10, .int .u64 512] 26).below B3; have HB3 := Lib.hid (Below.and (HB2.out.alloc HB2.out.size _) B3); obtain ⟨c10, c11, f10, f11⟩ := K1.c2; have HK1 := Lib.hid K1; clear K1 B3)
    | (go_at_call 27; with_reducible refine (q_next _).mono ?_; rintro e4 w4 ⟨rfl, B4⟩; have K1 := (Blk.set2 HK1.out (.int .i64 10) (.int .u64 514)).below B4; have HB4 := Lib.hid (Below.and (Below.set2 HB3.out HB2.out.size _ _) B4); have HJ1 := Lib.hid K1; clear K1 B4 c10 c11 f10 f11)
    | (go_at_call 19; with_reducible refine (q_load _).mono ?_; rintro e5 w5 ⟨rfl, B5⟩; have K1 := (HJ1.out.below B5).alloc (.cells #[.int .i64 10, .int .u64 514] 26); have HB5 := Lib.hid (HB4.out.trans (B5.mono HB4.out.size)); obtain ⟨c10, c11, f10, f11⟩ := K1.c2; have HI1 := Lib.hid K1; clear K1 B5)
    | (go_at_call 15; with_reducible refine (q_del _).mono ?_; rintro e6 w6 ⟨rfl, B6⟩; have K1 := (HI1.out.below B6).alloc (.cells #[.int .i64 10, .int .u64 2] 26); have K6 := ((Blk.new w5 #[.int .i64 10, .int .u64 514] 26).below B6).alloc (.cells #[.int .i64 10, .int .u64 2] 26); have HB6 := Lib.hid (Below.and (HB5.out.alloc HB5.out.size _) B6); clear c10 c11 f10 f11; obtain ⟨c10, c11, f10, f11⟩ := K1.c2; have HI1 := Lib.hid K1; have HI6 := Lib.hid K6; clear K1 K6 B6)
    | (go_at_call 13; with_reducible refine (q_put3 _).mono ?_; rintro e7 w7 ⟨rfl, B7⟩; have K1 := (HI1.out.below B7).alloc (.cells #[.int .i64 0, .int .u64 0] 26); have K6 := (HI6.out.below B7).alloc (.cells #[.int .i64 0, .int .u64 0] 26); have K8 := ((Blk.new w6 #[.int .i64 10, .int .u64 2] 26).below B7).alloc (.cells #[.int .i64 0, .int .u64 0] 26); have HB7 := Lib.hid (Below.and (HB6.out.alloc HB6.out.size _) B7); clear c10 c11 f10 f11; obtain ⟨c10, c11, f10, f11⟩ := K1.c2; obtain ⟨c80, c81, f80, f81⟩ := K8.c2; have HI1 := Lib.hid K1; have HI6 := Lib.hid K6; have HI8 := Lib.hid K8; clear K1 K6 K8 B7)
    | (go_at_call 16; with_reducible refine (q_or _).mono ?_; rintro e8 w8 ⟨rfl, B8⟩; have K1 := (HI1.out.below B8).alloc (.cells #[.int .i64 10, .int .u64 514] 26); have K6 := (HI6.out.below B8).alloc (.cells #[.int .i64 10, .int .u64 514] 26); have K8 := (HI8.out.below B8).alloc (.cells #[.int .i64 10, .int .u64 514] 26); have HB8 := Lib.hid (Below.and (HB7.out.alloc HB7.out.size _) B8); clear c10 c11 f10 f11 c80 c81 f80 f81; obtain ⟨c60, c61, f60, f61⟩ := K6.c2; have HI1 := Lib.hid K1; have HI6 := Lib.hid K6; have HI8 := Lib.hid K8; clear K1 K6 K8 B8)
    | (go_at_call 24; with_reducible refine (q_all _).mono ?_; rintro e9 w9 ⟨⟨A9, cc9, rfl⟩, B9⟩; have K1 := HI1.out.below B9; have K2 := (Blk.new w8 #[.int .i64 10, .int .u64 514] 26).below B9; have K8 := HI8.out.below B9; have HB9 := Lib.hid (Below.and (HB8.out.alloc HB8.out.size _) B9); clear c60 c61 f60 f61; obtain ⟨c80, c81, f80, f81⟩ := K8.c2; have HI1 := Lib.hid K1; have HI2 := Lib.hid K2; have HI8 := Lib.hid K8; clear K1 K2 K8 B9)
    | (go_at_call 28; with_reducible refine (q_count _).mono ?_; rintro e10 w10 ⟨rfl, B10⟩; have K1 := HI1.out.below B10; have K2 := HI2.out.below B10; have HB10 := Lib.hid (HB9.out.trans (B10.mono HB9.out.size)); clear c80 c81 f80 f81; obtain ⟨c20, c21, f20, f21⟩ := K2.c2; have HI1 := Lib.hid K1; clear K1 K2 B10)
    | (go_at_call 26; with_reducible refine (q_has _).mono ?_; rintro e11 w11 ⟨rfl, B11⟩; have K1 := HI1.out.below B11; have HB11 := Lib.hid (HB10.out.trans (B11.mono HB10.out.size)); clear c20 c21 f20 f21; obtain ⟨c10, c11, f10, f11⟩ := K1.c2; have HI1 := Lib.hid K1; clear K1 B11)
    | (go_at_call 22; with_reducible refine (q_text _).mono ?_; rintro e12 w12 ⟨rfl, B12⟩; have K1 := HI1.out.below B12; have HB12 := Lib.hid (HB11.out.trans (B12.mono HB11.out.size)); clear c10 c11 f10 f11; obtain ⟨c10, c11, f10, f11⟩ := K1.c2; clear K1 B12)
    | (go_at_call 25; with_reducible refine (q_len _).mono ?_; rintro e13 w13 ⟨rfl, B13⟩; have HB13 := Lib.hid (HB12.out.trans (B13.mono HB12.out.size)); clear B13))
  go_ret
  exact ⟨rfl, HB13.out⟩
end Go.Proofs.Ytlgmomjofhbggaa
