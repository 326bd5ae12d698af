/- The walk of awake: it returns true; of large. No condition. -/
import Derived.Test.YtkflnldjckahnaaCodG
set_option linter.unusedVariables false
set_option linter.unusedSimpArgs false
namespace Go.Proofs.Ytkflnldjckahnaa
open Go.RowKit
theorem d1 : decB [3, 3, 0, 1, 216, 4] = some ⟨3, [0, -1, 300], []⟩ := by rfl
theorem d2 : decB [9, 16, 2, 97, 98] = some ⟨9, [], [⟨#[97, 98]⟩]⟩ := by rfl
theorem d3 : decB [3, 1, 128, 0] = none := by rfl
theorem n300 : (numB 300).length = 2 := by
  unfold numB zig
  rw [if_neg (by decide), varB_ge (by decide), varB_lt (by decide)]
  rfl
theorem largeB_any (r : Rec) (An At : Option Addr) (n t cn ct : Nat) (w : World) (h : RecAt w r An At n t cn ct) :
    Calls Try.prog 13 #[recV r.kind An At n t cn ct] w fun e w' => e = .returned (.bool (decide (1000 < n ∨ 1000 < t))) ∧ w' = w.alloc (.cells #[.int .i64 r.kind, .slice An n cn, .slice At t ct] tRec) := by
  clear h
  have e1 : decide ((1000 : Int) < (n : Int)) = decide (1000 < n) := by rw [decide_eq_decide]; omega
  have e2 : decide ((1000 : Int) < (t : Int)) = decide (1000 < t) := by rw [decide_eq_decide]; omega
  cases f1 : decide (1000 < n) <;> cases f2 : decide (1000 < t)
  all_goals
    have HX := Lib.hid (show decide (1000 < n ∨ 1000 < t) = (decide (1000 < n) || decide (1000 < t)) by rw [Bool.eq_iff_iff]; simp)
    rw [f1, f2] at HX
    rw [f1] at e1
    rw [f2] at e2
    go_enter Try.func13, Try.ntmps13
    go_wp2
    go_ret
    exact ⟨ret_bool HX.out.symm, rfl⟩
set_option maxRecDepth 100000 in
set_option maxHeartbeats 2000000 in
theorem awake_any (w : World) : Calls Try.prog 12 #[] w fun e w' => e = .returned (.bool true) ∧ Below w.heap.size w w' := by
  obtain ⟨m1, m2, m3⟩ := enc_dec d1
  obtain ⟨k1, k2, k3⟩ := enc_dec d2
  obtain ⟨g1, hg1⟩ : ∃ g, w.heap.size = g := ⟨_, rfl⟩
  have hs1 := (Sep.nil w).newBlk #[.int .i64 0, .int .i64 (-1), .int .i64 300] tI hg1
  have HG1 := Lib.hid hg1
  have HE1 := Lib.hid (encode_yes 3 [0, -1, 300] [] (some ⟨g1, 0, none⟩) none 3 0 3 0 _ ⟨rfl, rfl, (show Blk _ g1 _ tI from hs1.hd).rd, Rd.nil _ _, by decide, by decide⟩ m1 m3)
  have HS1 := Lib.hid hs1
  rw [m2] at HE1
  have HM := Lib.hid (And.intro k1 k3); have HK2 := Lib.hid k2
  clear hs1 hg1 m1 m2 m3 k1 k2 k3
  go_enter Try.func12, Try.ntmps12
  go_wp2_with fail
  rw [HG1.out]
  refine HE1.out.mono ?_
  rintro e w1 ⟨v1, rfl, hr⟩
  obtain ⟨A1, c1, rfl, _⟩ := hr.form
  have HS := Lib.hid (HS1.out.withRow hr rfl).d2
  clear hr HS1 HE1
  obtain ⟨g2, hg2⟩ : ∃ g, w1.heap.size = g := ⟨_, rfl⟩
  have hs1 := (Sep.nil w1).newBlk #[.int .u8 9, .int .u8 16, .int .u8 2, .int .u8 97, .int .u8 98] tB hg2
  have HE1 := Lib.hid (decode_any (some ⟨g2, 0, none⟩) [9, 16, 2, 97, 98] 5 5 _ rfl ((show Blk _ g2 _ tB from hs1.hd).rd) (by decide) (by intro h; cases h) (by decide))
  rw [d2] at HE1
  have HG := Lib.hid hg2
  have HS := Lib.hid (HS.out.step hs1.bel)
  clear hs1 hg2
  go_wp2_with fail
  rw [HG.out]
  refine HE1.out.mono ?_
  rintro e w2 ⟨An, At, cn, ct, rfl, hs2⟩
  have HS := Lib.hid ((HS.out.join hs2).newBlk #[.int .i64 9, .slice An 0 cn, .slice At 1 ct] tRec (g := w2.heap.size) rfl)
  obtain ⟨g4, hg4⟩ : ∃ g, w2.heap.size = g := ⟨_, rfl⟩
  rw [hg4] at HS
  have hb : Below w2.heap.size w2 (w2.alloc (.cells #[.int .i64 9, .slice An 0 cn, .slice At 1 ct] tRec)) := (Below.refl _ _).alloc (Nat.le_refl _) _
  have HG4 := Lib.hid hg4
  clear HE1 hs2 hg4
  go_upto_region 3 with fail
  rw [HG4.out]
  generalize w2.alloc (.cells #[.int .i64 9, .slice An 0 cn, .slice At 1 ct] tRec) = w3 at *
  obtain ⟨g5, hg5⟩ : ∃ g, w3.heap.size = g := ⟨_, rfl⟩
  have hs1 := (Sep.nil w3).newBlk #[.int .u8 3, .int .u8 1, .int .u8 128, .int .u8 0] tB hg5
  have HE1 := Lib.hid (decode_any (some ⟨g5, 0, none⟩) [3, 1, 128, 0] 4 4 _ rfl ((show Blk _ g5 _ tB from hs1.hd).rd) (by decide) (by intro h; cases h) (by decide))
  rw [d3] at HE1
  have HG := Lib.hid hg5
  have HS := Lib.hid (HS.out.step hs1.bel)
  clear hs1 hg5 hb
  go_wp2_with fail
  rw [HG.out]
  refine HE1.out.mono ?_
  rintro e w4 ⟨rfl, hb4⟩
  have HS := Lib.hid ((HS.out.step hb4).alloc (.cells zRec tRec))
  clear HE1 hb4
  go_upto_region 4 with fail
  generalize w4.alloc (.cells #[.int .i64 0, .slice none 0 0, .slice none 0 0] tRec) = w5 at *
  have HB := Lib.hid (show Blk w5 g4 #[.int .i64 9, .slice An 0 cn, .slice At 1 ct] tRec from HS.out.hd)
  have y0 := HB.out.cell 0; have y1 := HB.out.cell 1; have y2 := HB.out.cell 2
  simp at y0 y1 y2
  obtain ⟨b, o, rfl, u0⟩ := Rd.str (l := [⟨#[97, 98]⟩]) (Own.rd (HS.out.h3)) 0 ⟨#[97, 98]⟩ rfl
  simp only [Nat.add_zero] at u0
  have hcv := conv_str w5 A1 c1 [3, 3, 0, 1, 216, 4] (Own.rd (HS.out.h4)) 6 rfl
  have HR := Lib.hid (show RecAt w5 ⟨9, [], [⟨#[97, 98]⟩]⟩ An (some ⟨b, o, none⟩) 0 1 cn ct from ⟨rfl, rfl, Rd.nil _ _, Own.rd HS.out.h3, by decide, by decide⟩)
  have HSZ := Lib.hid (show (if mayB ⟨9, [], [⟨#[97, 98]⟩]⟩ = true then (encB ⟨9, [], [⟨#[97, 98]⟩]⟩).length else 0) = 5 by rw [if_pos HM.out.1, HK2.out]; rfl)
  go_wp2_with fail
  refine (size_any 9 [] [⟨#[97, 98]⟩] An _ 0 1 cn ct w5 HR.out HM.out.2).mono ?_
  rw [HSZ.out]
  rintro e w6 ⟨rfl, hb6⟩
  have HB := Lib.hid (HB.out.bel hb6)
  have HR := Lib.hid (HR.out.below hb6)
  have HW := Lib.hid (HS.out.step hb6).bel
  have y0 := HB.out.cell 0; have y1 := HB.out.cell 1; have y2 := HB.out.cell 2
  simp at y0 y1 y2
  clear hb6 HS
  go_wp2_with fail
  refine (may_any ⟨9, [], [⟨#[97, 98]⟩]⟩ An _ 0 1 cn ct w6 HR.out).mono ?_
  rw [HM.out.1]
  rintro e w7 ⟨rfl, hb7⟩
  have HW := Lib.hid (HW.out.trans (hb7.mono HW.out.size))
  clear hb7
  go_wp2_with fail
  refine (number_any 300 w7 (by unfold i64; omega)).mono ?_
  rintro e w8 ⟨v8, rfl, hr⟩
  obtain ⟨A8, c8, rfl, _⟩ := hr.form
  rw [n300]
  have HW := Lib.hid (HW.out.trans (hr.2.1.mono HW.out.size))
  clear hr
  go_wp2_with fail
  go_ret
  exact ⟨rfl, HW.out⟩
end Go.Proofs.Ytkflnldjckahnaa
