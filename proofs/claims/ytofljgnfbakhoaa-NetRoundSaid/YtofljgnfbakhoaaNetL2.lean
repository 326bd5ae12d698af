/- The walk of the law NetRound: it returns true. No condition but the row's own. -/
import Derived.Test.YtofljgnfbakhoaaNetL1
import Derived.Test.YtofljgnfbakhoaaNetC
set_option linter.unusedVariables false
set_option linter.unusedSimpArgs false
namespace Go.Proofs.Ytofljgnfbakhoaa
open Go.RowKit
theorem rd_own {w W W2 : World} {l : List Th} {A : Option Addr} {n c : Nat} {e : TypeId} {sz : Nat} {xs : List Value} (h : Sep w W (tOwn e sz (.slice A n c) n xs :: l)) : Rd W A xs := h.own.rd
set_option maxRecDepth 100000 in
set_option maxHeartbeats 2000000 in
theorem w_NetRound (a0 : Option Addr) (n0 c0 : Nat) (a1 : Int) (w : World) (b0 : Sh.Is w (.slice 32 (.pair (.int .i64) (.pair (.int .i64) (.pair .str .unit)))) [.slice a0 n0 c0]) (b1 : -9223372036854775808 ≤ a1 ∧ a1 ≤ 9223372036854775807) :
    Calls Try.prog 7 #[.slice a0 n0 c0, .int .i64 a1] w fun e w' => e = .returned (.bool true) ∧ Below w.heap.size w w' := by
  obtain ⟨xs, xl, xr⟩ := is_letters b0
  have HXL := Lib.hid xl; have HXR := Lib.hid xr
  clear b0 xl xr
  go_enter Try.func7, Try.ntmps7
  go_wp2_with fail
  refine (awake_any _).mono ?_
  rintro e w1 ⟨rfl, hB1⟩
  have HS := Lib.hid ((Sep.nil w).step hB1)
  clear hB1
  go_wp2_with fail
  refine (nnew_sep HS.out).mono ?_
  rintro e w2 ⟨rfl, hs⟩
  have HS := Lib.hid hs
  clear hs
  generalize w1.heap.size = ba at *
  go_wp2_with fail
  refine (nnew_sep HS.out).mono ?_
  rintro e w3 ⟨rfl, hs⟩
  have HS := Lib.hid hs.sw
  clear hs
  generalize w2.heap.size = bb at *
  go_wp2_with fail
  go_loopg [7] 401 (fun gk s7 wr => ∃ (k : Nat) (la lb : Value) (l : List Letter), s7 = .int .i64 (k : Int) ∧ k ≤ 400 ∧ gk = 401 - k ∧ l.length ≤ 300 ∧ Sep w wr [tN ba la l, tN bb lb l])
  case atStart => exact ⟨0, _, _, [], rfl, by decide, rfl, by decide, HS.out⟩
  case round =>
  clear HS
  obtain ⟨k, la, lb, l, rfl, hk, hgk, hl, hs⟩ := hrel
  have HS := Lib.hid hs
  clear hs
  by_cases q : k < n0 ∧ k < 400
  · obtain ⟨q1, q2⟩ := q
    have q1' : decide ((k : Int) < (n0 : Int)) = true := by simp; omega
    have q2' : decide ((k : Int) < 400) = true := by simp; omega
    have i0 : (0 : Int) ≤ (k : Int) := by omega
    have i1 : (k : Int) < (n0 : Int) := by omega
    have HX := Lib.hid (List.getElem?_eq_getElem (l := xs) (i := k) (by rw [HXL.out]; exact q1))
    generalize xs[k]'(by rw [HXL.out]; exact q1) = x at *
    obtain ⟨g, o, rfl, y0, y1, y2⟩ := (HXR.out.below HS.out.bel).let3 k x HX.out
    obtain ⟨xf, xt, xd⟩ := x
    simp only at y0 y1 y2
    have HL1 := Lib.hid (sendL_le (x := ⟨xf, xt, xd⟩) hl)
    go_wp2_with (first
      | (go_at_call 11; with_reducible refine (send_sep HS.out ⟨xf, xt, xd⟩).mono ?_; rintro e w4 ⟨rfl, la4, hs⟩; have HS4 := Lib.hid hs.sw; obtain ⟨g', o', he', v0, v1, v2⟩ := (HXR.out.below hs.bel).let3 k _ HX.out; simp only [Option.some.injEq, Addr.mk.injEq, and_true] at he'; rw [← he'.1, ← he'.2] at v0 v1 v2; simp only at v0 v1 v2; clear hs he' y0 y1 y2)
      | (go_at_call 11; with_reducible refine (send_sep HS4.out ⟨xf, xt, xd⟩).mono ?_; rintro e w5 ⟨rfl, lb5, hs⟩; have HS5 := Lib.hid hs.sw; clear hs))
    go_roundg (401 - (k + 1))
    case measure => omega
    case rel => exact ⟨k + 1, la4, lb5, _, by push_cast; rfl, by omega, rfl, HL1.out, HS5.out⟩
  · have q3 : (k < n0 → ¬ k < 400) := fun h1 h2 => q ⟨h1, h2⟩
    clear q
    obtain ⟨n, hn⟩ : ∃ n, l.length = n := ⟨_, rfl⟩
    have hn3 : n ≤ 300 := by omega
    obtain ⟨X, hX⟩ : ∃ X, tkX l a1 = X := ⟨_, rfl⟩
    obtain ⟨L, hL⟩ : ∃ L, tkL l a1 = L := ⟨_, rfl⟩
    obtain ⟨t, ht⟩ : ∃ t, tkB l = t := ⟨_, rfl⟩
    obtain ⟨m, hm⟩ : ∃ m, L.length = m := ⟨_, rfl⟩
    have hm3 : m ≤ 300 := by rw [← hm, ← hL]; have := takeL_le l (atK a1 l.length); unfold tkL; omega
    have HX2 := Lib.hid (show tkX l (a1 - 3 * n) = X by rw [← hX, ← tkX_shift l a1 (-3), hn, show a1 - 3 * (n : Int) = a1 + -3 * n by omega])
    have HL2 := Lib.hid (show tkL l (a1 - 3 * n) = L by rw [← hL, ← tkL_shift l a1 (-3), hn, show a1 - 3 * (n : Int) = a1 + -3 * n by omega])
    have HC2 := Lib.hid (show cpB L (a1 + 2 * m) = cpB L a1 by rw [← cpB_shift L a1 2, hm])
    have HD2 := Lib.hid (show cpL L (a1 + 2 * m) = cpL L a1 by rw [← cpL_shift L a1 2, hm])
    obtain ⟨cb, hcb⟩ : ∃ c, cpB L a1 = c := ⟨_, rfl⟩
    obtain ⟨C, hC⟩ : ∃ C, cpL L a1 = C := ⟨_, rfl⟩
    have HCC := Lib.hid (show C.length ≤ 300 by rw [← hC]; unfold cpL; split; exact sendL_le (by omega); omega)
    obtain ⟨z, hz⟩ : ∃ z, C.length = z := ⟨_, rfl⟩
    have hz3 : z ≤ 300 := by have := HCC.out; omega
    have HN := Lib.hid hn; have HX1 := Lib.hid hX; have HL1 := Lib.hid hL; have HT := Lib.hid ht; have HM := Lib.hid hm; have HC1 := Lib.hid hcb; have HD1 := Lib.hid hC; have HZ := Lib.hid hz; have HLL := Lib.hid hl
    clear hn hX hL ht hm hcb hC hz hl
    obtain ⟨xf, xt, xd⟩ := X
    by_cases q1 : k < n0
    all_goals
      first
        | have q1' : decide ((k : Int) < (n0 : Int)) = true := by simp; omega
        | (have q1' : decide ((k : Int) < (n0 : Int)) = false := by simp; omega
           have q1n : ¬ ((k : Int) < (n0 : Int)) := by omega)
      first
        | have q2' : decide ((k : Int) < 400) = false := by have := q3 q1; simp; omega
        | have q2' : True := trivial
      clear q3
      by_cases g1 : a1 < -1152921504606846976
      · have g1' : decide (a1 < -1152921504606846976) = true := by simpa using g1
        go_wp2_with fail
        go_ret
        exact ⟨rfl, HS.out.bel⟩
      have g1' : decide (a1 < -1152921504606846976) = false := by simpa using g1
      by_cases g2 : 1152921504606846976 < a1
      · have g2' : decide (1152921504606846976 < a1) = true := by simpa using g2
        go_wp2_with fail
        go_ret
        exact ⟨rfl, HS.out.bel⟩
      have g2' : decide (1152921504606846976 < a1) = false := by simpa using g2
      have w1 : IntKind.i64.wrap (3 * (n : Int)) = 3 * n := IntWalk.i64_in _ (by omega)
      have w2 : IntKind.i64.wrap (a1 - 3 * (n : Int)) = a1 - 3 * n := IntWalk.i64_in _ (by omega)
      have w3 : IntKind.i64.wrap (2 * (m : Int)) = 2 * m := IntWalk.i64_in _ (by omega)
      have w4 : IntKind.i64.wrap (a1 + 2 * (m : Int)) = a1 + 2 * m := IntWalk.i64_in _ (by omega)
      clear g1 g2
      go_wp2_with fail
      refine (take_sep HS.out a1 HLL.out).mono ?_
      rw [HX1.out, HT.out, HL1.out]
      rintro e w4 ⟨rfl, la4, hs⟩
      have HS4 := Lib.hid (hs.newBlk #[.int .i64 xf, .int .i64 xt, .string xd] tL (g := w4.heap.size) rfl).r3
      clear hs
      go_upto_region 12 with fail
      generalize w4.alloc (.cells #[.int .i64 xf, .int .i64 xt, .string xd] tL) = w5 at *
      generalize w4.heap.size = g8 at *
      go_wp2_with fail
      refine (len_sep HS4.out).mono ?_
      rw [HN.out]
      rintro e w6 ⟨rfl, hs⟩
      have HS6 := Lib.hid hs
      clear hs HS4
      go_wp2_with fail
      refine (take_sep HS6.out (a1 - 3 * n) HLL.out).mono ?_
      rw [HX2.out, HT.out, HL2.out]
      rintro e w7 ⟨rfl, lb7, hs⟩
      have HS7 := Lib.hid (hs.newBlk #[.int .i64 xf, .int .i64 xt, .string xd] tL (g := w7.heap.size) rfl).r4
      clear hs HS6
      go_upto_region 13 with fail
      generalize w7.alloc (.cells #[.int .i64 xf, .int .i64 xt, .string xd] tL) = w8 at *
      generalize w7.heap.size = g10 at *
      have y0 := (show Blk w8 g10 #[.int .i64 xf, .int .i64 xt, .string xd] tL from HS7.out.h2).cell 0
      have y1 := (show Blk w8 g10 #[.int .i64 xf, .int .i64 xt, .string xd] tL from HS7.out.h2).cell 1
      have y2 := (show Blk w8 g10 #[.int .i64 xf, .int .i64 xt, .string xd] tL from HS7.out.h2).cell 2
      have v0 := (show Blk w8 g8 #[.int .i64 xf, .int .i64 xt, .string xd] tL from HS7.out.h4).cell 0
      have v1 := (show Blk w8 g8 #[.int .i64 xf, .int .i64 xt, .string xd] tL from HS7.out.h4).cell 1
      have v2 := (show Blk w8 g8 #[.int .i64 xf, .int .i64 xt, .string xd] tL from HS7.out.h4).cell 2
      simp at y0 y1 y2 v0 v1 v2
      have HM3 := Lib.hid (show L.length ≤ 300 by rw [HM.out]; exact hm3)
      go_wp2_with fail
      refine (all_sep HS7.out HM3.out).mono ?_
      rw [HM.out]
      rintro e w9 ⟨A9, c9, rfl, hs⟩
      have HS9 := Lib.hid hs.r4
      clear hs HS7 y0 y1 y2 v0 v1 v2
      go_wp2_with fail
      refine (all_sep HS9.out HM3.out).mono ?_
      rw [HM.out]
      rintro e w10 ⟨A10, c10, rfl, hs⟩
      have R9 := Lib.hid (show Rd w10 A9 (eLet.fl L) from (show Own w10 tL 3 (.slice A9 m c9) m (eLet.fl L) from hs.h3).rd)
      have R10 := Lib.hid (show Rd w10 A10 (eLet.fl L) from hs.own.rd)
      have HS10 := Lib.hid hs.tail.d2.sw
      clear hs HS9
      go_wp2_with fail
      refine (same_any A9 A10 m c9 c10 L w10 HM.out R9.out R10.out (by omega)).mono ?_
      rintro e w11 ⟨rfl, q11, rfl⟩
      have HS11 := Lib.hid (HS10.out.drewN q11)
      clear HS10 R9 R10
      go_wp2_with fail
      refine (copy_sep HS11.out a1 HM3.out).mono ?_
      rw [HC1.out, HD1.out]
      rintro e w12 ⟨rfl, la12, hs⟩
      have HS12 := Lib.hid hs.sw
      clear hs HS11
      go_wp2_with fail
      refine (len_sep HS12.out).mono ?_
      rw [HM.out]
      rintro e w13 ⟨rfl, hs⟩
      have HS13 := Lib.hid hs
      clear hs HS12
      go_wp2_with fail
      refine (copy_sep HS13.out (a1 + 2 * m) HM3.out).mono ?_
      rw [HC2.out, HD2.out, HC1.out, HD1.out]
      rintro e w14 ⟨rfl, lb14, hs⟩
      have HS14 := Lib.hid hs.sw
      clear hs HS13
      go_wp2_with fail
      refine (all_sep HS14.out HCC.out).mono ?_
      rw [HZ.out]
      rintro e w15 ⟨A15, c15, rfl, hs⟩
      have HS15 := Lib.hid hs.r3
      clear hs HS14
      go_wp2_with fail
      refine (all_sep HS15.out HCC.out).mono ?_
      rw [HZ.out]
      rintro e w16 ⟨A16, c16, rfl, hs⟩
      have R15 := Lib.hid (show Rd w16 A15 (eLet.fl C) from (show Own w16 tL 3 (.slice A15 z c15) z (eLet.fl C) from hs.h3).rd)
      have R16 := Lib.hid (show Rd w16 A16 (eLet.fl C) from hs.own.rd)
      have HB := Lib.hid hs.bel
      clear hs HS15
      go_wp2_with fail
      refine (same_any A15 A16 z c15 c16 C w16 HZ.out R15.out R16.out (by omega)).mono ?_
      rintro e w17 ⟨rfl, q17, rfl⟩
      go_wp2_with fail
      go_ret
      exact ⟨rfl, ⟨HB.out.os, HB.out.tape, HB.out.output, HB.out.size, HB.out.block⟩⟩
end Go.Proofs.Ytofljgnfbakhoaa
