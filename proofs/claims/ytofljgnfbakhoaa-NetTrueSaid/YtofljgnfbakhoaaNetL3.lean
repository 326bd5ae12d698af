/- The walk of the law NetOrder: it returns true. No condition but the row's own. -/
import Derived.Test.YtofljgnfbakhoaaNetL1
import Derived.Test.YtofljgnfbakhoaaNetC
set_option linter.unusedVariables false
set_option linter.unusedSimpArgs false
namespace Go.Proofs.Ytofljgnfbakhoaa
open Go.RowKit
theorem len_any (b : Nat) (A : Option Addr) (n c : Nat) (w : World) (hb : Blk w b #[.slice A n c] 51) :
    Calls Try.prog 20 #[.pointer (some ⟨b, 0, none⟩)] w fun e w' => e = .returned (.int .i64 n) ∧ w = w' := by
  have z0 : w.cell? ⟨b, 0, none⟩ = some (.slice A n c) := hb.cell 0
  clear hb
  go_enter Try.func20, Try.ntmps20
  go_wp2
  go_ret
  exact ⟨rfl, rfl⟩
theorem atK_zero {n : Nat} : atK 0 n = 0 := by simp [atK]
theorem tk0 (L : List Letter) (j : Nat) (x : Letter) (hx : L[j]? = some x) : tkX (L.drop j) 0 = x ∧ tkL (L.drop j) 0 = L.drop (j + 1) ∧ tkB (L.drop j) = true := by
  obtain ⟨hj, rfl⟩ := List.getElem?_eq_some_iff.1 hx
  refine ⟨?_, ?_, ?_⟩
  · unfold tkX; rw [atK_zero]; simp [List.getElem?_drop, List.getElem?_eq_getElem hj]
  · unfold tkL; rw [atK_zero]; unfold takeL; simp [List.drop_drop]
  · unfold tkB; rw [List.drop_eq_getElem_cons hj]; rfl
theorem sendE_five {l : List Letter} {x : Letter} (h : sendE l x = 5) : 300 ≤ l.length := by
  unfold sendE at h
  split at h
  · split at h
    · cases h
    · split at h
      · assumption
      · cases h
  · cases h
set_option maxRecDepth 100000 in
set_option maxHeartbeats 2000000 in
theorem w_NetOrder (a0 : Option Addr) (n0 c0 : Nat) (w : World) (b0 : Sh.Is w (.slice 32 (.pair (.int .i64) (.pair (.int .i64) (.pair .str .unit)))) [.slice a0 n0 c0]) :
    Calls Try.prog 5 #[.slice a0 n0 c0] w fun e w' => e = .returned (.bool true) ∧ Below w.heap.size w w' := by
  obtain ⟨xs, xl, xr⟩ := is_letters b0
  have HXL := Lib.hid xl; have HXR := Lib.hid xr
  clear b0 xl xr
  go_enter Try.func5, Try.ntmps5
  go_wp2_with fail
  refine (awake_any _).mono ?_
  rintro e w1 ⟨rfl, hB1⟩
  have HS := Lib.hid ((Sep.nil w).step hB1)
  clear hB1
  go_wp2_with fail
  refine (nnew_sep HS.out).mono ?_
  rintro e w2 ⟨rfl, hs⟩
  have HS := Lib.hid (hs.newRow tL 3 (g := w2.heap.size) rfl).sw
  clear hs
  generalize w1.heap.size = b at *
  go_wp2_with fail
  generalize w2.alloc (.cells #[] tL) = w3 at *
  generalize w2.heap.size = g4 at *
  go_loopg [4, 5] 401 (fun gk s4 s5 wr => ∃ (k : Nat) (lv v4 : Value) (L : List Letter), v4 = s4 ∧ s5 = .int .i64 (k : Int) ∧ k ≤ 400 ∧ gk = 401 - k ∧ L.length ≤ 300 ∧ Sep w wr [tN b lv L, tOwn tL 3 v4 L.length (eLet.fl L)])
  case atStart => exact ⟨0, _, _, [], rfl, rfl, by decide, rfl, by decide, HS.out⟩
  case round =>
  clear HS
  obtain ⟨k, lv, v4, L, rfl, rfl, hk, hgk, hl, hs⟩ := hrel
  obtain ⟨A4, c4, rfl, _⟩ := hs.sw.own.form
  have HS := Lib.hid hs
  have HLL := Lib.hid hl
  clear hs hl
  by_cases q : k < n0 ∧ k < 400
  · obtain ⟨q1, q2⟩ := q
    have q1' : decide ((k : Int) < (n0 : Int)) = true := by simp; omega
    have q2' : decide ((k : Int) < 400) = true := by simp; omega
    have i0 : (0 : Int) ≤ (k : Int) := by omega
    have i1 : (k : Int) < (n0 : Int) := by omega
    have HX := Lib.hid (List.getElem?_eq_getElem (l := xs) (i := k) (by rw [HXL.out]; exact q1))
    generalize xs[k]'(by rw [HXL.out]; exact q1) = x at *
    obtain ⟨g, o, rfl, y0, y1, y2⟩ := (HXR.out.below HS.out.bel).let3 k x HX.out
    obtain ⟨xf, xt, xd⟩ := x
    simp only at y0 y1 y2
    obtain ⟨e0, he0⟩ : ∃ e, sendE L ⟨xf, xt, xd⟩ = e := ⟨_, rfl⟩
    have HE := Lib.hid he0
    have HR4 := Lib.hid (show 1 = 1 from rfl)
    by_cases h0 : e0 = 0
    · subst h0
      have HSL := Lib.hid (sendL_ok he0)
      have hlt : L.length < 300 := (sendE_inv he0).2.2
      have HL32 := Lib.hid (show (L.length + 1) * 32 ≤ 140737488355328 by omega)
      clear he0
      go_wp2_with (first
        | (go_at_call 11; with_reducible refine (send_sep HS.out ⟨xf, xt, xd⟩).mono ?_; rw [HE.out, HSL.out]; rintro e w4 ⟨rfl, la4, hs⟩; have HS4 := Lib.hid hs.sw; obtain ⟨g', o', he', v0, v1, v2⟩ := (HXR.out.below hs.bel).let3 k _ HX.out; simp only [Option.some.injEq, Addr.mk.injEq, and_true] at he'; rw [← he'.1, ← he'.2] at v0 v1 v2; simp only at v0 v1 v2; clear hs he' y0 y1 y2)
        | (at_builtin; refine app1O 27 tL (.agg #[.int .i64 0, .int .i64 0, .string ByteArray.empty]) 3 32 (eLet.f ⟨xf, xt, xd⟩) HS4.out.own HL32.out Try.underlying27 Try.infoL rfl (by decide) (by decide) rfl (eLet.one _) (.tmp 34) (.tmp 39) rfl rfl rfl rfl ?_; intro v5 w5 ho hg hat; have HS5 := Lib.hid (HS4.out.appG ho hg hat).sw; clear ho hg hat))
      go_roundg (401 - (k + 1))
      case measure => omega
      case rel => exact ⟨k + 1, _, _, L ++ [⟨xf, xt, xd⟩], rfl, by push_cast; rfl, by omega, rfl, by simp; omega, by rw [Enc.snoc, List.length_append]; exact HS5.out⟩
    · have h0' : (e0 == 0) = false := by simpa using h0
      have HSL := Lib.hid (sendL_no (by rw [he0]; exact h0))
      by_cases h5 : e0 = 5
      · subst h5
        have hl3 : L.length = 300 := by have := sendE_five he0; have := HLL.out; omega
        have hl3' : ((L.length : Int) != 300) = false := by simp; omega
        clear he0 h0 hl3
        go_wp2_with (go_at_call 11; with_reducible refine (send_sep HS.out ⟨xf, xt, xd⟩).mono ?_; rw [HE.out, HSL.out]; rintro e w4 ⟨rfl, la4, hs⟩; have HS4 := Lib.hid hs; clear hs)
        go_roundg (401 - (k + 1))
        case measure => omega
        case rel => exact ⟨k + 1, _, _, L, rfl, by push_cast; rfl, by omega, rfl, HLL.out, HS4.out⟩
      · have h5' : (e0 == 5) = false := by simpa using h5
        clear he0 h0 h5
        go_wp2_with (go_at_call 11; with_reducible refine (send_sep HS.out ⟨xf, xt, xd⟩).mono ?_; rw [HE.out, HSL.out]; rintro e w4 ⟨rfl, la4, hs⟩; have HS4 := Lib.hid hs; clear hs)
        go_roundg (401 - (k + 1))
        case measure => omega
        case rel => exact ⟨k + 1, _, _, L, rfl, by push_cast; rfl, by omega, rfl, HLL.out, HS4.out⟩
  · have q3 : (k < n0 → ¬ k < 400) := fun h1 h2 => q ⟨h1, h2⟩
    clear q
    obtain ⟨n, hn⟩ : ∃ n, L.length = n := ⟨_, rfl⟩
    have hn3 : n ≤ 300 := by rw [← hn]; exact HLL.out
    rw [hn] at HS
    have HN := Lib.hid hn
    clear hn
    by_cases q1 : k < n0
    all_goals
      first
        | have q1' : decide ((k : Int) < (n0 : Int)) = true := by simp; omega
        | (have q1' : decide ((k : Int) < (n0 : Int)) = false := by simp; omega
           have q1n : ¬ ((k : Int) < (n0 : Int)) := by omega)
      first
        | have q2' : decide ((k : Int) < 400) = false := by have := q3 q1; simp; omega
        | have q2' : True := trivial
      clear q3
      rw [HN.out]
      have n3 : decide ((300 : Int) < (n : Int)) = false := by simp; omega
      go_wp2_with fail
      refine (all_sep HS.out HLL.out).mono ?_
      rw [HN.out]
      rintro e w4 ⟨A5, c5, rfl, hs⟩
      have R4 := Lib.hid (show Rd w4 A4 (eLet.fl L) from (show Own w4 tL 3 (.slice A4 n c4) n (eLet.fl L) from hs.h3).rd)
      have R5 := Lib.hid (show Rd w4 A5 (eLet.fl L) from hs.own.rd)
      have HS4 := Lib.hid hs.tail
      clear hs HS
      go_wp2_with fail
      refine (same_any A5 A4 n c5 c4 L w4 HN.out R5.out R4.out (by omega)).mono ?_
      rintro e w5 ⟨rfl, q5, rfl⟩
      have HS5 := Lib.hid (HS4.out.drewN q5)
      clear HS4 R4 R5
      go_wp2_with fail
      generalize w4.drewN q5 = w6 at *
      go_loopg [60] n (fun gk s60 wr => ∃ (j : Nat) (lv : Value), s60 = .int .i64 (j : Int) ∧ j ≤ n ∧ gk = n - j ∧ Sep w wr [tN b lv (L.drop j), tOwn tL 3 (.slice A4 n c4) n (eLet.fl L)])
      case atStart => exact ⟨0, _, rfl, by omega, by omega, by simpa using HS5.out⟩
      case round =>
      clear HS5
      obtain ⟨j, lv, rfl, hj, hgj, hs⟩ := hrel
      have HS := Lib.hid hs
      clear hs
      by_cases hjn : j < n
      · have j0 : (0 : Int) ≤ (j : Int) := by omega
        have j1 : (j : Int) < (n : Int) := by omega
        have HX := Lib.hid (List.getElem?_eq_getElem (l := L) (i := j) (by rw [HN.out]; exact hjn))
        generalize L[j]'(by rw [HN.out]; exact hjn) = x at *
        have HK := Lib.hid (tk0 L j x HX.out)
        have HDL := Lib.hid (show (L.drop j).length ≤ 300 by rw [List.length_drop, HN.out]; omega)
        obtain ⟨m, hm⟩ : ∃ m, (L.drop (j + 1)).length = m := ⟨_, rfl⟩
        have hm2 : (m : Int) = n - 1 - j := by rw [← hm, List.length_drop, HN.out]; omega
        have HM := Lib.hid hm
        clear hm
        obtain ⟨xf, xt, xd⟩ := x
        have s1 : IntKind.i64.wrap ((n : Int) - 1) = n - 1 := IntWalk.i64_in _ (by omega)
        have s2 : IntKind.i64.wrap ((n : Int) - 1 - j) = m := by rw [IntWalk.i64_in _ (by omega)]; omega
        clear hm2
        go_wp2_with fail
        refine (take_sep HS.out 0 HDL.out).mono ?_
        rw [HK.out.1, HK.out.2.1, HK.out.2.2]
        rintro e w7 ⟨rfl, lv7, hs⟩
        obtain ⟨g, o, rfl, y0, y1, y2⟩ := ((show Own w7 tL 3 (.slice A4 n c4) n (eLet.fl L) from hs.h2).alloc (.cells #[.int .i64 xf, .int .i64 xt, .string xd] tL)).rd.let3 j _ HX.out
        simp only at y0 y1 y2
        have HS7 := Lib.hid (hs.newBlk #[.int .i64 xf, .int .i64 xt, .string xd] tL (g := w7.heap.size) rfl).sw
        clear hs HS
        go_upto_region 19 with fail
        have v0 := (show Blk (w7.alloc (.cells #[.int .i64 xf, .int .i64 xt, .string xd] tL)) w7.heap.size #[.int .i64 xf, .int .i64 xt, .string xd] tL from HS7.out.h2).cell 0
        have v1 := (show Blk (w7.alloc (.cells #[.int .i64 xf, .int .i64 xt, .string xd] tL)) w7.heap.size #[.int .i64 xf, .int .i64 xt, .string xd] tL from HS7.out.h2).cell 1
        have v2 := (show Blk (w7.alloc (.cells #[.int .i64 xf, .int .i64 xt, .string xd] tL)) w7.heap.size #[.int .i64 xf, .int .i64 xt, .string xd] tL from HS7.out.h2).cell 2
        generalize w7.alloc (.cells #[.int .i64 xf, .int .i64 xt, .string xd] tL) = w8 at *
        generalize w7.heap.size = g8 at *
        obtain ⟨hb8, A8, c8, he8, _⟩ := HS7.out.box
        rw [he8, HM.out] at hb8
        have HB8 := Lib.hid hb8
        simp at v0 v1 v2
        clear hb8 he8
        go_quiet ((go_at_call 20; exact Calls.quiet_of_same ((len_any b A8 m c8 _ (HB8.out.drewN _)).mono fun _ _ h => ⟨h.1, h.2.symm⟩)))
        go_wp2_with fail
        go_roundg (n - (j + 1))
        case measure => omega
        case rel => exact ⟨j + 1, _, by push_cast; rfl, by omega, rfl, HS7.out.d2.drewN nq⟩
      · have j2 : ¬ (j : Int) < (n : Int) := by omega
        have j3 : decide ((j : Int) < (n : Int)) = false := by simp; omega
        have HDN := Lib.hid (show L.drop j = [] by rw [List.drop_eq_nil_iff, HN.out]; omega)
        have hs := HS.out
        rw [HDN.out] at hs
        have HS := Lib.hid hs
        clear hs
        go_wp2_with fail
        refine (take_sep HS.out 0 (by decide)).mono ?_
        rintro e w7 ⟨rfl, lv7, hs⟩
        rw [tkL_nil] at hs
        have HS7 := Lib.hid (hs.alloc (.cells #[.int .i64 0, .int .i64 0, .string ByteArray.empty] tL))
        clear hs
        simp only [show tkX [] 0 = lZ from rfl, show tkB [] = false from rfl, lZ, Letter.agg]
        go_upto_region 23 with fail
        generalize w7.alloc (.cells #[.int .i64 0, .int .i64 0, .string ByteArray.empty] tL) = w8 at *
        go_wp2_with fail
        refine (copy_none HS7.out 0).mono ?_
        rintro e w9 ⟨rfl, hs⟩
        have HS9 := Lib.hid hs
        clear hs
        go_wp2_with fail
        refine (drop_none HS9.out 0).mono ?_
        rintro e w10 ⟨rfl, hs⟩
        have HB := Lib.hid hs.bel
        clear hs
        go_wp2_with fail
        go_ret
        exact ⟨rfl, HB.out⟩
end Go.Proofs.Ytofljgnfbakhoaa
