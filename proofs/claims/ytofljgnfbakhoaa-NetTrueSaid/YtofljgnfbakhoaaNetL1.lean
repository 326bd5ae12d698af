/- The walk of the law NetFull: it returns true. No condition but the row's own. -/
import Derived.Test.YtofljgnfbakhoaaNetA
import Derived.Test.YtofljgnfbakhoaaRow
set_option linter.unusedVariables false
set_option linter.unusedSimpArgs false
namespace Go.Proofs.Ytofljgnfbakhoaa
open Go.RowKit
theorem is_letter {w : World} {cs : List Value} (h : Sh.Is w (.pair (.int .i64) (.pair (.int .i64) (.pair .str .unit))) cs) : ∃ x : Letter, cs = eLet.f x ∧ x.ok := by
  obtain ⟨_, _, rfl, ⟨a, rfl, ha⟩, _, _, rfl, ⟨b, rfl, hb⟩, _, _, rfl, ⟨c, rfl, hc⟩, rfl⟩ := h
  exact ⟨⟨a, b, c⟩, rfl, bd_i64 ha, bd_i64 hb, hc⟩
theorem is_letters {w : World} {A : Option Addr} {n c by_ : Nat} (h : Sh.Is w (.slice by_ (.pair (.int .i64) (.pair (.int .i64) (.pair .str .unit)))) [.slice A n c]) :
    ∃ xs : List Letter, xs.length = n ∧ Rd w A (eLet.fl xs) := by
  obtain ⟨xs, h1, _, _, _, h2, _⟩ := Enc.of_slice (E := eLet) (p := Letter.ok) h (fun cs hc => is_letter hc)
  exact ⟨xs, h1, h2⟩
theorem takeL_rep (x : Letter) (n k : Nat) (h : k < n) : takeL (List.replicate n x) k = List.replicate (n - 1) x := by
  unfold takeL
  rw [List.take_replicate, List.drop_replicate, List.replicate_append_replicate]
  congr 1
  omega
theorem rep_get (x : Letter) (n k : Nat) (h : k < n) : (List.replicate n x)[k]? = some x := by
  rw [List.getElem?_eq_getElem (by simpa using h)]
  simp
theorem sendE_rep {x : Letter} (h : sendE [] x = 0) (n : Nat) : sendE (List.replicate n x) x = if 300 ≤ n then 5 else 0 := by
  obtain ⟨h1, h2, _⟩ := sendE_inv h
  by_cases hn : 300 ≤ n
  · rw [if_pos hn]; exact sendE_many h1 (by omega) (by simpa using hn)
  · rw [if_neg hn]; exact sendE_ok h1 (by omega) (by simpa using hn)
theorem sendL_rep {x : Letter} (h : sendE [] x = 0) (n : Nat) (hn : n < 300) : sendL (List.replicate n x) x = List.replicate (n + 1) x := by
  rw [sendL_ok (by rw [sendE_rep h, if_neg (by omega)]), List.replicate_succ']
theorem sendL_full {x : Letter} (h : sendE [] x = 0) (n : Nat) (hn : 300 ≤ n) : sendL (List.replicate n x) x = List.replicate n x := by
  rw [sendL_no (by rw [sendE_rep h, if_pos hn]; decide)]
set_option maxRecDepth 100000 in
set_option maxHeartbeats 2000000 in
theorem w_NetFull (a0 : Array Value) (a1 : Int) (w : World) (b0 : Sh.Is w (.pair (.int .i64) (.pair (.int .i64) (.pair .str .unit))) a0.toList) (b1 : 0 ≤ a1 ∧ a1 ≤ 255) :
    Calls Try.prog 8 #[.agg a0, .int .u8 a1] w fun e w' => e = .returned (.bool true) ∧ Below w.heap.size w w' := by
  obtain ⟨x, hx, _⟩ := is_letter b0
  obtain rfl : a0 = (eLet.f x).toArray := by rw [← hx]
  clear hx b0
  obtain ⟨xf, xt, xd⟩ := x
  generalize hX : (⟨xf, xt, xd⟩ : Letter) = X
  have HX := Lib.hid hX
  have HG := Lib.hid (((Sep.nil w).newBlk #[.int .i64 xf, .int .i64 xt, .string xd] tL (g := w.heap.size) rfl))
  obtain ⟨g2, hg2⟩ : ∃ g, w.heap.size = g := ⟨_, rfl⟩
  rw [hg2] at HG
  have HG2 := Lib.hid hg2
  rw [← hX]
  clear hX hg2
  go_enter Try.func8, Try.ntmps8
  go_wp2_with fail
  rw [HG2.out]
  refine (awake_any _).mono ?_
  rintro e w1 ⟨rfl, hB1⟩
  have HS := Lib.hid (HG.out.step hB1)
  clear hB1 HG HG2
  go_wp2_with fail
  refine (nnew_sep HS.out).mono ?_
  rintro e w2 ⟨rfl, hs⟩
  generalize w1.heap.size = b at *
  have HS := Lib.hid hs
  have y0 := (show Blk w2 g2 #[.int .i64 xf, .int .i64 xt, .string xd] tL from hs.h2).cell 0
  have y1 := (show Blk w2 g2 #[.int .i64 xf, .int .i64 xt, .string xd] tL from hs.h2).cell 1
  have y2 := (show Blk w2 g2 #[.int .i64 xf, .int .i64 xt, .string xd] tL from hs.h2).cell 2
  simp at y0 y1 y2
  clear hs
  obtain ⟨e0, he0⟩ : ∃ e, sendE [] X = e := ⟨_, rfl⟩
  go_wp2_with fail
  refine (send_sep HS.out ⟨xf, xt, xd⟩).mono ?_
  rintro e w3 ⟨rfl, lv3, hs⟩
  rw [HX.out] at hs ⊢
  rw [he0]
  by_cases hz : e0 = 0
  case neg =>
    rw [sendL_no (by rw [he0]; exact hz)] at hs
    have HS := Lib.hid hs
    have hz' : (e0 != 0) = true := by simpa using hz
    clear hs he0 hz y0 y1 y2
    go_wp2_with (go_at_call 20; refine (len_sep HS.out).mono ?_; rintro e w4 ⟨rfl, hs⟩; have HS4 := Lib.hid hs; clear hs)
    go_ret
    exact ⟨rfl, HS4.out.bel⟩
  case pos =>
  subst hz
  have HE := Lib.hid he0
  rw [sendL_ok he0] at hs
  have HS := Lib.hid (show Sep w w3 (tN b lv3 (List.replicate 1 X) :: tBlk g2 #[.int .i64 xf, .int .i64 xt, .string xd] tL :: []) from hs)
  clear hs he0 y0 y1 y2
  go_wp2_with fail
  go_loopg [6] 299 (fun gk s6 wr => ∃ (k : Nat) (lv : Value), s6 = .int .i64 (k : Int) ∧ k ≤ 300 ∧ gk = 300 - k ∧ Sep w wr (tN b lv (List.replicate k X) :: tBlk g2 #[.int .i64 xf, .int .i64 xt, .string xd] tL :: []))
  case atStart => exact ⟨1, _, rfl, by decide, by decide, HS.out⟩
  case round =>
  clear HS
  obtain ⟨k, lv, rfl, hk, hgk, hs⟩ := hrel
  have HS := Lib.hid hs
  have y0 := (show Blk wr g2 #[.int .i64 xf, .int .i64 xt, .string xd] tL from hs.h2).cell 0
  have y1 := (show Blk wr g2 #[.int .i64 xf, .int .i64 xt, .string xd] tL from hs.h2).cell 1
  have y2 := (show Blk wr g2 #[.int .i64 xf, .int .i64 xt, .string xd] tL from hs.h2).cell 2
  simp at y0 y1 y2
  clear hs
  by_cases hk3 : k < 300
  · have k3 : decide ((k : Int) < 300) = true := by simp; omega
    go_wp2_with (go_at_call 11; refine (send_sep HS.out ⟨xf, xt, xd⟩).mono ?_; rw [HX.out, sendE_rep HE.out, sendL_rep HE.out k hk3, if_neg (show ¬ 300 ≤ k by omega)]; rintro e w4 ⟨rfl, lv4, hs⟩; have HS4 := Lib.hid hs; clear hs)
    go_roundg (300 - (k + 1))
    case measure => omega
    case rel => exact ⟨k + 1, _, by push_cast; rfl, by omega, rfl, HS4.out⟩
  · have k3 : decide ((k : Int) < 300) = false := by simp; omega
    obtain rfl : k = 300 := by omega
    clear hk3 hk hgk
    obtain ⟨m, hm2, hm9⟩ : ∃ m : Nat, a1.tmod 9 = m ∧ m < 9 := by
      have h1 := Int.emod_nonneg a1 (show (9 : Int) ≠ 0 by decide)
      have h2 := Int.emod_lt_of_pos a1 (show (0 : Int) < 9 by decide)
      have h3 := Int.tmod_eq_emod_of_nonneg (b := 9) b1.1
      exact ⟨(a1 % 9).toNat, by omega, by omega⟩
    go_wp2_with fail
    go_loopg [7] 10 (fun gk s7 wr => ∃ (j : Nat) (lv : Value), s7 = .int .i64 (j : Int) ∧ j ≤ 9 ∧ gk = 10 - j ∧ Sep w wr (tN b lv (List.replicate 300 X) :: tBlk g2 #[.int .i64 xf, .int .i64 xt, .string xd] tL :: []))
    case atStart => exact ⟨0, _, rfl, by omega, by omega, HS.out⟩
    case round =>
    clear HS y0 y1 y2 k3
    obtain ⟨j, lv, rfl, hj, hgj, hs⟩ := hrel
    have HS := Lib.hid hs
    have y0 := (show Blk wr g2 #[.int .i64 xf, .int .i64 xt, .string xd] tL from hs.h2).cell 0
    have y1 := (show Blk wr g2 #[.int .i64 xf, .int .i64 xt, .string xd] tL from hs.h2).cell 1
    have y2 := (show Blk wr g2 #[.int .i64 xf, .int .i64 xt, .string xd] tL from hs.h2).cell 2
    simp at y0 y1 y2
    clear hs
    by_cases hjm : j < m
    · have k3 : decide ((j : Int) < (m : Int)) = true := by simpa using hjm
      have k4 : decide (j < m) = true := by simpa using hjm
      have h3 : (List.replicate 300 X).length ≤ 300 := by simp
      obtain ⟨kk, hkk⟩ : ∃ kk, atK (j : Int) (List.replicate 300 X).length = kk := ⟨_, rfl⟩
      have hkk2 : kk < 300 := by have := atK_lt (j : Int) (n := (List.replicate 300 X).length) (by simp); rw [hkk] at this; simpa using this
      have HKK := Lib.hid hkk; have H3 := Lib.hid h3
      clear hkk h3
      go_wp2_with (first
        | (go_at_call 11; with_reducible refine (send_sep HS.out ⟨xf, xt, xd⟩).mono ?_; rw [HX.out, sendE_rep HE.out, sendL_full HE.out 300 (by decide), if_pos (show 300 ≤ 300 by decide)]; rintro e w4 ⟨rfl, lv4, hs⟩; have HS4 := Lib.hid hs; clear hs)
        | (go_at_call 15; with_reducible refine (copy_some HS4.out (j : Int) kk X HKK.out (rep_get X 300 kk hkk2) H3.out).mono ?_; rw [sendE_rep HE.out, sendL_full HE.out 300 (by decide), if_pos (show 300 ≤ 300 by decide)]; rintro e w5 ⟨rfl, lv5, hs⟩; have HS5 := Lib.hid hs; clear hs))
      go_roundg (10 - (j + 1))
      case measure => omega
      case rel => exact ⟨j + 1, _, by push_cast; rfl, by omega, rfl, HS5.out⟩
    · have k3 : decide ((j : Int) < (m : Int)) = false := by simpa using hjm
      have k4 : decide (j < m) = false := by simpa using hjm
      obtain ⟨kk, hkk⟩ : ∃ kk, atK a1 (List.replicate 300 X).length = kk := ⟨_, rfl⟩
      have hkk2 : kk < 300 := by have := atK_lt a1 (n := (List.replicate 300 X).length) (by simp); rw [hkk] at this; simpa using this
      have HKK := Lib.hid hkk
      have HN0 := Lib.hid (show List.replicate 300 X ≠ [] by simp)
      have H3 := Lib.hid (show (List.replicate 300 X).length ≤ 300 by simp)
      have H2 := Lib.hid (show (List.replicate 299 X).length ≤ 300 by simp)
      have HL3 := Lib.hid (show (List.replicate 300 X).length = 300 by simp)
      have HL2 := Lib.hid (show (List.replicate 299 X).length = 299 by simp)
      clear hkk
      go_wp2_with (first
        | (go_at_call 20; with_reducible refine (len_sep HS.out).mono ?_; rw [HL3.out]; rintro e w4 ⟨rfl, hs⟩; have HS4 := Lib.hid hs; clear hs)
        | (go_at_call 17; with_reducible refine (drop_some HS4.out a1 kk HKK.out HN0.out H3.out).mono ?_; rw [takeL_rep X 300 kk hkk2]; rintro e w5 ⟨rfl, lv5, hs⟩; have HS5 := Lib.hid hs; clear hs)
        | (go_at_call 15; with_reducible refine (copy_some HS5.out 0 0 X (by simp [atK]) (rep_get X 299 0 (by decide)) H2.out).mono ?_; rw [sendE_rep HE.out, sendL_rep HE.out 299 (by decide), if_neg (show ¬ 300 ≤ 299 by decide)]; rintro e w6 ⟨rfl, lv6, hs⟩; have HS6 := Lib.hid hs; clear hs)
        | (go_at_call 15; with_reducible refine (copy_some HS6.out 0 0 X (by simp [atK]) (rep_get X 300 0 (by decide)) H3.out).mono ?_; rw [sendE_rep HE.out, sendL_full HE.out 300 (by decide), if_pos (show 300 ≤ 300 by decide)]; rintro e w7 ⟨rfl, lv7, hs⟩; have HS7 := Lib.hid hs; clear hs)
        | fail)
      refine (take_some HS7.out (-1) 299 ⟨xf, xt, xd⟩ (by simp [atK]) (by rw [HX.out]; exact rep_get X 300 299 (by decide)) H3.out).mono ?_
      rw [takeL_rep X 300 299 (by decide)]
      rintro e w8 ⟨rfl, lv8, hs⟩
      have HS8 := Lib.hid (hs.alloc (.cells #[.int .i64 xf, .int .i64 xt, .string xd] tL))
      have hg := (show Blk w8 g2 #[.int .i64 xf, .int .i64 xt, .string xd] tL from hs.h2).alloc (.cells #[.int .i64 xf, .int .i64 xt, .string xd] tL)
      clear y0 y1 y2
      have y0 := hg.cell 0; have y1 := hg.cell 1; have y2 := hg.cell 2
      simp at y0 y1 y2
      clear hs hg
      go_wp2_with (first
        | (go_at_call 20; go_loud (with_reducible refine (len_sep HS8.out).mono ?_); rw [show (List.replicate (300 - 1) X).length = 299 by simp]; rintro e w9 ⟨rfl, hs⟩; have hg := (show Blk w9 g2 #[.int .i64 xf, .int .i64 xt, .string xd] tL from hs.h2); clear y0 y1 y2; have y0 := hg.cell 0; have y1 := hg.cell 1; have y2 := hg.cell 2; simp at y0 y1 y2; have HS9 := Lib.hid hs; clear hs hg)
        | (go_at_call 11; with_reducible refine (send_sep HS9.out ⟨xf, xt, xd⟩).mono ?_; rw [HX.out, sendE_rep HE.out, if_neg (show ¬ 300 ≤ 300 - 1 by decide)]; rintro e w10 ⟨rfl, lv10, hs⟩; have HS10 := Lib.hid hs; clear hs))
      go_ret
      exact ⟨rfl, HS10.out.bel⟩
end Go.Proofs.Ytofljgnfbakhoaa
