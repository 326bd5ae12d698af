/- The walk of the law ClientTurns: it returns true. No condition but the row's own. -/
import Derived.Test.YtodjmeodcmbdoaaCliB
set_option linter.unusedVariables false
set_option linter.unusedSimpArgs false
namespace Go.Proofs.Ytodjmeodcmbdoaa
open Go.RowKit
def tM : Msg := ⟨15, 0, 0, 1, -1, -1, 20, 0, 0, 0, 0, noS, noS⟩
theorem tM_may : mayM tM = true := by rfl
theorem turns_take (pl nd fr : Int) (x : Cal) (hf : fr = 0 ∨ fr = 1) : (Cst.mk pl nd [x] []).take ⟨fr, pl, mOut tM⟩ = (if fr = nd then ⟨pl, 1 - nd, [x], []⟩ else ⟨pl, nd, [x], []⟩) ∧ (Cst.mk pl nd [x] []).takeB ⟨fr, pl, mOut tM⟩ = false := by
  obtain ⟨h1, h2⟩ := takeX_of (Cst.mk pl nd [x] []) ⟨fr, pl, mOut tM⟩
  obtain ⟨d1, d2⟩ := mOut_dec tM_may
  simp only at h1 h2
  rw [d1, d2] at h1 h2
  have hh : (Cst.mk pl nd [x] []).hitsX ⟨fr, pl, mOut tM⟩ 0 tM := ⟨rfl, rfl, hf, rfl, by simp, rfl⟩
  by_cases e : fr = nd
  · obtain ⟨k1, k2⟩ := ctake_20a hh rfl e
    rw [if_pos e]
    exact ⟨h1.trans k1, h2.trans k2⟩
  · obtain ⟨k1, k2⟩ := ctake_20b hh rfl e
    rw [if_neg e]
    exact ⟨h1.trans k1, h2.trans k2⟩
theorem is_call {w : World} {cs : List Value} (h : Sh.Is w (.pair (.int .i64) (.pair (.int .i64) (.pair .str .unit))) cs) : ∃ x : Cal, cs = [.int .i64 x.op, .int .i64 x.blk, .string x.data] := by
  obtain ⟨_, _, rfl, ⟨x, rfl, _⟩, _, _, rfl, ⟨y, rfl, _⟩, _, _, rfl, ⟨s, rfl, _⟩, rfl⟩ := h
  exact ⟨⟨x, y, s⟩, rfl⟩
theorem is_bools {w : World} {A : Option Addr} {n c : Nat} (h : Sh.Is w (.slice 1 .bool) [.slice A n c]) : ∃ l : List Bool, l.length = n ∧ Rd w A (eBool.fl l) := by
  obtain ⟨xs, h1, _, _, _, h5, _⟩ := Enc.of_slice (E := eBool) (p := fun _ => True) h (fun cs hc => by
    obtain ⟨x, rfl⟩ := hc
    exact ⟨x, rfl, trivial⟩)
  exact ⟨xs, h1, h5⟩
theorem Rd.bl {w : World} {A : Option Addr} {l : List Bool} (h : Rd w A (eBool.fl l)) (k : Nat) (x : Bool) (hx : l[k]? = some x) :
    ∃ b o, A = some ⟨b, o, none⟩ ∧ w.cell? ⟨b, o + k, none⟩ = some (.bool x) := by
  obtain ⟨hk, rfl⟩ := List.getElem?_eq_some_iff.1 hx
  obtain ⟨b, o, e, hc⟩ := h.elem k hk (by decide)
  have := hc 0 _ rfl
  exact ⟨b, o, e, by simpa [show eBool.sz = 1 from rfl] using this⟩
theorem new1 (pl : Int) (x : Cal) : newC pl [x] = ⟨pl, 0, [x], if mayM (cMsg 0 x) = true then [] else [⟨4, noS⟩]⟩ := by
  unfold newC Cst.fwd Cst.put
  simp only
  by_cases h : mayM (cMsg 0 x) = true
  · rw [if_pos h, onR_may (by simp) (by simpa using h)]
  · rw [if_neg h, onR_no (by simp) (by simpa using h), onR_done (by simp)]
    rfl
set_option maxRecDepth 100000 in
set_option maxHeartbeats 8000000 in
theorem w_ClientTurns (a0 : Int) (a1 : Array Value) (a2 : Option Addr) (n2 c2 : Nat) (w : World) (b0 : -9223372036854775808 ≤ a0 ∧ a0 ≤ 9223372036854775807) (b1 : Sh.Is w (.pair (.int .i64) (.pair (.int .i64) (.pair .str .unit))) a1.toList) (b2 : Sh.Is w (.slice 1 .bool) [.slice a2 n2 c2]) :
    Calls Try.prog 5 #[.int .i64 a0, .agg a1, .slice a2 n2 c2] w fun e w' => e = .returned (.bool true) ∧ Below w.heap.size w w' := by
  obtain ⟨x, hx⟩ := is_call b1
  obtain ⟨xo, xb, xd⟩ := x
  obtain rfl : a1 = #[.int .i64 xo, .int .i64 xb, .string xd] := by rw [← Array.toList_inj]; exact hx
  obtain ⟨fl, hfl, hfr⟩ := is_bools b2
  have HFL := Lib.hid hfl; have HFR := Lib.hid hfr
  obtain ⟨g, hg⟩ : ∃ g, w.heap.size = g := ⟨_, rfl⟩
  have HS := Lib.hid ((Sep.nil w).newBlk #[.int .i64 xo, .int .i64 xb, .string xd] tCa hg)
  have HG := Lib.hid hg
  clear b1 b2 hx hfl hfr hg
  go_enter Try.func5, Try.ntmps5
  go_upto_region 1 with fail
  rw [HG.out]
  generalize w.alloc (.cells #[.int .i64 xo, .int .i64 xb, .string xd] tCa) = w1 at *
  go_upto_region 3 with (go_at_call 8; refine (awake_any _).mono ?_; rintro e w2 ⟨rfl, hB⟩; have HS := Lib.hid (HS.out.step hB); clear hB)
  have hz := (show Blk w2 g #[.int .i64 xo, .int .i64 xb, .string xd] tCa from HS.out.hd)
  have z0 := hz.cell 0; have z1 := hz.cell 1; have z2 := hz.cell 2
  simp at z0 z1 z2
  clear hz
  have HN1 := Lib.hid (HS.out.newBlk #[.int .i64 xo, .int .i64 xb, .string xd] tCa (g := w2.heap.size) rfl)
  go_wp2_with fail
  refine (large_any [⟨xo, xb, xd⟩] [] (some ⟨w2.heap.size, 0, none⟩) none 1 0 1 0 _ rfl rfl (show Blk _ _ _ tCa from HN1.out.hd).rd (Rd.nil _ _) (by decide)).mono ?_
  rintro e w3 ⟨r, rfl, hw, _⟩
  rw [hw]
  clear hw w3
  have HS := Lib.hid HN1.out.tail
  generalize w2.alloc (.cells #[.int .i64 xo, .int .i64 xb, .string xd] tCa) = w3 at *
  cases r
  rotate_left
  · go_wp2_with fail
    go_ret
    exact ⟨rfl, HS.out.bel⟩
  clear z0 z1 z2 HN1
  have hz := (show Blk w3 g #[.int .i64 xo, .int .i64 xb, .string xd] tCa from HS.out.hd)
  have z0 := hz.cell 0; have z1 := hz.cell 1; have z2 := hz.cell 2
  simp at z0 z1 z2
  clear hz
  have HN1 := Lib.hid (HS.out.newBlk #[.int .i64 xo, .int .i64 xb, .string xd] tCa (g := w3.heap.size) rfl)
  cases hok : newOk a0 [⟨xo, xb, xd⟩]
  · have HK := Lib.hid hok
    clear hok
    go_wp2_with (go_at_call 10; refine (cnew_no HN1.out a0 [⟨xo, xb, xd⟩] (some ⟨w3.heap.size, 0, none⟩) 1 1 rfl HK.out).mono ?_; rintro e w4 ⟨rfl, hw⟩; rw [hw]; clear hw)
    go_ret
    exact ⟨rfl, HN1.out.bel⟩
  have HK := Lib.hid hok
  have HGN := Lib.hid (Good.new hok)
  clear hok
  rw [new1] at HGN
  go_upto_region 8 with (go_at_call 10; refine (cnew_yes HN1.out a0 [⟨xo, xb, xd⟩] (some ⟨w3.heap.size, 0, none⟩) 1 1 rfl (show Blk _ _ _ tCa from HN1.out.hd).rd (fun e => nomatch e) HK.out).mono ?_; rw [new1]; rintro e w4 ⟨b, cv, rv, rfl, hs⟩; have HS := Lib.hid hs.d2.d2; clear hs)
  clear z0 z1 z2 HN1 HK
  cases hm : mayM (cMsg 0 ⟨xo, xb, xd⟩)
  · rw [hm, if_neg (by decide)] at HS HGN
    clear hm
    go_upto_region 10 with (first
      | (go_at_call 20; refine (left_sep HS.out HGN.out).mono ?_; rintro e w5 ⟨rfl, hS⟩; have HS := Lib.hid hS; clear hS)
      | (go_at_call 18; refine (results_sep HS.out HGN.out).mono ?_; rintro e w6 ⟨A, q, rfl, hS⟩; have HS := Lib.hid hS; clear hS))
    have hO := (show Own w6 tRs 2 (.slice A 1 q) 1 (eRs.fl [⟨4, noS⟩]) from HS.out.hd)
    obtain ⟨rb, rc, hrb⟩ := hO.pos (by decide)
    cases hrb
    have r0 := hO.cell 0 _ rfl; have r1 := hO.cell 1 _ rfl
    clear hO
    have hbr : ∀ w, (Instr.build tRs #[(0, .int .i64 4)]).run Try.prog w = .ok (.agg #[.int .i64 4, .string noS]) w := fun w => run_build w tRs _ _ (by kernel_rfl)
    go_wp2_with fail
    go_ret
    exact ⟨rfl, HS.out.bel⟩
  rw [hm, if_pos rfl] at HS HGN
  clear hm
  have hbm : ∀ w, (Instr.build tMsg #[(0, .int .i64 15), (3, .int .i64 1), (6, .int .i64 20), (4, .int .i64 (-1)), (5, .int .i64 (-1))]).run Try.prog w = .ok (.agg tM.cs) w := fun w => run_build w tMsg _ _ (by kernel_rfl)
  obtain ⟨s, hs⟩ : ∃ s, mOut tM = s := ⟨_, rfl⟩
  obtain ⟨er, her⟩ : ∃ s, mEr tM = s := ⟨_, rfl⟩
  have HSS := Lib.hid (And.intro hs her)
  have HSZ := Lib.hid (show s.size ≤ 65536 by have := (mOut_size tM_may).1; rw [← hs]; omega)
  have HTK := Lib.hid (fun (nd fr : Int) (hf : fr = 0 ∨ fr = 1) => show (Cst.mk a0 nd [⟨xo, xb, xd⟩] []).take ⟨fr, a0, s⟩ = (if fr = nd then ⟨a0, 1 - nd, [⟨xo, xb, xd⟩], []⟩ else ⟨a0, nd, [⟨xo, xb, xd⟩], []⟩) ∧ (Cst.mk a0 nd [⟨xo, xb, xd⟩] []).takeB ⟨fr, a0, s⟩ = false by rw [← hs]; exact turns_take a0 nd fr ⟨xo, xb, xd⟩ hf)
  clear hs her
  go_upto_region 11 with (go_at_call 20; refine (left_sep HS.out HGN.out).mono ?_; rintro e w5 ⟨rfl, hS⟩; have HS := Lib.hid hS; clear hS)
  go_wp2_with (go_at_call 25; refine (rmencode_any tM _).mono ?_; rw [HSS.out.1, HSS.out.2]; rintro e w6 ⟨rfl, hB⟩; have HS := Lib.hid (HS.out.step hB); clear hB)
  clear hbm
  have HGG := Lib.hid (fun (nd : Int) (h : nd = 0 ∨ nd = 1) => show Good (Cst.mk a0 nd [⟨xo, xb, xd⟩] []) from ⟨h, (by simp), (by simp)⟩)
  go_loopg [11] 101 (fun gk s11 wr => ∃ (k : Nat) (rv : Value) (nd : Int), s11 = .int .i64 (k : Int) ∧ k ≤ 100 ∧ gk = 101 - k ∧ (nd = 0 ∨ nd = 1) ∧ Sep w wr [tCli tCl b cv rv ⟨a0, nd, [⟨xo, xb, xd⟩], []⟩])
  case atStart => exact ⟨0, _, 0, rfl, by decide, rfl, .inl rfl, HS.out.sub (List.Sublist.cons_cons _ (List.nil_sublist _))⟩
  case round =>
  clear HS HGN
  obtain ⟨k, rv, nd, rfl, hk, hgk, hnd, hs⟩ := hrel
  have HS := Lib.hid hs
  clear hs
  by_cases q1 : k < n2
  case neg =>
    have q1' : decide ((k : Int) < (n2 : Int)) = false := by simp; omega
    have q1n : ¬ ((k : Int) < (n2 : Int)) := by omega
    go_wp2_with fail
    go_ret
    exact ⟨rfl, HS.out.bel⟩
  have q1' : decide ((k : Int) < (n2 : Int)) = true := by simp; omega
  have i1 : (k : Int) < (n2 : Int) := by omega
  by_cases q2 : k < 100
  case neg =>
    have q2' : decide ((k : Int) < 100) = false := by simp; omega
    go_wp2_with fail
    go_ret
    exact ⟨rfl, HS.out.bel⟩
  have q2' : decide ((k : Int) < 100) = true := by simp; omega
  have i0 : (0 : Int) ≤ (k : Int) := by omega
  have hw1 : IntKind.i64.wrap ((k : Int) + 1) = (k : Int) + 1 := IntWalk.i64_in _ (by omega)
  have HX := Lib.hid (List.getElem?_eq_getElem (l := fl) (i := k) (by rw [HFL.out]; exact q1))
  generalize fl[k]'(by rw [HFL.out]; exact q1) = x at *
  obtain ⟨gb, go, rfl, hu⟩ := (HFR.out.below HS.out.bel).bl k x HX.out
  rcases hnd with rfl | rfl <;> cases x
  · have HT1 := Lib.hid (HTK.out 0 0 (.inl rfl))
    rw [if_pos (by decide)] at HT1
    go_wp2_with (first
      | (go_at_call 14; refine (take_sep HS.out (HGG.out 0 (.inl rfl)) ⟨0, a0, s⟩ HSZ.out).mono ?_; rw [HT1.out.1, HT1.out.2]; rintro e v1 ⟨rfl, rv', hS⟩; have HS2 := Lib.hid (show Sep w v1 [tCli tCl b cv rv' ⟨a0, 1, [⟨xo, xb, xd⟩], []⟩] from hS); clear hS)
      | (go_at_call 17; refine (turn_sep HS3.out (HGG.out 0 (.inl rfl))).mono ?_; rintro e v3 ⟨rfl, hS⟩; have HS4 := Lib.hid (show Sep w v3 [tCli tCl b cv rv' ⟨a0, 1, [⟨xo, xb, xd⟩], []⟩] from hS); clear hS)
      | (go_at_call 17; refine (turn_sep HS2.out (HGG.out 1 (.inr rfl))).mono ?_; rintro e v2 ⟨rfl, hS⟩; have HS3 := Lib.hid (show Sep w v2 [tCli tCl b cv rv' ⟨a0, 0, [⟨xo, xb, xd⟩], []⟩] from hS); clear hS)
      | (go_at_call 20; refine (left_sep HS4.out (HGG.out 1 (.inr rfl))).mono ?_; rintro e v4 ⟨rfl, hS⟩; have HS5 := Lib.hid hS; clear hS)
      | (go_at_call 22; refine (node_sep HS4.out).mono ?_; rintro e v5 ⟨rfl, hw⟩; rw [hw]; clear hw v5)
      | (go_at_call 22; refine (node_sep HS2.out).mono ?_; rintro e v6 ⟨rfl, hw⟩; rw [hw]; clear hw v6)
      | (go_at_call 22; refine (node_sep HS.out).mono ?_; rintro e v7 ⟨rfl, hw⟩; rw [hw]; clear hw v7))
    go_roundg (101 - (k + 1))
    case measure => omega
    case rel => exact ⟨k + 1, _, 1, by push_cast; rfl, by omega, rfl, (.inr rfl), HS5.out⟩
  · have HT1 := Lib.hid (HTK.out 0 1 (.inr rfl))
    rw [if_neg (by decide)] at HT1
    go_wp2_with (first
      | (go_at_call 14; refine (take_sep HS.out (HGG.out 0 (.inl rfl)) ⟨1, a0, s⟩ HSZ.out).mono ?_; rw [HT1.out.1, HT1.out.2]; rintro e v1 ⟨rfl, rv', hS⟩; have HS2 := Lib.hid (show Sep w v1 [tCli tCl b cv rv' ⟨a0, 0, [⟨xo, xb, xd⟩], []⟩] from hS); clear hS)
      | (go_at_call 17; refine (turn_sep HS3.out (HGG.out 1 (.inr rfl))).mono ?_; rintro e v3 ⟨rfl, hS⟩; have HS4 := Lib.hid (show Sep w v3 [tCli tCl b cv rv' ⟨a0, 0, [⟨xo, xb, xd⟩], []⟩] from hS); clear hS)
      | (go_at_call 17; refine (turn_sep HS2.out (HGG.out 0 (.inl rfl))).mono ?_; rintro e v2 ⟨rfl, hS⟩; have HS3 := Lib.hid (show Sep w v2 [tCli tCl b cv rv' ⟨a0, 1, [⟨xo, xb, xd⟩], []⟩] from hS); clear hS)
      | (go_at_call 20; refine (left_sep HS4.out (HGG.out 0 (.inl rfl))).mono ?_; rintro e v4 ⟨rfl, hS⟩; have HS5 := Lib.hid hS; clear hS)
      | (go_at_call 22; refine (node_sep HS4.out).mono ?_; rintro e v5 ⟨rfl, hw⟩; rw [hw]; clear hw v5)
      | (go_at_call 22; refine (node_sep HS2.out).mono ?_; rintro e v6 ⟨rfl, hw⟩; rw [hw]; clear hw v6)
      | (go_at_call 22; refine (node_sep HS.out).mono ?_; rintro e v7 ⟨rfl, hw⟩; rw [hw]; clear hw v7))
    go_roundg (101 - (k + 1))
    case measure => omega
    case rel => exact ⟨k + 1, _, 0, by push_cast; rfl, by omega, rfl, (.inl rfl), HS5.out⟩
  · have HT1 := Lib.hid (HTK.out 1 0 (.inl rfl))
    rw [if_neg (by decide)] at HT1
    go_wp2_with (first
      | (go_at_call 14; refine (take_sep HS.out (HGG.out 1 (.inr rfl)) ⟨0, a0, s⟩ HSZ.out).mono ?_; rw [HT1.out.1, HT1.out.2]; rintro e v1 ⟨rfl, rv', hS⟩; have HS2 := Lib.hid (show Sep w v1 [tCli tCl b cv rv' ⟨a0, 1, [⟨xo, xb, xd⟩], []⟩] from hS); clear hS)
      | (go_at_call 17; refine (turn_sep HS3.out (HGG.out 0 (.inl rfl))).mono ?_; rintro e v3 ⟨rfl, hS⟩; have HS4 := Lib.hid (show Sep w v3 [tCli tCl b cv rv' ⟨a0, 1, [⟨xo, xb, xd⟩], []⟩] from hS); clear hS)
      | (go_at_call 17; refine (turn_sep HS2.out (HGG.out 1 (.inr rfl))).mono ?_; rintro e v2 ⟨rfl, hS⟩; have HS3 := Lib.hid (show Sep w v2 [tCli tCl b cv rv' ⟨a0, 0, [⟨xo, xb, xd⟩], []⟩] from hS); clear hS)
      | (go_at_call 20; refine (left_sep HS4.out (HGG.out 1 (.inr rfl))).mono ?_; rintro e v4 ⟨rfl, hS⟩; have HS5 := Lib.hid hS; clear hS)
      | (go_at_call 22; refine (node_sep HS4.out).mono ?_; rintro e v5 ⟨rfl, hw⟩; rw [hw]; clear hw v5)
      | (go_at_call 22; refine (node_sep HS2.out).mono ?_; rintro e v6 ⟨rfl, hw⟩; rw [hw]; clear hw v6)
      | (go_at_call 22; refine (node_sep HS.out).mono ?_; rintro e v7 ⟨rfl, hw⟩; rw [hw]; clear hw v7))
    go_roundg (101 - (k + 1))
    case measure => omega
    case rel => exact ⟨k + 1, _, 1, by push_cast; rfl, by omega, rfl, (.inr rfl), HS5.out⟩
  · have HT1 := Lib.hid (HTK.out 1 1 (.inr rfl))
    rw [if_pos (by decide)] at HT1
    go_wp2_with (first
      | (go_at_call 14; refine (take_sep HS.out (HGG.out 1 (.inr rfl)) ⟨1, a0, s⟩ HSZ.out).mono ?_; rw [HT1.out.1, HT1.out.2]; rintro e v1 ⟨rfl, rv', hS⟩; have HS2 := Lib.hid (show Sep w v1 [tCli tCl b cv rv' ⟨a0, 0, [⟨xo, xb, xd⟩], []⟩] from hS); clear hS)
      | (go_at_call 17; refine (turn_sep HS3.out (HGG.out 1 (.inr rfl))).mono ?_; rintro e v3 ⟨rfl, hS⟩; have HS4 := Lib.hid (show Sep w v3 [tCli tCl b cv rv' ⟨a0, 0, [⟨xo, xb, xd⟩], []⟩] from hS); clear hS)
      | (go_at_call 17; refine (turn_sep HS2.out (HGG.out 0 (.inl rfl))).mono ?_; rintro e v2 ⟨rfl, hS⟩; have HS3 := Lib.hid (show Sep w v2 [tCli tCl b cv rv' ⟨a0, 1, [⟨xo, xb, xd⟩], []⟩] from hS); clear hS)
      | (go_at_call 20; refine (left_sep HS4.out (HGG.out 0 (.inl rfl))).mono ?_; rintro e v4 ⟨rfl, hS⟩; have HS5 := Lib.hid hS; clear hS)
      | (go_at_call 22; refine (node_sep HS4.out).mono ?_; rintro e v5 ⟨rfl, hw⟩; rw [hw]; clear hw v5)
      | (go_at_call 22; refine (node_sep HS2.out).mono ?_; rintro e v6 ⟨rfl, hw⟩; rw [hw]; clear hw v6)
      | (go_at_call 22; refine (node_sep HS.out).mono ?_; rintro e v7 ⟨rfl, hw⟩; rw [hw]; clear hw v7))
    go_roundg (101 - (k + 1))
    case measure => omega
    case rel => exact ⟨k + 1, _, 0, by push_cast; rfl, by omega, rfl, (.inl rfl), HS5.out⟩
end Go.Proofs.Ytodjmeodcmbdoaa
