/- The walk of the law ClientAll: it returns true. No condition but the row's own. -/
import Derived.Test.YtodjmeodcmbdoaaCliB
set_option linter.unusedVariables false
set_option linter.unusedSimpArgs false
namespace Go.Proofs.Ytodjmeodcmbdoaa
open Go.RowKit
def aM (i : Nat) (d : ByteArray) : Msg := ⟨15, 0, 0, (i : Int) + 1, -1, -1, 0, 0, 0, 0, 0, d, noS⟩
theorem aM_may {i : Nat} {d : ByteArray} (hi : i ≤ 1000) (hd : d.size ≤ 40) : mayM (aM i d) = true := by
  rw [mayM_iff]
  unfold aM big62
  simp only
  refine ⟨?_, ?_, ?_, ?_, hd, ?_, ?_, ?_, ?_, ?_, ?_, ?_, ?_⟩
  all_goals first | omega | decide
theorem all_take (pl nd : Int) (cs : List Cal) (i : Nat) (rs : List Res) (d : ByteArray) (fr : Int) (hf : fr = 0 ∨ fr = 1) (hr : rs.length = i) (hi : i < cs.length) (hn : cs.length ≤ 1000) (hd : d.size ≤ 40) :
    (Cst.mk pl nd cs rs).take ⟨fr, pl, mOut (aM i d)⟩ = ⟨pl, nd, cs, onR cs (rs ++ [⟨0, d⟩])⟩ ∧ (Cst.mk pl nd cs rs).takeB ⟨fr, pl, mOut (aM i d)⟩ = true := by
  obtain ⟨h1, h2⟩ := takeX_of (Cst.mk pl nd cs rs) ⟨fr, pl, mOut (aM i d)⟩
  obtain ⟨d1, d2⟩ := mOut_dec (aM_may (i := i) (d := d) (by omega) hd)
  simp only at h1 h2
  rw [d1, d2] at h1 h2
  obtain ⟨k1, k2⟩ := ctake_else (c := Cst.mk pl nd cs rs) (x := ⟨fr, pl, mOut (aM i d)⟩) (e0 := 0) (m := aM i d) ⟨rfl, rfl, hf, rfl, by simp only; omega, by simp only [aM, hr]⟩ (by simp [aM]) (by simp [aM]) (by simp [aM])
  exact ⟨h1.trans k1, h2.trans k2⟩
theorem is_strs {w : World} {A : Option Addr} {n c : Nat} (h : Sh.Is w (.slice 16 .str) [.slice A n c]) : ∃ l : List ByteArray, l.length = n ∧ Rd w A (eStr.fl l) ∧ n ≤ 140737488351232 := by
  obtain ⟨xs, h1, _, _, _, h5, _⟩ := Enc.of_slice (E := eStr) (p := fun _ => True) h (fun cs hc => by
    obtain ⟨x, rfl, _⟩ := hc
    exact ⟨x, rfl, trivial⟩)
  exact ⟨xs, h1, h5, by omega⟩
theorem Rd.st {w : World} {A : Option Addr} {l : List ByteArray} (h : Rd w A (eStr.fl l)) (k : Nat) (x : ByteArray) (hx : l[k]? = some x) :
    ∃ b o, A = some ⟨b, o, none⟩ ∧ w.cell? ⟨b, o + k, none⟩ = some (.string x) := by
  obtain ⟨hk, rfl⟩ := List.getElem?_eq_some_iff.1 hx
  obtain ⟨b, o, e, hc⟩ := h.elem k hk (by decide)
  have := hc 0 _ rfl
  exact ⟨b, o, e, by simpa [show eStr.sz = 1 from rfl] using this⟩
theorem odd2 : ∀ k : Fin 256, bits .and .i64 ((k.val : Nat) : Int) 1 = ((k.val % 2 : Nat) : Int) := by decide +kernel
theorem Sep.blkSet {w W : World} {l : List Th} {g : Nat} {cs : Array Value} {T : TypeId} (h : Sep w W (tBlk g cs T :: l)) (j : Nat) (v : Value) : Sep w (W.setCell ⟨g, j, none⟩ v) (tBlk g (cs.setIfInBounds j v) T :: l) :=
  h.op (t' := tBlk g (cs.setIfInBounds j v) T) (Blk.set (show Blk W g cs T from h.hd) j v) (Upd.setCell (S := fun k => k = g) (p := ⟨g, j, none⟩) (Upd.refl _ W) (.inr rfl) v) (fun k hk => .inl hk)
set_option maxRecDepth 100000 in
set_option maxHeartbeats 1000000 in
theorem w_ClientAll (a0 : Int) (a1 : Option Addr) (n1 c1 : Nat) (a2 : Option Addr) (n2 c2 : Nat) (w : World) (b0 : -9223372036854775808 ≤ a0 ∧ a0 ≤ 9223372036854775807) (b1 : Sh.Is w (.slice 32 (.pair (.int .i64) (.pair (.int .i64) (.pair .str .unit)))) [.slice a1 n1 c1]) (b2 : Sh.Is w (.slice 16 .str) [.slice a2 n2 c2]) :
    Calls Try.prog 6 #[.int .i64 a0, .slice a1 n1 c1, .slice a2 n2 c2] w fun e w' => e = .returned (.bool true) ∧ Below w.heap.size w w' := by
  obtain ⟨cs, hcl, hca, hcr, hcn⟩ := is_calls b1
  obtain ⟨ds, hdl, hdr, hdn⟩ := is_strs b2
  have HCL := Lib.hid hcl; have HCR := Lib.hid hcr; have HCA := Lib.hid hca; have HDL := Lib.hid hdl; have HDR := Lib.hid hdr
  clear b1 b2 hcl hcr hca hdl hdr
  go_enter Try.func6, Try.ntmps6
  go_wp2_with fail
  refine (awake_any _).mono ?_
  rintro e w1 ⟨rfl, hB1⟩
  have HS := Lib.hid ((Sep.nil w).step hB1)
  clear hB1
  by_cases h200 : 200 < n1
  · have f1 : (200 : Int) < (n1 : Int) := by omega
    go_wp2_with fail
    go_ret
    exact ⟨rfl, HS.out.bel⟩
  have f1 : ¬ (200 : Int) < (n1 : Int) := by omega
  have f1' : decide ((200 : Int) < (n1 : Int)) = false := decide_eq_false f1
  go_wp2_with fail
  refine (large_any cs [] a1 none n1 0 c1 0 w1 HCL.out rfl (HCR.out.below HS.out.bel) (Rd.nil _ _) (by decide)).mono ?_
  rintro e w2 ⟨r, rfl, hw, hlg⟩
  rw [hw]
  clear hw w2 hlg
  cases r
  rotate_left
  · go_wp2_with fail
    go_ret
    exact ⟨rfl, HS.out.bel⟩
  go_wp2_with fail
  clear f1 f1'
  go_loopg [31] n2 (fun gk s31 wr => ∃ (j : Nat), s31 = .int .i64 (j : Int) ∧ j ≤ n2 ∧ gk = n2 - j ∧ wr = w1 ∧ j ≤ 200 ∧ ∀ (i : Nat) (x : ByteArray), i < j → ds[i]? = some x → x.size ≤ 40)
  case atStart => exact ⟨0, rfl, by omega, by omega, rfl, by omega, fun i x h => by omega⟩
  case round =>
  obtain ⟨j, rfl, hj, hgj, hwr, hj200, hall⟩ := hrel
  rw [hwr]
  clear hwr
  have HALL := Lib.hid hall
  clear hall
  by_cases hjn : j < n2
  · have k1 : (j : Int) < (n2 : Int) := by omega
    have k0 : (0 : Int) ≤ (j : Int) := by omega
    have HX := Lib.hid (List.getElem?_eq_getElem (l := ds) (i := j) (by rw [HDL.out]; exact hjn))
    generalize ds[j]'(by rw [HDL.out]; exact hjn) = x at *
    obtain ⟨gb, go, rfl, u0⟩ := (HDR.out.below HS.out.bel).st j x HX.out
    by_cases hx : 40 < x.size
    · have g1 : (40 : Int) < (x.size : Int) := by omega
      go_wp2_with fail
      go_ret
      exact ⟨rfl, HS.out.bel⟩
    have g1 : ¬ (40 : Int) < (x.size : Int) := by omega
    have g1' : decide ((40 : Int) < (x.size : Int)) = false := decide_eq_false g1
    by_cases hj2 : 200 ≤ j
    · have g2 : (200 : Int) ≤ (j : Int) := by omega
      go_wp2_with fail
      go_ret
      exact ⟨rfl, HS.out.bel⟩
    have g2 : ¬ (200 : Int) ≤ (j : Int) := by omega
    have g2' : decide ((200 : Int) ≤ (j : Int)) = false := decide_eq_false g2
    have HXS := Lib.hid (show x.size ≤ 40 by omega)
    clear hx
    go_wp2_with fail
    go_roundg (n2 - (j + 1))
    case measure => omega
    case rel =>
      refine ⟨j + 1, by push_cast; rfl, by omega, rfl, rfl, by omega, fun i y hi hy => ?_⟩
      rcases Nat.lt_or_ge i j with h | h
      · exact HALL.out i y h hy
      · obtain rfl : i = j := by omega
        rw [HX.out] at hy
        cases hy
        exact HXS.out
  have k1 : ¬ (j : Int) < (n2 : Int) := by omega
  have k2 : decide ((j : Int) < (n2 : Int)) = false := by simp; omega
  have HD40 := Lib.hid (fun (i : Nat) (x : ByteArray) (h : ds[i]? = some x) => HALL.out i x (by have := (List.getElem?_eq_some_iff.1 h).1; rw [HDL.out] at this; omega) h)
  have hn2 : n2 ≤ 200 := by omega
  clear HALL
  cases hok : newOk a0 cs
  · have HK := Lib.hid hok
    clear hok
    go_wp2_with (go_at_call 10; refine (cnew_no HS.out a0 cs a1 n1 c1 HCL.out HK.out).mono ?_; rintro e w3 ⟨rfl, hw⟩; rw [hw]; clear hw)
    go_ret
    exact ⟨rfl, HS.out.bel⟩
  have HK := Lib.hid hok
  have HGN := Lib.hid (Good.new hok)
  clear hok
  go_upto_region 14 with (go_at_call 10; refine (cnew_yes HS.out a0 cs a1 n1 c1 HCL.out (HCR.out.below HS.out.bel) HCA.out HK.out).mono ?_; rintro e w3 ⟨b, cv, rv, rfl, hs⟩; have HS := Lib.hid hs; clear hs)
  clear HK k1 k2 hjn hgj
  have HS := Lib.hid ((HS.out.newRow tRs 2 (g := w3.heap.size) rfl))
  go_wp2_with fail
  generalize w3.alloc (.cells #[] tRs) = w4 at *
  generalize w3.heap.size = gW at *
  go_loopg [9, 10, 53] n1 (fun gk s9 s10 s53 wr => ∃ (i : Nat) (v9 : Value) (q : Nat) (W : List Res) (nd : Int) (rv : Value), v9 = s9 ∧ s10 = .int .i64 (q : Int) ∧ s53 = .int .i64 (i : Int) ∧ i ≤ n1 ∧ gk = n1 - i ∧ q ≤ i ∧ W.length = i ∧ Good (Cst.mk a0 nd cs (onR cs W)) ∧ Sep w wr [tOwn tRs 2 v9 i (eRs.fl W), tCli tCl b cv rv ⟨a0, nd, cs, onR cs W⟩])
  case atStart => exact ⟨0, _, 0, [], 0, _, rfl, rfl, rfl, by omega, rfl, by omega, rfl, HGN.out, HS.out⟩
  case round =>
  clear HS HGN
  obtain ⟨i, v9, q, W, nd, rv, rfl, rfl, rfl, hi, hgi, hqi, hW, hgood, hs⟩ := hrel
  obtain ⟨A9, c9, hv9, _⟩ := hs.own.form
  subst hv9
  have HS := Lib.hid hs; have HGD := Lib.hid hgood; have HW := Lib.hid hW
  clear hs hgood hW
  by_cases hin : i < n1
  rotate_left
  · have e0 : i = n1 := by omega
    have k1 : ¬ (i : Int) < (n1 : Int) := by omega
    have k2 : decide ((i : Int) < (n1 : Int)) = false := by simp; omega
    have HD := Lib.hid (show onR cs W = W from onR_done (by rw [HW.out, HCL.out]; exact hin))
    rw [HD.out] at HS HGD
    subst e0
    have HP := Lib.hid (show (Cst.mk a0 nd cs W).poke = ⟨0, 0, noS⟩ ∧ (Cst.mk a0 nd cs W).pokeB = false from ⟨by unfold Cst.poke; rw [if_neg (by simp only; rw [HW.out, HCL.out]; omega)], by unfold Cst.pokeB; exact decide_eq_false (by simp only; rw [HW.out, HCL.out]; omega)⟩)
    have HSW := Lib.hid HS.out.sw
    have k3 : (q : Int) ≤ (i : Int) := by omega
    have k4 : ((i : Int) - (i : Int)) = 0 := by omega
    go_upto_region 35 with (go_at_call 12; refine (poke_sep HSW.out HGD.out).mono ?_; rw [HP.out.1, HP.out.2]; unfold Let.cs; simp only; rintro e v1 ⟨rfl, hS⟩; have HT := Lib.hid (hS.alloc (.cells #[.int .i64 0, .int .i64 0, .string noS] tLt)); clear hS)
    go_wp2_with (first
      | (go_at_call 18; refine (results_sep HT.out HGD.out).mono ?_; simp only [HW.out]; rintro e v2 ⟨A3, q3, rfl, hS⟩; have HT2 := Lib.hid hS; clear hS)
      | (go_at_call 19; refine (same_any W A3 A9 i q3 c9 _ HW.out (by omega) HT2.out.own.rd (show Own _ tRs 2 (.slice A9 i c9) i (eRs.fl W) from HT2.out.h3).rd).mono ?_; rintro e v3 ⟨rfl, hB⟩; have HT3 := Lib.hid (HT2.out.step hB).sw; clear hB)
      | (go_at_call 20; refine (left_sep HT3.out HGD.out).mono ?_; simp only [HW.out, HCL.out]; rintro e v4 ⟨rfl, hS⟩; have HT4 := Lib.hid hS; clear hS))
    go_ret
    exact ⟨by simp, HT4.out.bel⟩
  have k1 : (i : Int) < (n1 : Int) := by omega
  have k0 : (0 : Int) ≤ (i : Int) := by omega
  have hw1 : IntKind.i64.wrap ((i : Int) + 1) = (i : Int) + 1 := IntWalk.i64_in _ (by omega)
  have hic : i < cs.length := by rw [HCL.out]; exact hin
  have HX := Lib.hid (List.getElem?_eq_getElem (l := cs) (i := i) hic)
  have HXE := Lib.hid (fun (h : W.length < cs.length) => show cs[W.length]'h = cs[i] by simp only [HW.out])
  generalize cs[i] = x at *
  obtain ⟨gb, go, rfl, u0, u1, u2⟩ := (HCR.out.below HS.out.bel).cal i x HX.out
  obtain ⟨xo, xb, xd⟩ := x
  simp only at u0 u1 u2
  have HWC := Lib.hid (show W.length < cs.length by rw [HW.out]; exact hic)
  clear hic
  have HSX := Lib.hid (HS.out.newBlk #[.int .i64 xo, .int .i64 xb, .string xd] tCa (g := wr.heap.size) rfl)
  go_upto_region 20 with fail
  generalize wr.alloc (.cells #[.int .i64 xo, .int .i64 xb, .string xd] tCa) = w5 at *
  generalize wr.heap.size = gC at *
  clear u0 u1 u2
  have hz := (show Blk w5 gC #[.int .i64 xo, .int .i64 xb, .string xd] tCa from HSX.out.hd)
  have y0 := hz.cell 0; have y1 := hz.cell 1; have y2 := hz.cell 2
  simp at y0 y1 y2
  clear hz
  have hbm : ∀ (w : World), (Instr.build tMsg #[(0, .int .i64 14), (3, .int .i64 ((i : Int) + 1)), (2, .int .i64 xo), (4, .int .i64 xb), (5, .int .i64 (-1)), (8, .string xd)]).run Try.prog w = .ok (.agg (cMsg i ⟨xo, xb, xd⟩).cs) w := fun w => run_build w tMsg _ _ (by kernel_rfl)
  have HL1 := Lib.hid (show (i + 1) * 24 ≤ 140737488355328 by omega)
  cases hm : mayM (cMsg i ⟨xo, xb, xd⟩)
  · have HM := Lib.hid hm
    have HO := Lib.hid (show onR cs (W ++ [⟨4, noS⟩]) = onR cs W from (onR_no HWC.out (by rw [HXE.out HWC.out, HW.out]; exact hm)).symm)
    clear hm
    have hbr : ∀ w, (Instr.build tRs #[(0, .int .i64 4)]).run Try.prog w = .ok (.agg #[.int .i64 4, .string noS]) w := fun w => run_build w tRs _ _ (by kernel_rfl)
    go_upto_region 21 with (go_at_call 26; refine (rmmay_any (cMsg i ⟨xo, xb, xd⟩) _).mono ?_; rw [HM.out]; rintro e w6 ⟨rfl, hB⟩; have HS := Lib.hid (HSX.out.tail.step hB); clear hB)
    clear y0 y1 y2 hbm HSX
    go_wp2_with (at_builtin; refine app1O 44 tRs (.agg #[.int .i64 0, .string ByteArray.empty]) 2 24 [.int .i64 4, .string noS] HS.out.own HL1.out Try.underlying44 Try.infoRs rfl (by decide) (by decide) rfl (one2 _ _) (.tmp 71) (.tmp 73) rfl rfl rfl rfl ?_; intro v1 w7 ho1 hg1 hat1; have HS7 := Lib.hid (HS.out.appG ho1 hg1 hat1); clear ho1 hg1 hat1)
    go_roundg (n1 - (i + 1))
    case measure => omega
    case rel =>
      have h := HS7.out
      rw [show [Value.int .i64 4, Value.string noS] = eRs.f ⟨4, noS⟩ from rfl, ← Enc.snoc, ← HO.out] at h
      exact ⟨i + 1, _, q, W ++ [⟨4, noS⟩], nd, rv, rfl, rfl, by push_cast; rfl, by omega, rfl, by omega, by rw [List.length_append, HW.out]; rfl, by rw [HO.out]; exact HGD.out, h⟩
  have HM := Lib.hid hm
  have HO := Lib.hid (show onR cs W = W from onR_may HWC.out (by rw [HXE.out HWC.out, HW.out]; exact hm))
  clear hm
  rw [HO.out] at HGD HSX
  have HSY := Lib.hid HSX.out.r3
  clear HSX HS
  go_upto_region 22 with (go_at_call 26; refine (rmmay_any (cMsg i ⟨xo, xb, xd⟩) _).mono ?_; rw [HM.out]; rintro e w6 ⟨rfl, hB⟩; have HS := Lib.hid (HSY.out.step hB).d2; clear hB)
  clear y0 y1 y2 hbm HSY
  obtain ⟨px, hpx⟩ : ∃ x, mOut (Cst.mk a0 nd cs W).msg = x := ⟨_, rfl⟩
  have HP := Lib.hid (show (Cst.mk a0 nd cs W).poke = ⟨a0, nd, px⟩ ∧ (Cst.mk a0 nd cs W).pokeB = true from ⟨by unfold Cst.poke; rw [if_pos HWC.out, hpx], by unfold Cst.pokeB; exact decide_eq_true HWC.out⟩)
  clear hpx
  have hw2 : IntKind.i64.wrap ((q : Int) + 1) = (q : Int) + 1 := IntWalk.i64_in _ (by omega)
  have hbz : ∀ w, (Instr.build tRs #[]).run Try.prog w = .ok (.agg #[.int .i64 0, .string noS]) w := fun w => run_build w tRs _ _ (by kernel_rfl)
  go_upto_region 23 with (go_at_call 12; refine (poke_sep HS.out HGD.out).mono ?_; rw [HP.out.1, HP.out.2]; unfold Let.cs; simp only; rintro e v1 ⟨rfl, hS⟩; have HS := Lib.hid ((hS.newBlk #[.int .i64 a0, .int .i64 nd, .string px] tLt (g := v1.heap.size) rfl).r3'); clear hS)
  generalize v1.alloc (.cells #[.int .i64 a0, .int .i64 nd, .string px] tLt) = v2 at *
  generalize v1.heap.size = gP at *
  have p0 := (show Blk v2 gP #[.int .i64 a0, .int .i64 nd, .string px] tLt from HS.out.h3).cell 0
  simp at p0
  have HR := Lib.hid (HS.out.newBlk #[.int .i64 0, .string noS] tRs (g := v2.heap.size) rfl)
  go_upto_region 27 with fail
  generalize v2.alloc (.cells #[.int .i64 0, .string { data := #[] }] tRs) = v3 at *
  generalize v2.heap.size = gR at *
  clear p0 HS
  have h00 : n2 = 0 ∨ 0 < n2 := by omega
  rcases h00 with h0 | h0
  case' inl =>
    obtain ⟨d, hd⟩ : ∃ d : ByteArray, d = noS := ⟨_, rfl⟩
    have HS := Lib.hid (show Sep w v3 [tBlk gR #[.int .i64 0, .string d] tRs, tCli tCl b cv rv ⟨a0, nd, cs, W⟩, tOwn tRs 2 (.slice A9 i c9) i (eRs.fl W), tBlk gP #[.int .i64 a0, .int .i64 nd, .string px] tLt] by rw [hd]; exact HR.out)
    have HDD := Lib.hid (show d.size ≤ 40 by rw [hd]; decide)
    subst h0
    go_upto_region 29 with fail
    clear hd
    generalize v3 = wx at *
  case' inr =>
    have f1 : (0 : Int) < (n2 : Int) := by omega
    obtain ⟨k, hk⟩ : ∃ k, i % n2 = k := ⟨_, rfl⟩
    have hkn : k < n2 := by rw [← hk]; exact Nat.mod_lt _ (by omega)
    have hmod : ((i : Int).tmod (n2 : Int)) = (k : Int) := by rw [← hk]; rw [Int.tmod_eq_emod_of_nonneg (by omega)]; rfl
    have hmod2 : ((i : Int) % (n2 : Int)) = (k : Int) := by rw [← hk]; rfl
    have hz : ((n2 : Int) == 0) = false := by rw [beq_eq_false_iff_ne]; omega
    have hz2 : ¬ ((n2 : Int) = 0) := by omega
    have m1 : (k : Int) < (n2 : Int) := by omega
    have m0 : (0 : Int) ≤ (k : Int) := by omega
    have m2 : IntKind.i64.wrap (k : Int) = (k : Int) := IntWalk.i64_in _ (by omega)
    have HDX := Lib.hid (List.getElem?_eq_getElem (l := ds) (i := k) (by rw [HDL.out]; exact hkn))
    generalize ds[k]'(by rw [HDL.out]; exact hkn) = d at *
    obtain ⟨gd, od, rfl, t0⟩ := (HDR.out.below HR.out.bel).st k d HDX.out
    have r1 := (show Blk v3 gR #[.int .i64 0, .string noS] tRs from HR.out.hd).cell 1
    have fr1 := (show Blk v3 gR #[.int .i64 0, .string noS] tRs from HR.out.hd).frozen 1
    simp at r1
    clear hk
    go_upto_region 29 with fail
    have HS := Lib.hid (show Sep w (v3.setCell ⟨gR, 1, none⟩ (.string d)) [tBlk gR #[.int .i64 0, .string d] tRs, tCli tCl b cv rv ⟨a0, nd, cs, W⟩, tOwn tRs 2 (.slice A9 i c9) i (eRs.fl W), tBlk gP #[.int .i64 a0, .int .i64 nd, .string px] tLt] from HR.out.blkSet 1 (.string d))
    have HDD := Lib.hid (HD40.out k d HDX.out)
    clear f1 hmod hmod2 hz hz2 m0 m1 m2 t0 r1 fr1
    generalize v3.setCell ⟨gR, 1, none⟩ (.string d) = wx at *
  all_goals
    clear HR
    have r1 := (show Blk wx gR #[.int .i64 0, .string d] tRs from HS.out.hd).cell 1
    simp at r1
    have hbm : ∀ (w : World), (Instr.build tMsg #[(0, .int .i64 15), (3, .int .i64 ((i : Int) + 1)), (4, .int .i64 (-1)), (5, .int .i64 (-1)), (8, .string d)]).run Try.prog w = .ok (.agg (aM i d).cs) w := fun w => run_build w tMsg _ _ (by kernel_rfl)
    obtain ⟨s, hs⟩ : ∃ s, mOut (aM i d) = s := ⟨_, rfl⟩
    obtain ⟨er, her⟩ : ∃ s, mEr (aM i d) = s := ⟨_, rfl⟩
    have HSS := Lib.hid (And.intro hs her)
    have HSZ := Lib.hid (show s.size ≤ 65536 by have := (mOut_size (aM_may (i := i) (d := d) (by omega) HDD.out)).1; rw [← hs]; omega)
    obtain ⟨fr, hfr⟩ : ∃ f : Int, ((i % 2 : Nat) : Int) = f := ⟨_, rfl⟩
    have hodd : bits .and .i64 (i : Int) 1 = fr := by rw [← hfr]; exact odd2 ⟨i, by omega⟩
    have hf01 : fr = 0 ∨ fr = 1 := by omega
    have HTK := Lib.hid (show (Cst.mk a0 nd cs W).take ⟨fr, a0, s⟩ = ⟨a0, nd, cs, onR cs (W ++ [⟨0, d⟩])⟩ ∧ (Cst.mk a0 nd cs W).takeB ⟨fr, a0, s⟩ = true by rw [← hs]; exact all_take a0 nd cs i W d fr hf01 HW.out (by rw [HCL.out]; exact hin) (by rw [HCL.out]; omega) HDD.out)
    have HGD2 := Lib.hid (show Good (Cst.mk a0 nd cs (onR cs (W ++ [⟨0, d⟩]))) by rw [← HTK.out.1]; exact HGD.out.take _)
    clear hs her hfr hf01
    go_upto_region 30 with (go_at_call 25; refine (rmencode_any (aM i d) _).mono ?_; rw [HSS.out.1, HSS.out.2]; rintro e v4 ⟨rfl, hB⟩; have HS := Lib.hid (HS.out.step hB).sw; clear hB)
    clear r1 hbm
    have hbl : ∀ w, (Instr.build tLt #[(0, .int .i64 fr), (1, .int .i64 a0), (2, .string s)]).run Try.prog w = .ok (.agg (Let.mk fr a0 s).cs) w := fun w => run_build w tLt _ _ (by kernel_rfl)
    go_upto_region 32 with (go_at_call 14; refine (take_sep HS.out HGD.out ⟨fr, a0, s⟩ HSZ.out).mono ?_; rw [HTK.out.1, HTK.out.2]; rintro e v5 ⟨rfl, rv', hS⟩; have HS := Lib.hid hS.sw; clear hS)
    have r0 := (show Blk v5 gR #[.int .i64 0, .string d] tRs from HS.out.hd).cell 0; have r1 := (show Blk v5 gR #[.int .i64 0, .string d] tRs from HS.out.hd).cell 1
    simp at r0 r1
    have HSR := Lib.hid HS.out.tail.sw
    clear HS
    go_wp2_with (at_builtin; refine app1O 44 tRs (.agg #[.int .i64 0, .string ByteArray.empty]) 2 24 [.int .i64 0, .string d] HSR.out.own HL1.out Try.underlying44 Try.infoRs rfl (by decide) (by decide) rfl (one2 _ _) (.tmp 119) (.tmp 121) rfl rfl rfl rfl ?_; intro v6 w7 ho1 hg1 hat1; have HS7 := Lib.hid (HSR.out.appG ho1 hg1 hat1); clear ho1 hg1 hat1)
    go_roundg (n1 - (i + 1))
    case measure => omega
    case rel =>
      have h := HS7.out
      rw [show [Value.int .i64 0, Value.string d] = eRs.f ⟨0, d⟩ from rfl, ← Enc.snoc] at h
      exact ⟨i + 1, _, q + 1, W ++ [⟨0, d⟩], nd, rv', rfl, by push_cast; rfl, by push_cast; rfl, by omega, rfl, by omega, by rw [List.length_append, HW.out]; rfl, HGD2.out, h.d3⟩
end Go.Proofs.Ytodjmeodcmbdoaa
