/- The walk of the law LinNothing: it returns true. No condition but the row's own. -/
import Derived.Test.YtkajkomljgdghaaLinL1
import Derived.Deep.CutBlock
set_option linter.unusedVariables false
set_option linter.unusedSimpArgs false
namespace Go.Proofs.Ytkajkomljgdghaa
open Go.RowKit Go.Maps
def keptB (L : List LOp) : List LOp := L.filter (fun o => !o.never)
theorem keptB_snoc {L : List LOp} {k : Nat} {x : LOp} (hx : L[k]? = some x) : keptB (L.take (k + 1)) = keptB (L.take k) ++ if x.never = false then [x] else [] := by
  have e : L.take (k + 1) = L.take k ++ [x] := by rw [List.take_add_one, hx]; rfl
  unfold keptB
  rw [e, List.filter_append, List.filter_cons, List.filter_nil]
  cases x.never <;> rfl
theorem never1 {xb xf xt xe : Int} {xd xr : ByteArray} {xk : Bool} : (LOp.mk 1 xb xd xf xt xk xe xr).never = (!xk || decide (xe ≠ 0)) := by
  show (!(xk && decide (xe = 0))) = _
  cases xk <;> simp
theorem never23 {xo xb xf xt xe : Int} {xd xr : ByteArray} {xk : Bool} (h : xo = 2 ∨ xo = 3) : (LOp.mk xo xb xd xf xt xk xe xr).never = (xk && refused xe) := by
  unfold LOp.never
  rw [if_neg (by simp only; omega), if_pos h]
theorem never0 {xo xb xf xt xe : Int} {xd xr : ByteArray} {xk : Bool} (h1 : xo ≠ 1) (h : ¬ (xo = 2 ∨ xo = 3)) : (LOp.mk xo xb xd xf xt xk xe xr).never = true := by
  unfold LOp.never
  rw [if_neg h1, if_neg h]
set_option maxRecDepth 100000 in
set_option maxHeartbeats 4000000 in
theorem w_LinNothing (a0 : Option Addr) (n0 c0 : Nat) (w : World) (b0 : Sh.Is w (.slice 80 (.pair (.pair (.int .i64) (.pair (.int .i64) (.pair .str .unit))) (.pair (.int .i64) (.pair (.int .i64) (.pair .bool (.pair (.pair (.int .i64) (.pair .str .unit)) .unit)))))) [.slice a0 n0 c0]) :
    Calls Try.prog 10 #[.slice a0 n0 c0] w fun e w' => e = .returned (.bool true) ∧ Below w.heap.size w w' := by
  obtain ⟨L, hl, _, _, _, hr, hok⟩ := Enc.of_slice (E := eOp) (p := LOp.ok) b0 (fun cs hc => is_lop hc)
  have HL := Lib.hid hl; have HOK := Lib.hid hok
  have HRD : Hid (∀ W' (l : List Th), Sep w W' l → Rd W' a0 (eOp.fl L)) := Lib.hid (fun W' l h => hr.below h.bel)
  clear b0 hl hok hr
  go_enter Try.func10, Try.ntmps10
  go_wp2_with fail
  refine (awake_any _).mono ?_
  rintro e w1 ⟨rfl, hB1⟩
  have HS := Lib.hid ((Sep.nil w).step hB1)
  clear hB1
  by_cases hn60 : 60 < n0
  · have q1 : decide ((60 : Int) < (n0 : Int)) = true := by simp; omega
    have q2 : (60 : Int) < (n0 : Int) := by omega
    go_wp2_with fail
    go_ret
    exact ⟨rfl, HS.out.bel⟩
  have q1 : decide ((60 : Int) < (n0 : Int)) = false := by simp; omega
  have q2 : ¬ (60 : Int) < (n0 : Int) := by omega
  by_cases he : errs L = 1
  · have HC := Lib.hid (show chkB L = false by unfold chkB; rw [he]; rfl)
    have HE := Lib.hid he
    clear he
    go_wp2_with (go_at_call 15; refine (check_any L a0 n0 c0 HL.out (by omega) HOK.out (fun W' h => HRD.out W' _ h) HS.out).mono ?_; rw [HC.out, HE.out]; rintro e w2 ⟨rfl, hS⟩; have HT := Lib.hid hS; clear hS)
    go_ret
    exact ⟨rfl, HT.out.bel⟩
  obtain ⟨t1, t2, t3⟩ := nothing (l := L) (p := fun o => !o.never) (fun o h => by rw [h]; rfl) he
  have HEQ := Lib.hid (show chkB (keptB L) = chkB L ∧ errs (keptB L) = errs L ∧ wrong (keptB L) = wrong L from ⟨t1.symm, t2.symm, t3.symm⟩)
  obtain ⟨el, hel⟩ : ∃ b, errs L = b := ⟨_, rfl⟩
  have HEL := Lib.hid hel
  rw [hel] at he
  have g1 : (el == 1) = false := by simpa using he
  obtain ⟨cl, hcl⟩ : ∃ b, chkB L = b := ⟨_, rfl⟩
  have HCL := Lib.hid hcl
  obtain ⟨wl, hwl⟩ : ∃ b, wrong L = b := ⟨_, rfl⟩
  have HWL := Lib.hid hwl
  clear t1 t2 t3 he hel hcl hwl
  go_upto_region 8 with (go_at_call 15; refine (check_any L a0 n0 c0 HL.out (by omega) HOK.out (fun W' h => HRD.out W' _ h) HS.out).mono ?_; rw [HCL.out, HEL.out]; rintro e w2 ⟨rfl, hS⟩; have HT := Lib.hid hS; clear hS)
  have HT := Lib.hid (HT.out.newRow tOp 8 (g := w2.heap.size) rfl)
  go_upto_region 9 with fail
  generalize w2.alloc (.cells #[] tOp) = w3 at *
  generalize w2.heap.size = g3 at *
  go_wp2_with fail
  go_loopg [5, 32] n0 (fun gk s5 s32 wr => ∃ (k : Nat) (A : Option Addr) (m c : Nat), s5 = .slice A m c ∧ s32 = .int .i64 (k : Int) ∧ k ≤ n0 ∧ gk = n0 - k ∧ (keptB (L.take k)).length = m ∧ m ≤ k ∧ Sep w wr [tOwn tOp 8 (.slice A m c) m (eOp.fl (keptB (L.take k)))])
  case atStart => exact ⟨0, _, 0, _, rfl, rfl, by omega, by omega, rfl, by omega, HT.out⟩
  case round =>
  clear HT
  obtain ⟨k, A, m, c, rfl, rfl, hk, hgk, hm, hmk, hs⟩ := hrel
  have HT := Lib.hid hs
  have HM := Lib.hid hm
  clear hs hm
  by_cases hkn : k < n0
  case neg =>
    have j1 : decide ((k : Int) < (n0 : Int)) = false := by simp; omega
    have j2 : ¬ (k : Int) < (n0 : Int) := by omega
    have hkn : k = n0 := by omega
    subst hkn
    have hall : L.take k = L := by rw [← HL.out, List.take_length]
    rw [hall] at HT HM
    clear hall
    have HOP := Lib.hid (ok_perm HOK.out (M := keptB L) (fun o ho => (List.mem_filter.1 ho).1))
    go_wp2_with (first
      | (go_at_call 15; refine (check_any (keptB L) A m c HM.out (by omega) HOP.out (fun W' h => h.own.rd) HT.out).mono ?_; rw [HEQ.out.1, HEQ.out.2.1, HCL.out, HEL.out]; rintro e w11 ⟨rfl, hS⟩; have HT2 := Lib.hid hS; clear hS)
      | (go_at_call 16; refine (wrong_any (keptB L) A m c HM.out (by omega) HOP.out (fun W' h => h.own.rd) HT3.out).mono ?_; rw [HEQ.out.2.2, HWL.out]; rintro e w13 ⟨rfl, hS⟩; have HT4 := Lib.hid hS; clear hS)
      | (go_at_call 16; refine (wrong_any L a0 k c0 HL.out (by omega) HOK.out (fun W' h => HRD.out W' _ h) HT2.out).mono ?_; rw [HWL.out]; rintro e w12 ⟨rfl, hS⟩; have HT3 := Lib.hid hS; clear hS))
    all_goals (go_ret; exact ⟨by simp, HT4.out.bel⟩)
  have j1 : decide ((k : Int) < (n0 : Int)) = true := by simp; omega
  have j2 : (k : Int) < (n0 : Int) := by omega
  have j3 : (0 : Int) ≤ (k : Int) := by omega
  have hwk : IntKind.i64.wrap ((k : Int) + 1) = (k : Int) + 1 := IntWalk.i64_in _ (by omega)
  have HX := Lib.hid (List.getElem?_eq_getElem (l := L) (i := k) (by rw [HL.out]; exact hkn))
  generalize L[k]'(by rw [HL.out]; exact hkn) = x at *
  obtain ⟨gb, go, rfl, hu⟩ := (HRD.out wr _ HT.out).op k x HX.out
  obtain ⟨g7, hg7⟩ : ∃ g, wr.heap.size = g := ⟨_, rfl⟩
  have HT := Lib.hid ((HT.out.newBlk #[.int .i64 0, .int .i64 0, .string { data := #[] }, .int .i64 0, .int .i64 0, .bool false, .int .i64 0, .string { data := #[] }] tOp hg7).sw)
  have HG7 := Lib.hid hg7
  clear hg7
  go_upto_region 12 with fail
  refine wp_region_lit (l := [_, _, _, _, _, _]) ?_
  iterate 3 (refine wpList_plain rfl fun _ hK => ?_; go_simp; refine hK _ _ ?_)
  refine loadMid (cs := x.cs) _ rfl (.tmp 37) rfl rfl hu Try.underlying44 rfl infoOp ?_
  refine wpList_plain rfl fun _ hK => ?_
  go_simp
  rw [HG7.out]
  refine hK _ _ ?_
  refine storeR x.cs (show Blk _ g7 #[.int .i64 0, .int .i64 0, .string { data := #[] }, .int .i64 0, .int .i64 0, .bool false, .int .i64 0, .string { data := #[] }] tOp from HT.out.h2) rfl infoOp (op1 x) rfl (.tmp 7) (.tmp 38) rfl rfl rfl ?_
  intro W hb8 hu8
  have HT := Lib.hid ((HT.out.sw.put hb8 hu8).sw)
  clear hb8 hu8 hu HG7
  obtain ⟨xo, xb, xd, xf, xt, xk, xe, xr⟩ := x
  unfold LOp.cs at HT
  simp only at HT
  have HG := Lib.hid (show Blk W g7 #[.int .i64 xo, .int .i64 xb, .string xd, .int .i64 xf, .int .i64 xt, .bool xk, .int .i64 xe, .string xr] tOp from HT.out.h2)
  have z0 : W.cell? ⟨g7, 0, none⟩ = some (.int .i64 xo) := HG.out.cell 0
  have z5 : W.cell? ⟨g7, 5, none⟩ = some (.bool xk) := HG.out.cell 5
  have z6 : W.cell? ⟨g7, 6, none⟩ = some (.int .i64 xe) := HG.out.cell 6
  have z1 : W.cell? ⟨g7, 1, none⟩ = some (.int .i64 xb) := HG.out.cell 1
  have z2 : W.cell? ⟨g7, 2, none⟩ = some (.string xd) := HG.out.cell 2
  have z3 : W.cell? ⟨g7, 3, none⟩ = some (.int .i64 xf) := HG.out.cell 3
  have z4 : W.cell? ⟨g7, 4, none⟩ = some (.int .i64 xt) := HG.out.cell 4
  have z7 : W.cell? ⟨g7, 7, none⟩ = some (.string xr) := HG.out.cell 7
  clear HG
  have HBD := Lib.hid (show (m + 1) * 80 ≤ 140737488355328 by omega)
  go_upto_region 13 with fail
  by_cases h1 : xo = 1
  · subst h1
    cases xk
    · have hnv : (LOp.mk 1 xb xd xf xt false xe xr).never = true := by rw [never1]; rfl
      have HSN := Lib.hid (show keptB (L.take (k + 1)) = keptB (L.take k) by rw [keptB_snoc HX.out, hnv]; simp)
      clear hnv
      go_wp2_with fail
      go_roundg (n0 - (k + 1))
      case measure => omega
      case rel => exact ⟨k + 1, A, m, c, rfl, by push_cast; rfl, by omega, rfl, by rw [HSN.out]; exact HM.out, by omega, by rw [HSN.out]; exact HT.out.d2⟩
    · by_cases h0 : xe = 0
      · subst h0
        have hnv : (LOp.mk 1 xb xd xf xt true 0 xr).never = false := by rw [never1]; rfl
        have HSN := Lib.hid (show keptB (L.take (k + 1)) = keptB (L.take k) ++ [⟨1, xb, xd, xf, xt, true, 0, xr⟩] by rw [keptB_snoc HX.out, hnv]; rfl)
        clear hnv
        go_wp2_with (at_builtin; refine app1O 22 tOp (.agg #[.int .i64 0, .int .i64 0, .string ByteArray.empty, .int .i64 0, .int .i64 0, .bool false, .int .i64 0, .string ByteArray.empty]) 8 80 [.int .i64 1, .int .i64 xb, .string xd, .int .i64 xf, .int .i64 xt, .bool true, .int .i64 0, .string xr] HT.out.own HBD.out Try.underlying22 Try.infoO rfl (by decide) (by decide) rfl (eOp.one ⟨1, xb, xd, xf, xt, true, 0, xr⟩) (.tmp 89) (.tmp 91) rfl rfl rfl rfl ?_; intro v1 w5 ho1 hg1 hat1; obtain ⟨A1, c1, rfl, _⟩ := ho1.form; have HT := Lib.hid (HT.out.appG ho1 hg1 hat1); clear ho1 hg1 hat1)
        go_roundg (n0 - (k + 1))
        case measure => omega
        case rel =>
          refine ⟨k + 1, A1, m + 1, c1, rfl, by push_cast; rfl, by omega, rfl, by rw [HSN.out, List.length_append, HM.out]; rfl, by omega, ?_⟩
          rw [HSN.out, Enc.snoc]
          exact HT.out.d2
      · have f0 : (xe != 0) = true := bne_iff_ne.2 h0
        have hnv : (LOp.mk 1 xb xd xf xt true xe xr).never = true := by rw [never1, decide_eq_true h0]; rfl
        have HSN := Lib.hid (show keptB (L.take (k + 1)) = keptB (L.take k) by rw [keptB_snoc HX.out, hnv]; simp)
        clear hnv
        go_wp2_with fail
        go_roundg (n0 - (k + 1))
        case measure => omega
        case rel => exact ⟨k + 1, A, m, c, rfl, by push_cast; rfl, by omega, rfl, by rw [HSN.out]; exact HM.out, by omega, by rw [HSN.out]; exact HT.out.d2⟩
  have e1 : (xo == 1) = false := by simpa using h1
  by_cases h2 : xo = 2
  · subst h2
    clear e1
    by_cases g1 : xe = 1
    · subst g1
      cases xk
      · have hnv : (LOp.mk 2 xb xd xf xt false 1 xr).never = false := by rw [never23 (by omega)]; rfl
        have HSN := Lib.hid (show keptB (L.take (k + 1)) = keptB (L.take k) ++ [⟨2, xb, xd, xf, xt, false, 1, xr⟩] by rw [keptB_snoc HX.out, hnv]; rfl)
        clear hnv
        go_wp2_with (at_builtin; refine app1O 22 tOp (.agg #[.int .i64 0, .int .i64 0, .string ByteArray.empty, .int .i64 0, .int .i64 0, .bool false, .int .i64 0, .string ByteArray.empty]) 8 80 [.int .i64 2, .int .i64 xb, .string xd, .int .i64 xf, .int .i64 xt, .bool false, .int .i64 1, .string xr] HT.out.own HBD.out Try.underlying22 Try.infoO rfl (by decide) (by decide) rfl (eOp.one ⟨2, xb, xd, xf, xt, false, 1, xr⟩) (.tmp 89) (.tmp 91) rfl rfl rfl rfl ?_; intro v1 w5 ho1 hg1 hat1; obtain ⟨A1, c1, rfl, _⟩ := ho1.form; have HT := Lib.hid (HT.out.appG ho1 hg1 hat1); clear ho1 hg1 hat1)
        go_roundg (n0 - (k + 1))
        case measure => omega
        case rel =>
          refine ⟨k + 1, A1, m + 1, c1, rfl, by push_cast; rfl, by omega, rfl, by rw [HSN.out, List.length_append, HM.out]; rfl, by omega, ?_⟩
          rw [HSN.out, Enc.snoc]
          exact HT.out.d2
      · have hnv : (LOp.mk 2 xb xd xf xt true 1 xr).never = true := by rw [never23 (by omega)]; rfl
        have HSN := Lib.hid (show keptB (L.take (k + 1)) = keptB (L.take k) by rw [keptB_snoc HX.out, hnv]; simp)
        clear hnv
        go_wp2_with fail
        go_roundg (n0 - (k + 1))
        case measure => omega
        case rel => exact ⟨k + 1, A, m, c, rfl, by push_cast; rfl, by omega, rfl, by rw [HSN.out]; exact HM.out, by omega, by rw [HSN.out]; exact HT.out.d2⟩
    by_cases g2 : xe = 2
    · subst g2
      cases xk
      · have hnv : (LOp.mk 2 xb xd xf xt false 2 xr).never = false := by rw [never23 (by omega)]; rfl
        have HSN := Lib.hid (show keptB (L.take (k + 1)) = keptB (L.take k) ++ [⟨2, xb, xd, xf, xt, false, 2, xr⟩] by rw [keptB_snoc HX.out, hnv]; rfl)
        clear hnv
        go_wp2_with (at_builtin; refine app1O 22 tOp (.agg #[.int .i64 0, .int .i64 0, .string ByteArray.empty, .int .i64 0, .int .i64 0, .bool false, .int .i64 0, .string ByteArray.empty]) 8 80 [.int .i64 2, .int .i64 xb, .string xd, .int .i64 xf, .int .i64 xt, .bool false, .int .i64 2, .string xr] HT.out.own HBD.out Try.underlying22 Try.infoO rfl (by decide) (by decide) rfl (eOp.one ⟨2, xb, xd, xf, xt, false, 2, xr⟩) (.tmp 89) (.tmp 91) rfl rfl rfl rfl ?_; intro v1 w5 ho1 hg1 hat1; obtain ⟨A1, c1, rfl, _⟩ := ho1.form; have HT := Lib.hid (HT.out.appG ho1 hg1 hat1); clear ho1 hg1 hat1)
        go_roundg (n0 - (k + 1))
        case measure => omega
        case rel =>
          refine ⟨k + 1, A1, m + 1, c1, rfl, by push_cast; rfl, by omega, rfl, by rw [HSN.out, List.length_append, HM.out]; rfl, by omega, ?_⟩
          rw [HSN.out, Enc.snoc]
          exact HT.out.d2
      · have hnv : (LOp.mk 2 xb xd xf xt true 2 xr).never = true := by rw [never23 (by omega)]; rfl
        have HSN := Lib.hid (show keptB (L.take (k + 1)) = keptB (L.take k) by rw [keptB_snoc HX.out, hnv]; simp)
        clear hnv
        go_wp2_with fail
        go_roundg (n0 - (k + 1))
        case measure => omega
        case rel => exact ⟨k + 1, A, m, c, rfl, by push_cast; rfl, by omega, rfl, by rw [HSN.out]; exact HM.out, by omega, by rw [HSN.out]; exact HT.out.d2⟩
    by_cases g3 : xe = 3
    · subst g3
      cases xk
      · have hnv : (LOp.mk 2 xb xd xf xt false 3 xr).never = false := by rw [never23 (by omega)]; rfl
        have HSN := Lib.hid (show keptB (L.take (k + 1)) = keptB (L.take k) ++ [⟨2, xb, xd, xf, xt, false, 3, xr⟩] by rw [keptB_snoc HX.out, hnv]; rfl)
        clear hnv
        go_wp2_with (at_builtin; refine app1O 22 tOp (.agg #[.int .i64 0, .int .i64 0, .string ByteArray.empty, .int .i64 0, .int .i64 0, .bool false, .int .i64 0, .string ByteArray.empty]) 8 80 [.int .i64 2, .int .i64 xb, .string xd, .int .i64 xf, .int .i64 xt, .bool false, .int .i64 3, .string xr] HT.out.own HBD.out Try.underlying22 Try.infoO rfl (by decide) (by decide) rfl (eOp.one ⟨2, xb, xd, xf, xt, false, 3, xr⟩) (.tmp 89) (.tmp 91) rfl rfl rfl rfl ?_; intro v1 w5 ho1 hg1 hat1; obtain ⟨A1, c1, rfl, _⟩ := ho1.form; have HT := Lib.hid (HT.out.appG ho1 hg1 hat1); clear ho1 hg1 hat1)
        go_roundg (n0 - (k + 1))
        case measure => omega
        case rel =>
          refine ⟨k + 1, A1, m + 1, c1, rfl, by push_cast; rfl, by omega, rfl, by rw [HSN.out, List.length_append, HM.out]; rfl, by omega, ?_⟩
          rw [HSN.out, Enc.snoc]
          exact HT.out.d2
      · have hnv : (LOp.mk 2 xb xd xf xt true 3 xr).never = true := by rw [never23 (by omega)]; rfl
        have HSN := Lib.hid (show keptB (L.take (k + 1)) = keptB (L.take k) by rw [keptB_snoc HX.out, hnv]; simp)
        clear hnv
        go_wp2_with fail
        go_roundg (n0 - (k + 1))
        case measure => omega
        case rel => exact ⟨k + 1, A, m, c, rfl, by push_cast; rfl, by omega, rfl, by rw [HSN.out]; exact HM.out, by omega, by rw [HSN.out]; exact HT.out.d2⟩
    by_cases g4 : xe = 4
    · subst g4
      cases xk
      · have hnv : (LOp.mk 2 xb xd xf xt false 4 xr).never = false := by rw [never23 (by omega)]; rfl
        have HSN := Lib.hid (show keptB (L.take (k + 1)) = keptB (L.take k) ++ [⟨2, xb, xd, xf, xt, false, 4, xr⟩] by rw [keptB_snoc HX.out, hnv]; rfl)
        clear hnv
        go_wp2_with (at_builtin; refine app1O 22 tOp (.agg #[.int .i64 0, .int .i64 0, .string ByteArray.empty, .int .i64 0, .int .i64 0, .bool false, .int .i64 0, .string ByteArray.empty]) 8 80 [.int .i64 2, .int .i64 xb, .string xd, .int .i64 xf, .int .i64 xt, .bool false, .int .i64 4, .string xr] HT.out.own HBD.out Try.underlying22 Try.infoO rfl (by decide) (by decide) rfl (eOp.one ⟨2, xb, xd, xf, xt, false, 4, xr⟩) (.tmp 89) (.tmp 91) rfl rfl rfl rfl ?_; intro v1 w5 ho1 hg1 hat1; obtain ⟨A1, c1, rfl, _⟩ := ho1.form; have HT := Lib.hid (HT.out.appG ho1 hg1 hat1); clear ho1 hg1 hat1)
        go_roundg (n0 - (k + 1))
        case measure => omega
        case rel =>
          refine ⟨k + 1, A1, m + 1, c1, rfl, by push_cast; rfl, by omega, rfl, by rw [HSN.out, List.length_append, HM.out]; rfl, by omega, ?_⟩
          rw [HSN.out, Enc.snoc]
          exact HT.out.d2
      · have hnv : (LOp.mk 2 xb xd xf xt true 4 xr).never = true := by rw [never23 (by omega)]; rfl
        have HSN := Lib.hid (show keptB (L.take (k + 1)) = keptB (L.take k) by rw [keptB_snoc HX.out, hnv]; simp)
        clear hnv
        go_wp2_with fail
        go_roundg (n0 - (k + 1))
        case measure => omega
        case rel => exact ⟨k + 1, A, m, c, rfl, by push_cast; rfl, by omega, rfl, by rw [HSN.out]; exact HM.out, by omega, by rw [HSN.out]; exact HT.out.d2⟩
    by_cases g20 : xe = 20
    · subst g20
      cases xk
      · have hnv : (LOp.mk 2 xb xd xf xt false 20 xr).never = false := by rw [never23 (by omega)]; rfl
        have HSN := Lib.hid (show keptB (L.take (k + 1)) = keptB (L.take k) ++ [⟨2, xb, xd, xf, xt, false, 20, xr⟩] by rw [keptB_snoc HX.out, hnv]; rfl)
        clear hnv
        go_wp2_with (at_builtin; refine app1O 22 tOp (.agg #[.int .i64 0, .int .i64 0, .string ByteArray.empty, .int .i64 0, .int .i64 0, .bool false, .int .i64 0, .string ByteArray.empty]) 8 80 [.int .i64 2, .int .i64 xb, .string xd, .int .i64 xf, .int .i64 xt, .bool false, .int .i64 20, .string xr] HT.out.own HBD.out Try.underlying22 Try.infoO rfl (by decide) (by decide) rfl (eOp.one ⟨2, xb, xd, xf, xt, false, 20, xr⟩) (.tmp 89) (.tmp 91) rfl rfl rfl rfl ?_; intro v1 w5 ho1 hg1 hat1; obtain ⟨A1, c1, rfl, _⟩ := ho1.form; have HT := Lib.hid (HT.out.appG ho1 hg1 hat1); clear ho1 hg1 hat1)
        go_roundg (n0 - (k + 1))
        case measure => omega
        case rel =>
          refine ⟨k + 1, A1, m + 1, c1, rfl, by push_cast; rfl, by omega, rfl, by rw [HSN.out, List.length_append, HM.out]; rfl, by omega, ?_⟩
          rw [HSN.out, Enc.snoc]
          exact HT.out.d2
      · have hnv : (LOp.mk 2 xb xd xf xt true 20 xr).never = true := by rw [never23 (by omega)]; rfl
        have HSN := Lib.hid (show keptB (L.take (k + 1)) = keptB (L.take k) by rw [keptB_snoc HX.out, hnv]; simp)
        clear hnv
        go_wp2_with fail
        go_roundg (n0 - (k + 1))
        case measure => omega
        case rel => exact ⟨k + 1, A, m, c, rfl, by push_cast; rfl, by omega, rfl, by rw [HSN.out]; exact HM.out, by omega, by rw [HSN.out]; exact HT.out.d2⟩
    have r0 : refused xe = false := decide_eq_false (by rintro (h | h | h | h | h) <;> contradiction)
    have f1 : (xe == 1) = false := by simpa using g1
    have f2 : (xe == 2) = false := by simpa using g2
    have f3 : (xe == 3) = false := by simpa using g3
    have f4 : (xe == 4) = false := by simpa using g4
    have f20 : (xe == 20) = false := by simpa using g20
    clear g1 g2 g3 g4 g20
    have hnv : (LOp.mk 2 xb xd xf xt xk xe xr).never = false := by rw [never23 (by omega), r0, Bool.and_false]
    have HSN := Lib.hid (show keptB (L.take (k + 1)) = keptB (L.take k) ++ [⟨2, xb, xd, xf, xt, xk, xe, xr⟩] by rw [keptB_snoc HX.out, hnv]; rfl)
    clear hnv
    go_wp2_with (at_builtin; refine app1O 22 tOp (.agg #[.int .i64 0, .int .i64 0, .string ByteArray.empty, .int .i64 0, .int .i64 0, .bool false, .int .i64 0, .string ByteArray.empty]) 8 80 [.int .i64 2, .int .i64 xb, .string xd, .int .i64 xf, .int .i64 xt, .bool xk, .int .i64 xe, .string xr] HT.out.own HBD.out Try.underlying22 Try.infoO rfl (by decide) (by decide) rfl (eOp.one ⟨2, xb, xd, xf, xt, xk, xe, xr⟩) (.tmp 89) (.tmp 91) rfl rfl rfl rfl ?_; intro v1 w5 ho1 hg1 hat1; obtain ⟨A1, c1, rfl, _⟩ := ho1.form; have HT := Lib.hid (HT.out.appG ho1 hg1 hat1); clear ho1 hg1 hat1)
    go_roundg (n0 - (k + 1))
    case measure => omega
    case rel =>
      refine ⟨k + 1, A1, m + 1, c1, rfl, by push_cast; rfl, by omega, rfl, by rw [HSN.out, List.length_append, HM.out]; rfl, by omega, ?_⟩
      rw [HSN.out, Enc.snoc]
      exact HT.out.d2
  have e2 : (xo == 2) = false := by simpa using h2
  by_cases h3 : xo = 3
  · subst h3
    clear e1 e2
    by_cases g1 : xe = 1
    · subst g1
      cases xk
      · have hnv : (LOp.mk 3 xb xd xf xt false 1 xr).never = false := by rw [never23 (by omega)]; rfl
        have HSN := Lib.hid (show keptB (L.take (k + 1)) = keptB (L.take k) ++ [⟨3, xb, xd, xf, xt, false, 1, xr⟩] by rw [keptB_snoc HX.out, hnv]; rfl)
        clear hnv
        go_wp2_with (at_builtin; refine app1O 22 tOp (.agg #[.int .i64 0, .int .i64 0, .string ByteArray.empty, .int .i64 0, .int .i64 0, .bool false, .int .i64 0, .string ByteArray.empty]) 8 80 [.int .i64 3, .int .i64 xb, .string xd, .int .i64 xf, .int .i64 xt, .bool false, .int .i64 1, .string xr] HT.out.own HBD.out Try.underlying22 Try.infoO rfl (by decide) (by decide) rfl (eOp.one ⟨3, xb, xd, xf, xt, false, 1, xr⟩) (.tmp 89) (.tmp 91) rfl rfl rfl rfl ?_; intro v1 w5 ho1 hg1 hat1; obtain ⟨A1, c1, rfl, _⟩ := ho1.form; have HT := Lib.hid (HT.out.appG ho1 hg1 hat1); clear ho1 hg1 hat1)
        go_roundg (n0 - (k + 1))
        case measure => omega
        case rel =>
          refine ⟨k + 1, A1, m + 1, c1, rfl, by push_cast; rfl, by omega, rfl, by rw [HSN.out, List.length_append, HM.out]; rfl, by omega, ?_⟩
          rw [HSN.out, Enc.snoc]
          exact HT.out.d2
      · have hnv : (LOp.mk 3 xb xd xf xt true 1 xr).never = true := by rw [never23 (by omega)]; rfl
        have HSN := Lib.hid (show keptB (L.take (k + 1)) = keptB (L.take k) by rw [keptB_snoc HX.out, hnv]; simp)
        clear hnv
        go_wp2_with fail
        go_roundg (n0 - (k + 1))
        case measure => omega
        case rel => exact ⟨k + 1, A, m, c, rfl, by push_cast; rfl, by omega, rfl, by rw [HSN.out]; exact HM.out, by omega, by rw [HSN.out]; exact HT.out.d2⟩
    by_cases g2 : xe = 2
    · subst g2
      cases xk
      · have hnv : (LOp.mk 3 xb xd xf xt false 2 xr).never = false := by rw [never23 (by omega)]; rfl
        have HSN := Lib.hid (show keptB (L.take (k + 1)) = keptB (L.take k) ++ [⟨3, xb, xd, xf, xt, false, 2, xr⟩] by rw [keptB_snoc HX.out, hnv]; rfl)
        clear hnv
        go_wp2_with (at_builtin; refine app1O 22 tOp (.agg #[.int .i64 0, .int .i64 0, .string ByteArray.empty, .int .i64 0, .int .i64 0, .bool false, .int .i64 0, .string ByteArray.empty]) 8 80 [.int .i64 3, .int .i64 xb, .string xd, .int .i64 xf, .int .i64 xt, .bool false, .int .i64 2, .string xr] HT.out.own HBD.out Try.underlying22 Try.infoO rfl (by decide) (by decide) rfl (eOp.one ⟨3, xb, xd, xf, xt, false, 2, xr⟩) (.tmp 89) (.tmp 91) rfl rfl rfl rfl ?_; intro v1 w5 ho1 hg1 hat1; obtain ⟨A1, c1, rfl, _⟩ := ho1.form; have HT := Lib.hid (HT.out.appG ho1 hg1 hat1); clear ho1 hg1 hat1)
        go_roundg (n0 - (k + 1))
        case measure => omega
        case rel =>
          refine ⟨k + 1, A1, m + 1, c1, rfl, by push_cast; rfl, by omega, rfl, by rw [HSN.out, List.length_append, HM.out]; rfl, by omega, ?_⟩
          rw [HSN.out, Enc.snoc]
          exact HT.out.d2
      · have hnv : (LOp.mk 3 xb xd xf xt true 2 xr).never = true := by rw [never23 (by omega)]; rfl
        have HSN := Lib.hid (show keptB (L.take (k + 1)) = keptB (L.take k) by rw [keptB_snoc HX.out, hnv]; simp)
        clear hnv
        go_wp2_with fail
        go_roundg (n0 - (k + 1))
        case measure => omega
        case rel => exact ⟨k + 1, A, m, c, rfl, by push_cast; rfl, by omega, rfl, by rw [HSN.out]; exact HM.out, by omega, by rw [HSN.out]; exact HT.out.d2⟩
    by_cases g3 : xe = 3
    · subst g3
      cases xk
      · have hnv : (LOp.mk 3 xb xd xf xt false 3 xr).never = false := by rw [never23 (by omega)]; rfl
        have HSN := Lib.hid (show keptB (L.take (k + 1)) = keptB (L.take k) ++ [⟨3, xb, xd, xf, xt, false, 3, xr⟩] by rw [keptB_snoc HX.out, hnv]; rfl)
        clear hnv
        go_wp2_with (at_builtin; refine app1O 22 tOp (.agg #[.int .i64 0, .int .i64 0, .string ByteArray.empty, .int .i64 0, .int .i64 0, .bool false, .int .i64 0, .string ByteArray.empty]) 8 80 [.int .i64 3, .int .i64 xb, .string xd, .int .i64 xf, .int .i64 xt, .bool false, .int .i64 3, .string xr] HT.out.own HBD.out Try.underlying22 Try.infoO rfl (by decide) (by decide) rfl (eOp.one ⟨3, xb, xd, xf, xt, false, 3, xr⟩) (.tmp 89) (.tmp 91) rfl rfl rfl rfl ?_; intro v1 w5 ho1 hg1 hat1; obtain ⟨A1, c1, rfl, _⟩ := ho1.form; have HT := Lib.hid (HT.out.appG ho1 hg1 hat1); clear ho1 hg1 hat1)
        go_roundg (n0 - (k + 1))
        case measure => omega
        case rel =>
          refine ⟨k + 1, A1, m + 1, c1, rfl, by push_cast; rfl, by omega, rfl, by rw [HSN.out, List.length_append, HM.out]; rfl, by omega, ?_⟩
          rw [HSN.out, Enc.snoc]
          exact HT.out.d2
      · have hnv : (LOp.mk 3 xb xd xf xt true 3 xr).never = true := by rw [never23 (by omega)]; rfl
        have HSN := Lib.hid (show keptB (L.take (k + 1)) = keptB (L.take k) by rw [keptB_snoc HX.out, hnv]; simp)
        clear hnv
        go_wp2_with fail
        go_roundg (n0 - (k + 1))
        case measure => omega
        case rel => exact ⟨k + 1, A, m, c, rfl, by push_cast; rfl, by omega, rfl, by rw [HSN.out]; exact HM.out, by omega, by rw [HSN.out]; exact HT.out.d2⟩
    by_cases g4 : xe = 4
    · subst g4
      cases xk
      · have hnv : (LOp.mk 3 xb xd xf xt false 4 xr).never = false := by rw [never23 (by omega)]; rfl
        have HSN := Lib.hid (show keptB (L.take (k + 1)) = keptB (L.take k) ++ [⟨3, xb, xd, xf, xt, false, 4, xr⟩] by rw [keptB_snoc HX.out, hnv]; rfl)
        clear hnv
        go_wp2_with (at_builtin; refine app1O 22 tOp (.agg #[.int .i64 0, .int .i64 0, .string ByteArray.empty, .int .i64 0, .int .i64 0, .bool false, .int .i64 0, .string ByteArray.empty]) 8 80 [.int .i64 3, .int .i64 xb, .string xd, .int .i64 xf, .int .i64 xt, .bool false, .int .i64 4, .string xr] HT.out.own HBD.out Try.underlying22 Try.infoO rfl (by decide) (by decide) rfl (eOp.one ⟨3, xb, xd, xf, xt, false, 4, xr⟩) (.tmp 89) (.tmp 91) rfl rfl rfl rfl ?_; intro v1 w5 ho1 hg1 hat1; obtain ⟨A1, c1, rfl, _⟩ := ho1.form; have HT := Lib.hid (HT.out.appG ho1 hg1 hat1); clear ho1 hg1 hat1)
        go_roundg (n0 - (k + 1))
        case measure => omega
        case rel =>
          refine ⟨k + 1, A1, m + 1, c1, rfl, by push_cast; rfl, by omega, rfl, by rw [HSN.out, List.length_append, HM.out]; rfl, by omega, ?_⟩
          rw [HSN.out, Enc.snoc]
          exact HT.out.d2
      · have hnv : (LOp.mk 3 xb xd xf xt true 4 xr).never = true := by rw [never23 (by omega)]; rfl
        have HSN := Lib.hid (show keptB (L.take (k + 1)) = keptB (L.take k) by rw [keptB_snoc HX.out, hnv]; simp)
        clear hnv
        go_wp2_with fail
        go_roundg (n0 - (k + 1))
        case measure => omega
        case rel => exact ⟨k + 1, A, m, c, rfl, by push_cast; rfl, by omega, rfl, by rw [HSN.out]; exact HM.out, by omega, by rw [HSN.out]; exact HT.out.d2⟩
    by_cases g20 : xe = 20
    · subst g20
      cases xk
      · have hnv : (LOp.mk 3 xb xd xf xt false 20 xr).never = false := by rw [never23 (by omega)]; rfl
        have HSN := Lib.hid (show keptB (L.take (k + 1)) = keptB (L.take k) ++ [⟨3, xb, xd, xf, xt, false, 20, xr⟩] by rw [keptB_snoc HX.out, hnv]; rfl)
        clear hnv
        go_wp2_with (at_builtin; refine app1O 22 tOp (.agg #[.int .i64 0, .int .i64 0, .string ByteArray.empty, .int .i64 0, .int .i64 0, .bool false, .int .i64 0, .string ByteArray.empty]) 8 80 [.int .i64 3, .int .i64 xb, .string xd, .int .i64 xf, .int .i64 xt, .bool false, .int .i64 20, .string xr] HT.out.own HBD.out Try.underlying22 Try.infoO rfl (by decide) (by decide) rfl (eOp.one ⟨3, xb, xd, xf, xt, false, 20, xr⟩) (.tmp 89) (.tmp 91) rfl rfl rfl rfl ?_; intro v1 w5 ho1 hg1 hat1; obtain ⟨A1, c1, rfl, _⟩ := ho1.form; have HT := Lib.hid (HT.out.appG ho1 hg1 hat1); clear ho1 hg1 hat1)
        go_roundg (n0 - (k + 1))
        case measure => omega
        case rel =>
          refine ⟨k + 1, A1, m + 1, c1, rfl, by push_cast; rfl, by omega, rfl, by rw [HSN.out, List.length_append, HM.out]; rfl, by omega, ?_⟩
          rw [HSN.out, Enc.snoc]
          exact HT.out.d2
      · have hnv : (LOp.mk 3 xb xd xf xt true 20 xr).never = true := by rw [never23 (by omega)]; rfl
        have HSN := Lib.hid (show keptB (L.take (k + 1)) = keptB (L.take k) by rw [keptB_snoc HX.out, hnv]; simp)
        clear hnv
        go_wp2_with fail
        go_roundg (n0 - (k + 1))
        case measure => omega
        case rel => exact ⟨k + 1, A, m, c, rfl, by push_cast; rfl, by omega, rfl, by rw [HSN.out]; exact HM.out, by omega, by rw [HSN.out]; exact HT.out.d2⟩
    have r0 : refused xe = false := decide_eq_false (by rintro (h | h | h | h | h) <;> contradiction)
    have f1 : (xe == 1) = false := by simpa using g1
    have f2 : (xe == 2) = false := by simpa using g2
    have f3 : (xe == 3) = false := by simpa using g3
    have f4 : (xe == 4) = false := by simpa using g4
    have f20 : (xe == 20) = false := by simpa using g20
    clear g1 g2 g3 g4 g20
    have hnv : (LOp.mk 3 xb xd xf xt xk xe xr).never = false := by rw [never23 (by omega), r0, Bool.and_false]
    have HSN := Lib.hid (show keptB (L.take (k + 1)) = keptB (L.take k) ++ [⟨3, xb, xd, xf, xt, xk, xe, xr⟩] by rw [keptB_snoc HX.out, hnv]; rfl)
    clear hnv
    go_wp2_with (at_builtin; refine app1O 22 tOp (.agg #[.int .i64 0, .int .i64 0, .string ByteArray.empty, .int .i64 0, .int .i64 0, .bool false, .int .i64 0, .string ByteArray.empty]) 8 80 [.int .i64 3, .int .i64 xb, .string xd, .int .i64 xf, .int .i64 xt, .bool xk, .int .i64 xe, .string xr] HT.out.own HBD.out Try.underlying22 Try.infoO rfl (by decide) (by decide) rfl (eOp.one ⟨3, xb, xd, xf, xt, xk, xe, xr⟩) (.tmp 89) (.tmp 91) rfl rfl rfl rfl ?_; intro v1 w5 ho1 hg1 hat1; obtain ⟨A1, c1, rfl, _⟩ := ho1.form; have HT := Lib.hid (HT.out.appG ho1 hg1 hat1); clear ho1 hg1 hat1)
    go_roundg (n0 - (k + 1))
    case measure => omega
    case rel =>
      refine ⟨k + 1, A1, m + 1, c1, rfl, by push_cast; rfl, by omega, rfl, by rw [HSN.out, List.length_append, HM.out]; rfl, by omega, ?_⟩
      rw [HSN.out, Enc.snoc]
      exact HT.out.d2
  have e3 : (xo == 3) = false := by simpa using h3
  have h23 : ¬ (xo = 2 ∨ xo = 3) := by omega
  by_cases hlo : xo < 1
  · have f1 : decide (xo < 1) = true := decide_eq_true hlo
    have hnv : (LOp.mk xo xb xd xf xt xk xe xr).never = true := never0 h1 h23
    have HSN := Lib.hid (show keptB (L.take (k + 1)) = keptB (L.take k) by rw [keptB_snoc HX.out, hnv]; simp)
    clear hnv
    go_wp2_with fail
    go_roundg (n0 - (k + 1))
    case measure => omega
    case rel => exact ⟨k + 1, A, m, c, rfl, by push_cast; rfl, by omega, rfl, by rw [HSN.out]; exact HM.out, by omega, by rw [HSN.out]; exact HT.out.d2⟩
  have f1 : decide (xo < 1) = false := decide_eq_false hlo
  have f3 : decide ((3 : Int) < xo) = true := decide_eq_true (by omega)
  have f4 : (3 : Int) < xo := by omega
  have hnv : (LOp.mk xo xb xd xf xt xk xe xr).never = true := never0 h1 h23
  have HSN := Lib.hid (show keptB (L.take (k + 1)) = keptB (L.take k) by rw [keptB_snoc HX.out, hnv]; simp)
  clear hnv
  go_wp2_with fail
  go_roundg (n0 - (k + 1))
  case measure => omega
  case rel => exact ⟨k + 1, A, m, c, rfl, by push_cast; rfl, by omega, rfl, by rw [HSN.out]; exact HM.out, by omega, by rw [HSN.out]; exact HT.out.d2⟩
end Go.Proofs.Ytkajkomljgdghaa
