/- The walk of the law LinApart: it returns true. No condition but the row's own. -/
import Derived.Test.YtkajkomljgdghaaLinL1
set_option linter.unusedVariables false
set_option linter.unusedSimpArgs false
namespace Go.Proofs.Ytkajkomljgdghaa
open Go.RowKit Go.Maps
theorem blkOf_snoc {L : List LOp} {k : Nat} {x : LOp} (hx : L[k]? = some x) (b : Int) : blkOf (L.take (k + 1)) b = blkOf (L.take k) b ++ if x.blk = b then [x] else [] := by
  have e : L.take (k + 1) = L.take k ++ [x] := by rw [List.take_add_one, hx]; rfl
  unfold blkOf
  rw [e, List.filter_append, List.filter_cons, List.filter_nil]
  by_cases h : x.blk = b <;> simp [h]
theorem blkOf_le (L : List LOp) (b : Int) : (blkOf L b).length ≤ L.length := List.length_filter_le _ _
/-- What the law's own loop has found. -/
def lowK (L : List LOp) (k : Nat) : Int × Bool := lows (rightB L) ((L.take k).map (·.blk))
def allK (L : List LOp) (k : Nat) : Bool := ((L.take k).map (·.blk)).all (rightB L)
theorem lowK_succ {L : List LOp} {k : Nat} {x : LOp} (hx : L[k]? = some x) : lowK L (k + 1) = lowStep (rightB L) (lowK L k) x.blk ∧ allK L (k + 1) = (allK L k && rightB L x.blk) := by
  have e : L.take (k + 1) = L.take k ++ [x] := by rw [List.take_add_one, hx]; rfl
  unfold lowK allK lows
  rw [e, List.map_append, List.foldl_append, List.all_append]
  simp
set_option maxRecDepth 100000 in
set_option maxHeartbeats 4000000 in
theorem w_LinApart (a0 : Option Addr) (n0 c0 : Nat) (w : World) (b0 : Sh.Is w (.slice 80 (.pair (.pair (.int .i64) (.pair (.int .i64) (.pair .str .unit))) (.pair (.int .i64) (.pair (.int .i64) (.pair .bool (.pair (.pair (.int .i64) (.pair .str .unit)) .unit)))))) [.slice a0 n0 c0]) :
    Calls Try.prog 6 #[.slice a0 n0 c0] w fun e w' => e = .returned (.bool true) ∧ Below w.heap.size w w' := by
  obtain ⟨L, hl, _, _, _, hr, hok⟩ := Enc.of_slice (E := eOp) (p := LOp.ok) b0 (fun cs hc => is_lop hc)
  have HL := Lib.hid hl; have HOK := Lib.hid hok
  have HRD : Hid (∀ W' (l : List Th), Sep w W' l → Rd W' a0 (eOp.fl L)) := Lib.hid (fun W' l h => hr.below h.bel)
  clear b0 hl hok hr
  go_enter Try.func6, Try.ntmps6
  go_wp2_with fail
  refine (awake_any _).mono ?_
  rintro e w1 ⟨rfl, hB1⟩
  have HS := Lib.hid ((Sep.nil w).step hB1)
  clear hB1
  by_cases hn60 : 60 < n0
  · have q1 : decide ((60 : Int) < (n0 : Int)) = true := by simp; omega
    have q2 : (60 : Int) < (n0 : Int) := by omega
    go_wp2_with fail
    go_ret
    exact ⟨rfl, HS.out.bel⟩
  have q1 : decide ((60 : Int) < (n0 : Int)) = false := by simp; omega
  have q2 : ¬ (60 : Int) < (n0 : Int) := by omega
  by_cases he : errs L = 0
  case neg =>
    have HC := Lib.hid (show chkB L = false by unfold chkB; rw [decide_eq_false he]; rfl)
    have g1 : (errs L != 0) = true := bne_iff_ne.2 he
    go_wp2_with (go_at_call 15; refine (check_any L a0 n0 c0 HL.out (by omega) HOK.out (fun W' h => HRD.out W' _ h) HS.out).mono ?_; rw [HC.out]; rintro e w2 ⟨rfl, hS⟩; have HT := Lib.hid hS; clear hS)
    go_ret
    exact ⟨rfl, HT.out.bel⟩
  have HE := Lib.hid he
  obtain ⟨ca, hca⟩ : ∃ b, chkB L = b := ⟨_, rfl⟩
  have HCA := Lib.hid hca
  clear he hca
  go_wp2_with (go_at_call 15; refine (check_any L a0 n0 c0 HL.out (by omega) HOK.out (fun W' h => HRD.out W' _ h) HS.out).mono ?_; rw [HE.out, HCA.out]; rintro e w2 ⟨rfl, hS⟩; have HT := Lib.hid hS; clear hS)
  go_loopg [5, 6, 7, 32] n0 (fun gk s5 s6 s7 s32 wr => ∃ (k : Nat) (rg fo : Bool) (lo : Int), s5 = .bool rg ∧ s6 = .int .i64 lo ∧ s7 = .bool fo ∧ s32 = .int .i64 (k : Int) ∧ k ≤ n0 ∧ gk = n0 - k ∧ rg = allK L k ∧ (lo, fo) = lowK L k ∧ Sep w wr [])
  case atStart => exact ⟨0, true, false, 0, rfl, rfl, rfl, rfl, by omega, by omega, rfl, rfl, HT.out⟩
  case round =>
  clear HT
  obtain ⟨k, rg, fo, lo, rfl, rfl, rfl, rfl, hk, hgk, hrg, hlo, hs⟩ := hrel
  have HT := Lib.hid hs
  have HRG := Lib.hid hrg
  have HLO := Lib.hid hlo
  clear hs hrg hlo
  by_cases hkn : k < n0
  case neg =>
    have j1 : decide ((k : Int) < (n0 : Int)) = false := by simp; omega
    have j2 : ¬ (k : Int) < (n0 : Int) := by omega
    have hkn : k = n0 := by omega
    subst hkn
    have hall : L.take k = L := by rw [← HL.out, List.take_length]
    have HW := Lib.hid (show wrong L = (lo, fo) by
      rw [HLO.out]; unfold wrong lowK; rw [if_pos HE.out, hall])
    have HRF := Lib.hid (show rg = !fo by
      rw [HRG.out]; unfold allK; rw [all_low, hall]
      have := HLO.out
      unfold lowK at this
      rw [hall] at this
      rw [← this])
    have hcf : ca = !fo := by rw [← HCA.out, chk_wrong HE.out, HW.out]
    have hrf := HRF.out
    subst hcf
    subst hrf
    clear hall
    go_upto_region 29 with (go_at_call 16; refine (wrong_any L a0 k c0 HL.out (by omega) HOK.out (fun W' h => HRD.out W' _ h) HT.out).mono ?_; rw [HW.out]; rintro e w9 ⟨rfl, hS⟩; have HT := Lib.hid hS; clear hS)
    cases fo
    · go_wp2_with fail
      go_ret
      exact ⟨rfl, HT.out.bel⟩
    · go_wp2_with fail
      go_ret
      exact ⟨by simp, HT.out.bel⟩
  have j1 : decide ((k : Int) < (n0 : Int)) = true := by simp; omega
  have j2 : (k : Int) < (n0 : Int) := by omega
  have j3 : (0 : Int) ≤ (k : Int) := by omega
  have hwk : IntKind.i64.wrap ((k : Int) + 1) = (k : Int) + 1 := IntWalk.i64_in _ (by omega)
  have HX := Lib.hid (List.getElem?_eq_getElem (l := L) (i := k) (by rw [HL.out]; exact hkn))
  generalize L[k]'(by rw [HL.out]; exact hkn) = x at *
  obtain ⟨gb, go, rfl, hu⟩ := (HRD.out wr _ HT.out).op k x HX.out
  have u1 : wr.cell? ⟨gb, go + k * 8 + 1, none⟩ = some (.int .i64 x.blk) := hu 1 _ rfl
  obtain ⟨b, hb⟩ : ∃ b, x.blk = b := ⟨_, rfl⟩
  have HB := Lib.hid hb
  rw [hb] at u1
  clear hu hb
  have HT := Lib.hid (HT.out.newRow tOp 8 (g := wr.heap.size) rfl)
  go_upto_region 15 with fail
  clear u1
  generalize wr.alloc (.cells #[] tOp) = w3 at *
  generalize wr.heap.size = g3 at *
  go_wp2_with fail
  go_loopg [10, 44] n0 (fun gk s10 s44 wr => ∃ (j : Nat) (A : Option Addr) (m c : Nat), s10 = .slice A m c ∧ s44 = .int .i64 (j : Int) ∧ j ≤ n0 ∧ gk = n0 - j ∧ (blkOf (L.take j) b).length = m ∧ m ≤ j ∧ Sep w wr [tOwn tOp 8 (.slice A m c) m (eOp.fl (blkOf (L.take j) b))])
  case atStart => exact ⟨0, _, 0, _, rfl, rfl, by omega, by omega, rfl, by omega, HT.out⟩
  case round =>
  clear HT
  obtain ⟨j, A, m, c, rfl, rfl, hj, hgj, hm, hmj, hs⟩ := hrel
  have HT := Lib.hid hs
  have HM := Lib.hid hm
  clear hs hm
  by_cases hjn : j < n0
  · have i1 : decide ((j : Int) < (n0 : Int)) = true := by simp; omega
    have i2 : (j : Int) < (n0 : Int) := by omega
    have i3 : (0 : Int) ≤ (j : Int) := by omega
    have hwj : IntKind.i64.wrap ((j : Int) + 1) = (j : Int) + 1 := IntWalk.i64_in _ (by omega)
    have HY := Lib.hid (List.getElem?_eq_getElem (l := L) (i := j) (by rw [HL.out]; exact hjn))
    generalize L[j]'(by rw [HL.out]; exact hjn) = y at *
    obtain ⟨gb', go', hA, hu⟩ := (HRD.out wr _ HT.out).op j y HY.out
    simp only [Option.some.injEq, Addr.mk.injEq, and_true] at hA
    obtain ⟨rfl, rfl⟩ := hA
    obtain ⟨xo, xb, xd, xf, xt, xk, xe, xr⟩ := y
    have v0 : wr.cell? ⟨gb, go + j * 8, none⟩ = some (.int .i64 xo) := hu 0 _ rfl
    have v1 : wr.cell? ⟨gb, go + j * 8 + 1, none⟩ = some (.int .i64 xb) := hu 1 _ rfl
    have v2 : wr.cell? ⟨gb, go + j * 8 + 2, none⟩ = some (.string xd) := hu 2 _ rfl
    have v3 : wr.cell? ⟨gb, go + j * 8 + 3, none⟩ = some (.int .i64 xf) := hu 3 _ rfl
    have v4 : wr.cell? ⟨gb, go + j * 8 + 4, none⟩ = some (.int .i64 xt) := hu 4 _ rfl
    have v5 : wr.cell? ⟨gb, go + j * 8 + 5, none⟩ = some (.bool xk) := hu 5 _ rfl
    have v6 : wr.cell? ⟨gb, go + j * 8 + 6, none⟩ = some (.int .i64 xe) := hu 6 _ rfl
    have v7 : wr.cell? ⟨gb, go + j * 8 + 7, none⟩ = some (.string xr) := hu 7 _ rfl
    clear hu
    by_cases hb : xb = b
    · have i4 : (xb == b) = true := by simp [hb]
      have HBD := Lib.hid (show (m + 1) * 80 ≤ 140737488355328 by omega)
      have HSN := Lib.hid (show blkOf (L.take (j + 1)) b = blkOf (L.take j) b ++ [⟨xo, xb, xd, xf, xt, xk, xe, xr⟩] by rw [blkOf_snoc HY.out, if_pos hb])
      clear hb
      go_wp2_with (at_builtin; refine app1O 22 tOp (.agg #[.int .i64 0, .int .i64 0, .string ByteArray.empty, .int .i64 0, .int .i64 0, .bool false, .int .i64 0, .string ByteArray.empty]) 8 80 [.int .i64 xo, .int .i64 xb, .string xd, .int .i64 xf, .int .i64 xt, .bool xk, .int .i64 xe, .string xr] HT.out.own HBD.out Try.underlying22 Try.infoO rfl (by decide) (by decide) rfl (eOp.one ⟨xo, xb, xd, xf, xt, xk, xe, xr⟩) (.tmp 55) (.tmp 60) rfl rfl rfl rfl ?_; intro v1 w5 ho1 hg1 hat1; obtain ⟨A1, c1, rfl, _⟩ := ho1.form; have HT := Lib.hid (HT.out.appG ho1 hg1 hat1); clear ho1 hg1 hat1)
      go_roundg (n0 - (j + 1))
      case measure => omega
      case rel =>
        refine ⟨j + 1, A1, m + 1, c1, rfl, by push_cast; rfl, by omega, rfl, by rw [HSN.out, List.length_append, HM.out]; rfl, by omega, ?_⟩
        rw [HSN.out, Enc.snoc]
        exact HT.out
    · have i4 : (xb == b) = false := by simpa using hb
      have HSN := Lib.hid (show blkOf (L.take (j + 1)) b = blkOf (L.take j) b by rw [blkOf_snoc HY.out, if_neg hb, List.append_nil])
      clear hb
      go_wp2_with fail
      go_roundg (n0 - (j + 1))
      case measure => omega
      case rel => exact ⟨j + 1, A, m, c, rfl, by push_cast; rfl, by omega, rfl, by rw [HSN.out]; exact HM.out, by omega, by rw [HSN.out]; exact HT.out⟩
  · have i1 : decide ((j : Int) < (n0 : Int)) = false := by simp; omega
    have i2 : ¬ (j : Int) < (n0 : Int) := by omega
    have hjn : j = n0 := by omega
    subst hjn
    have hall : L.take j = L := by rw [← HL.out, List.take_length]
    rw [hall] at HT HM
    clear hall
    obtain ⟨r, hr⟩ : ∃ r, rightB L b = r := ⟨_, rfl⟩
    have HR := Lib.hid hr
    have HEP := Lib.hid (errs_blk HE.out b)
    have HCP := Lib.hid (show chkB (blkOf L b) = r by rw [chk_blk HE.out]; exact hr)
    have HOP := Lib.hid (ok_perm HOK.out (M := blkOf L b) (fun o ho => (List.mem_filter.1 ho).1))
    obtain ⟨hl1, hl2⟩ := lowK_succ HX.out
    rw [HB.out, hr, ← HRG.out] at hl2
    rw [HB.out, ← HLO.out] at hl1
    have HL1 := Lib.hid (And.intro hl1 hl2)
    clear hr hl1 hl2
    have CHK := Lib.hid (show Sep w wr [tOwn tOp 8 (.slice A m c) m (eOp.fl (blkOf L b))] from HT.out)
    cases r
    case false =>
      by_cases hc : fo = false ∨ b < lo
      · have HST := Lib.hid (show lowStep (rightB L) (lo, fo) b = (b, true) by
          unfold lowStep
          rw [HR.out, if_pos]
          rcases hc with h | h <;> simp [h])
        rcases hc with rfl | hc
        · cases rg
          all_goals (
            go_wp2_with (go_at_call 15; refine (check_any (blkOf L b) A m c HM.out (by omega) HOP.out (fun W' h => h.own.rd) HT.out).mono ?_; rw [HEP.out, HCP.out]; rintro e w7 ⟨rfl, hS⟩; have HT := Lib.hid hS; clear hS)
            go_roundg (j - (k + 1))
            case measure => omega
            case rel => exact ⟨k + 1, _, _, _, rfl, rfl, rfl, by push_cast; rfl, by omega, rfl, by rw [HL1.out.2]; rfl, by rw [HL1.out.1, HST.out], HT.out.tail⟩)
        · have c1 : decide (b < lo) = true := decide_eq_true hc
          cases rg <;> cases fo
          all_goals (
            go_wp2_with (go_at_call 15; refine (check_any (blkOf L b) A m c HM.out (by omega) HOP.out (fun W' h => h.own.rd) HT.out).mono ?_; rw [HEP.out, HCP.out]; rintro e w7 ⟨rfl, hS⟩; have HT := Lib.hid hS; clear hS)
            go_roundg (j - (k + 1))
            case measure => omega
            case rel => exact ⟨k + 1, _, _, _, rfl, rfl, rfl, by push_cast; rfl, by omega, rfl, by rw [HL1.out.2]; rfl, by rw [HL1.out.1, HST.out], HT.out.tail⟩)
      · have hf : fo = true := by
          cases fo
          · exact absurd (.inl rfl) hc
          · rfl
        subst hf
        have c2 : ¬ b < lo := fun h => hc (.inr h)
        have c1 : decide (b < lo) = false := decide_eq_false c2
        have HST := Lib.hid (show lowStep (rightB L) (lo, true) b = (lo, true) by
          unfold lowStep
          rw [HR.out, if_neg]
          simp [c2])
        clear hc
        cases rg
        all_goals (
          go_wp2_with (go_at_call 15; refine (check_any (blkOf L b) A m c HM.out (by omega) HOP.out (fun W' h => h.own.rd) HT.out).mono ?_; rw [HEP.out, HCP.out]; rintro e w7 ⟨rfl, hS⟩; have HT := Lib.hid hS; clear hS)
          go_roundg (j - (k + 1))
          case measure => omega
          case rel => exact ⟨k + 1, _, _, _, rfl, rfl, rfl, by push_cast; rfl, by omega, rfl, by rw [HL1.out.2]; rfl, by rw [HL1.out.1, HST.out], HT.out.tail⟩)
    case true =>
      have HST := Lib.hid (show lowStep (rightB L) (lo, fo) b = (lo, fo) by
        unfold lowStep
        rw [HR.out, if_neg (by simp)])
      cases rg
      all_goals (
        go_wp2_with (go_at_call 15; refine (check_any (blkOf L b) A m c HM.out (by omega) HOP.out (fun W' h => h.own.rd) HT.out).mono ?_; rw [HEP.out, HCP.out]; rintro e w7 ⟨rfl, hS⟩; have HT := Lib.hid hS; clear hS)
        go_roundg (j - (k + 1))
        case measure => omega
        case rel => exact ⟨k + 1, _, _, _, rfl, rfl, rfl, by push_cast; rfl, by omega, rfl, by rw [HL1.out.2]; rfl, by rw [HL1.out.1, HST.out], HT.out.tail⟩)
end Go.Proofs.Ytkajkomljgdghaa
