/- The reference of ch. 18: Right, Wrong, Check; and small. Condition: at most 100 ops. -/
import Derived.Test.YtkajkomljgdghaaLinU
set_option linter.unusedVariables false
set_option linter.unusedSimpArgs false
namespace Go.Proofs.Ytkajkomljgdghaa
open Go.RowKit Go.Maps
theorem Pts.nil (L : List LOp) : Pts L [] [] := ⟨rfl, fun k i x h => by simp at h⟩
theorem Pts.snoc {L : List LOp} {ix : List Nat} {xs : List LOp} (h : Pts L ix xs) {k : Nat} {x : LOp} (hx : L[k]? = some x) : Pts L (ix ++ [k]) (xs ++ [x]) := by
  refine ⟨by rw [List.length_append, List.length_append, h.1]; rfl, fun j i y h1 h2 => ?_⟩
  rcases Nat.lt_or_ge j ix.length with hj | hj
  · rw [List.getElem?_append_left hj] at h1
    rw [List.getElem?_append_left (by rw [← h.1]; exact hj)] at h2
    exact h.2 j i y h1 h2
  · rw [List.getElem?_append_right hj] at h1
    rw [List.getElem?_append_right (by rw [← h.1]; exact hj), ← h.1] at h2
    rcases hz : j - ix.length with _ | z
    · rw [hz] at h1 h2
      simp at h1 h2
      subst h1; subst h2
      exact hx
    · rw [hz] at h1
      simp at h1
theorem cnt_step {L : List LOp} {k : Nat} {x : LOp} (hx : L[k]? = some x) (b : Int) : cnt (L.take (k + 1)) b = if x.at b = true then cnt (L.take k) b ++ [x] else cnt (L.take k) b := by
  unfold cnt
  rw [List.take_add_one, hx]
  show List.filter _ (L.take k ++ [x]) = _
  rw [List.filter_append, List.filter_cons]
  split
  · rfl
  · simp
theorem cnt_nv (l : List LOp) (b : Int) : ∀ x ∈ cnt l b, x.never = false := fun x hx => by
  have := (List.mem_filter.1 hx).2
  unfold LOp.at at this
  cases h : x.never with
  | false => rfl
  | true => rw [h] at this; cases this
set_option maxRecDepth 100000 in
set_option maxHeartbeats 8000000 in
theorem right_any (L : List LOp) (A : Option Addr) (n c : Nat) (bb : Int) (w : World) (hl : L.length = n) (hn : n ≤ 100) (hr : Rd w A (eOp.fl L)) :
    Calls Try.prog 23 #[.slice A n c, .int .i64 bb] w fun e w' => e = .returned (.bool (rightB L bb)) ∧ Below w.heap.size w w' := by
  have HL := Lib.hid hl
  have HR := Lib.hid hr
  have HT := Lib.hid ((Sep.nil w).newRow tIn 1 (g := w.heap.size) rfl)
  clear hl hr
  go_enter Try.func23, Try.ntmps23
  go_upto_region 2 with fail
  generalize w.alloc (.cells #[] tIn) = W2 at *
  go_wp2_with fail
  go_loopg [5, 6] n (fun gk s5 s6 wr => ∃ (k : Nat) (ix : List Nat) (P : Option Addr) (m cP : Nat), s5 = .slice P m cP ∧ s6 = .int .i64 (k : Int) ∧ k ≤ n ∧ gk = n - k ∧ ix.length = m ∧ m ≤ k ∧ Pts L ix (cnt (L.take k) bb) ∧ Sep w wr (tOwn tIn 1 (.slice P m cP) m (eI64.fl (ix.map iI)) :: []))
  case atStart => exact ⟨0, [], _, _, _, rfl, rfl, by omega, by omega, rfl, by omega, Pts.nil L, HT.out⟩
  case round =>
  clear HT
  obtain ⟨k, ix, P, m, cP, rfl, rfl, hk, hgk, hml, hmk, hp, hs⟩ := hrel
  have HT := Lib.hid hs
  have HP := Lib.hid hp
  have HML := Lib.hid hml
  clear hs hp hml
  by_cases hkn : k < n
  case neg =>
    have q1 : decide ((k : Int) < (n : Int)) = false := by simp; omega
    have q2 : ¬ (k : Int) < (n : Int) := by omega
    have hkn : k = n := by omega
    subst hkn
    have HC := Lib.hid (show cnt (L.take k) bb = cnt L bb by rw [← HL.out, List.take_length])
    go_wp2_with (go_at_call 28; refine (order_any L A k c HL.out hn m ix (cnt L bb) P cP none8 _ HML.out (by rw [← HC.out]; exact HP.out) (cnt_nv L bb) (by omega) (HR.out.below HT.out.bel) HT.out.own.rd).mono ?_; rintro e w9 ⟨rfl, hB⟩; have HT := Lib.hid (HT.out.step hB); clear hB)
    go_ret
    exact ⟨rfl, HT.out.bel⟩
  have q1 : decide ((k : Int) < (n : Int)) = true := by simp; omega
  have q2 : (k : Int) < (n : Int) := by omega
  have q3 : (0 : Int) ≤ (k : Int) := by omega
  have hwk : IntKind.i64.wrap ((k : Int) + 1) = (k : Int) + 1 := IntWalk.i64_in _ (by omega)
  have HX := Lib.hid (List.getElem?_eq_getElem (l := L) (i := k) (by rw [HL.out]; exact hkn))
  generalize L[k]'(by rw [HL.out]; exact hkn) = x at *
  have HCS := Lib.hid (cnt_step HX.out bb)
  obtain ⟨gb, go, rfl, hu⟩ := (HR.out.below HT.out.bel).op k x HX.out
  obtain ⟨xo, xb, xd, xf, xt, xk, xe, xr⟩ := x
  have v0 : wr.cell? ⟨gb, go + k * 8, none⟩ = some (.int .i64 xo) := hu 0 _ rfl
  have v1 : wr.cell? ⟨gb, go + k * 8 + 1, none⟩ = some (.int .i64 xb) := hu 1 _ rfl
  have v2 : wr.cell? ⟨gb, go + k * 8 + 2, none⟩ = some (.string xd) := hu 2 _ rfl
  have v3 : wr.cell? ⟨gb, go + k * 8 + 3, none⟩ = some (.int .i64 xf) := hu 3 _ rfl
  have v4 : wr.cell? ⟨gb, go + k * 8 + 4, none⟩ = some (.int .i64 xt) := hu 4 _ rfl
  have v5 : wr.cell? ⟨gb, go + k * 8 + 5, none⟩ = some (.bool xk) := hu 5 _ rfl
  have v6 : wr.cell? ⟨gb, go + k * 8 + 6, none⟩ = some (.int .i64 xe) := hu 6 _ rfl
  have v7 : wr.cell? ⟨gb, go + k * 8 + 7, none⟩ = some (.string xr) := hu 7 _ rfl
  clear hu
  have HU : Hid (∀ W' l, Sep w W' l → W'.cell? ⟨gb, go + k * 8 + 1, none⟩ = some (.int .i64 xb)) := Lib.hid (fun W' l h => by
    obtain ⟨b, o, e, hu⟩ := (HR.out.below h.bel).op k _ HX.out
    cases e
    exact hu 1 _ rfl)
  have HBD := Lib.hid (show (m + 1) * 8 ≤ 140737488355328 by omega)
  cases hnx : (LOp.mk xo xb xd xf xt xk xe xr).never with
  | true =>
    have HNX := Lib.hid hnx
    have HC2 := Lib.hid (show cnt (L.take (k + 1)) bb = cnt (L.take k) bb by rw [HCS.out, if_neg (by unfold LOp.at; rw [hnx]; simp)])
    clear hnx
    go_wp2_with (go_at_call 19; refine (counts_any ⟨xo, xb, xd, xf, xt, xk, xe, xr⟩ _).mono ?_; rw [HNX.out]; rintro e w5 ⟨rfl, hB⟩; have HT := Lib.hid (HT.out.step hB); clear hB)
    go_roundg (n - (k + 1))
    case measure => omega
    case rel => exact ⟨k + 1, ix, P, m, cP, rfl, by push_cast; rfl, by omega, rfl, HML.out, by omega, by rw [HC2.out]; exact HP.out, HT.out⟩
  | false =>
    have HNX := Lib.hid hnx
    clear hnx
    by_cases hb : xb = bb
    · have p1 : (xb == bb) = true := beq_iff_eq.2 hb
      have HC2 := Lib.hid (show cnt (L.take (k + 1)) bb = cnt (L.take k) bb ++ [⟨xo, xb, xd, xf, xt, xk, xe, xr⟩] by rw [HCS.out, if_pos (by unfold LOp.at; rw [HNX.out]; simp [hb])])
      clear hb
      go_wp2_with (first | (go_at_call 19; refine (counts_any ⟨xo, xb, xd, xf, xt, xk, xe, xr⟩ _).mono ?_; rw [HNX.out]; rintro e w5 ⟨rfl, hB⟩; have HT := Lib.hid (HT.out.step hB); have v9 := HU.out _ _ HT.out; clear hB) | (at_builtin; refine app1O 56 tIn (.int .i64 0) 1 8 [iV (k : Int)] (show Own _ tIn 1 (.slice P m cP) m (eI64.fl _) from HT.out.hd) HBD.out Try.underlying56 Try.infoI rfl (by decide) (by decide) rfl (one_i (k : Int)) (.tmp 29) (.tmp 31) rfl rfl rfl rfl ?_; intro v1 w11 ho1 hg1 hat1; obtain ⟨A1, c1, rfl, _⟩ := ho1.form; have HT := Lib.hid (HT.out.appG ho1 hg1 hat1); clear ho1 hg1 hat1))
      go_roundg (n - (k + 1))
      case measure => omega
      case rel =>
        refine ⟨k + 1, ix ++ [k], _, m + 1, _, rfl, by push_cast; rfl, by omega, rfl, by rw [List.length_append, HML.out]; rfl, by omega, by rw [HC2.out]; exact HP.out.snoc HX.out, ?_⟩
        rw [List.map_append]
        show Sep _ _ (tOwn _ _ _ _ (eI64.fl (_ ++ [iI k])) :: _)
        rw [Enc.snoc]; exact HT.out
    · have p1 : (xb == bb) = false := beq_eq_false_iff_ne.2 hb
      have HC2 := Lib.hid (show cnt (L.take (k + 1)) bb = cnt (L.take k) bb by rw [HCS.out, if_neg (by unfold LOp.at; rw [HNX.out]; simp [hb])])
      clear hb
      go_wp2_with (go_at_call 19; refine (counts_any ⟨xo, xb, xd, xf, xt, xk, xe, xr⟩ _).mono ?_; rw [HNX.out]; rintro e w5 ⟨rfl, hB⟩; have HT := Lib.hid (HT.out.step hB); have v9 := HU.out _ _ HT.out; clear hB)
      go_roundg (n - (k + 1))
      case measure => omega
      case rel => exact ⟨k + 1, ix, P, m, cP, rfl, by push_cast; rfl, by omega, rfl, HML.out, by omega, by rw [HC2.out]; exact HP.out, HT.out⟩
def wl (L : List LOp) (k : Nat) : Int × Bool := lows (rightB L) ((L.take k).map (·.blk))
theorem wl_succ {L : List LOp} {k : Nat} {x : LOp} (h : L[k]? = some x) : wl L (k + 1) = lowStep (rightB L) (wl L k) x.blk := by
  unfold wl lows
  rw [List.take_add_one, h, List.map_append, List.foldl_append]
  rfl
set_option maxRecDepth 100000 in
set_option maxHeartbeats 8000000 in
theorem wrongR_any (L : List LOp) (A : Option Addr) (n c : Nat) (w : World) (hl : L.length = n) (hn : n ≤ 100) (hr : Rd w A (eOp.fl L)) :
    Calls Try.prog 18 #[.slice A n c] w fun e w' => e = .returned (.tuple #[.int .i64 (wrong L).1, .bool (wrong L).2]) ∧ Below w.heap.size w w' := by
  have HL := Lib.hid hl
  have HR := Lib.hid hr
  clear hl hr
  obtain ⟨ee, hee⟩ : ∃ e, errs L = e := ⟨_, rfl⟩
  have HE := Lib.hid hee
  clear hee
  go_enter Try.func18, Try.ntmps18
  by_cases h0 : ee = 0
  case neg =>
    have g1 : (ee != 0) = true := bne_iff_ne.2 h0
    have HW := Lib.hid (show wrong L = (0, false) by unfold wrong; rw [HE.out, if_neg h0])
    clear h0
    go_wp2_with (go_at_call 13; refine (errs_any L A n c _ HL.out hn HR.out).mono ?_; rw [HE.out]; rintro e w5 ⟨rfl, hB⟩)
    go_returns
    exact ⟨by rw [HW.out]; rfl, hB⟩
  have g1 : (ee != 0) = false := by rw [h0]; rfl
  have HW := Lib.hid (show wrong L = wl L n by unfold wrong wl; rw [HE.out, if_pos h0, ← HL.out, List.take_length])
  clear h0
  go_wp2_with (go_at_call 13; refine (errs_any L A n c _ HL.out hn HR.out).mono ?_; rw [HE.out]; rintro e w5 ⟨rfl, hB⟩; have HT := Lib.hid ((Sep.nil w).step hB); clear hB)
  go_loopg [4, 5, 6] n (fun gk s4 s5 s6 wr => ∃ (k : Nat), s4 = .int .i64 (wl L k).1 ∧ s5 = .bool (wl L k).2 ∧ s6 = .int .i64 (k : Int) ∧ k ≤ n ∧ gk = n - k ∧ Below w.heap.size w wr)
  case atStart => exact ⟨0, rfl, rfl, rfl, by omega, by omega, HT.out.bel⟩
  case round =>
  clear HT
  obtain ⟨k, rfl, rfl, rfl, hk, hgk, hB⟩ := hrel
  have HT := Lib.hid ((Sep.nil w).step hB)
  clear hB
  by_cases hkn : k < n
  case neg =>
    have q1 : decide ((k : Int) < (n : Int)) = false := by simp; omega
    have q2 : ¬ (k : Int) < (n : Int) := by omega
    have hkn : k = n := by omega
    subst hkn
    go_wp2_with fail
    go_returns
    exact ⟨by rw [HW.out]; rfl, HT.out.bel⟩
  have q1 : decide ((k : Int) < (n : Int)) = true := by simp; omega
  have q2 : (k : Int) < (n : Int) := by omega
  have q3 : (0 : Int) ≤ (k : Int) := by omega
  have hwk : IntKind.i64.wrap ((k : Int) + 1) = (k : Int) + 1 := IntWalk.i64_in _ (by omega)
  have HX := Lib.hid (List.getElem?_eq_getElem (l := L) (i := k) (by rw [HL.out]; exact hkn))
  generalize L[k]'(by rw [HL.out]; exact hkn) = x at *
  have HWS := Lib.hid (wl_succ HX.out)
  obtain ⟨gb, go, rfl, hu⟩ := (HR.out.below HT.out.bel).op k x HX.out
  obtain ⟨xo, xb, xd, xf, xt, xk, xe, xr⟩ := x
  have v1 : wr.cell? ⟨gb, go + k * 8 + 1, none⟩ = some (.int .i64 xb) := hu 1 _ rfl
  clear hu
  generalize wl L k = p at *
  obtain ⟨pa, pb⟩ := p
  obtain ⟨rb, hrb⟩ : ∃ b, rightB L xb = b := ⟨_, rfl⟩
  have HRB := Lib.hid hrb
  clear hrb
  cases pb
  · cases rb
    · have HS2 := Lib.hid (show wl L (k + 1) = (xb, true) by rw [HWS.out]; unfold lowStep; simp [HRB.out])
      go_wp2_with (go_at_call 23; refine (right_any L _ n c xb _ HL.out hn (HR.out.below HT.out.bel)).mono ?_; rw [HRB.out]; rintro e w5 ⟨rfl, hB⟩; have HT := Lib.hid (HT.out.step hB); clear hB)
      go_roundg (n - (k + 1))
      case measure => omega
      case rel => exact ⟨k + 1, by rw [HS2.out], by rw [HS2.out], by push_cast; rfl, by omega, rfl, HT.out.bel⟩
    · have HS2 := Lib.hid (show wl L (k + 1) = (pa, false) by rw [HWS.out]; unfold lowStep; simp [HRB.out])
      go_wp2_with (go_at_call 23; refine (right_any L _ n c xb _ HL.out hn (HR.out.below HT.out.bel)).mono ?_; rw [HRB.out]; rintro e w5 ⟨rfl, hB⟩; have HT := Lib.hid (HT.out.step hB); clear hB)
      go_roundg (n - (k + 1))
      case measure => omega
      case rel => exact ⟨k + 1, by rw [HS2.out], by rw [HS2.out], by push_cast; rfl, by omega, rfl, HT.out.bel⟩
  · by_cases hlt : xb < pa
    · have p1 : decide (xb < pa) = true := decide_eq_true hlt
      cases rb
      · have HS2 := Lib.hid (show wl L (k + 1) = (xb, true) by rw [HWS.out]; unfold lowStep; simp [HRB.out, hlt])
        clear hlt
        go_wp2_with (go_at_call 23; refine (right_any L _ n c xb _ HL.out hn (HR.out.below HT.out.bel)).mono ?_; rw [HRB.out]; rintro e w5 ⟨rfl, hB⟩; have HT := Lib.hid (HT.out.step hB); clear hB)
        go_roundg (n - (k + 1))
        case measure => omega
        case rel => exact ⟨k + 1, by rw [HS2.out], by rw [HS2.out], by push_cast; rfl, by omega, rfl, HT.out.bel⟩
      · have HS2 := Lib.hid (show wl L (k + 1) = (pa, true) by rw [HWS.out]; unfold lowStep; simp [HRB.out])
        clear hlt
        go_wp2_with (go_at_call 23; refine (right_any L _ n c xb _ HL.out hn (HR.out.below HT.out.bel)).mono ?_; rw [HRB.out]; rintro e w5 ⟨rfl, hB⟩; have HT := Lib.hid (HT.out.step hB); clear hB)
        go_roundg (n - (k + 1))
        case measure => omega
        case rel => exact ⟨k + 1, by rw [HS2.out], by rw [HS2.out], by push_cast; rfl, by omega, rfl, HT.out.bel⟩
    · have p1 : decide (xb < pa) = false := decide_eq_false hlt
      have HS2 := Lib.hid (show wl L (k + 1) = (pa, true) by rw [HWS.out]; unfold lowStep; simp [hlt])
      clear hlt
      go_wp2_with fail
      go_roundg (n - (k + 1))
      case measure => omega
      case rel => exact ⟨k + 1, by rw [HS2.out], by rw [HS2.out], by push_cast; rfl, by omega, rfl, HT.out.bel⟩
set_option maxRecDepth 100000 in
set_option maxHeartbeats 8000000 in
theorem checkR_any (L : List LOp) (A : Option Addr) (n c : Nat) (w : World) (hl : L.length = n) (hn : n ≤ 100) (hr : Rd w A (eOp.fl L)) :
    Calls Try.prog 17 #[.slice A n c] w fun e w' => e = .returned (.tuple #[.bool (chkB L), .int .i64 (errs L)]) ∧ Below w.heap.size w w' := by
  have HE := Lib.hid (fun (w : World) (h : Rd w A (eOp.fl L)) => errs_any L A n c w hl hn h)
  have HW := Lib.hid (fun (w : World) (h : Rd w A (eOp.fl L)) => wrongR_any L A n c w hl hn h)
  have HR := Lib.hid hr
  have HC := Lib.hid (show chkB L = (decide (errs L = 0) && !(wrong L).2) from rfl)
  clear hl hr
  rw [HC.out]
  clear HC
  generalize errs L = ee at *
  generalize wrong L = p at *
  obtain ⟨pa, pb⟩ := p
  go_enter Try.func17, Try.ntmps17
  by_cases h0 : ee = 0
  · subst h0
    go_wp2_with (first | (go_at_call 13; refine (HE.out _ HR.out).mono ?_; rintro e w5 ⟨rfl, hB⟩; have HT := Lib.hid ((Sep.nil w).step hB); clear hB) | (go_at_call 18; refine (HW.out _ (HR.out.below HT.out.bel)).mono ?_; rintro e w6 ⟨rfl, hB⟩; have HT := Lib.hid (HT.out.step hB); clear hB))
    go_returns
    exact ⟨by simp, HT.out.bel⟩
  · have g1 : (ee != 0) = true := bne_iff_ne.2 h0
    have HD := Lib.hid (decide_eq_false h0)
    clear h0
    go_wp2_with (go_at_call 13; refine (HE.out _ HR.out).mono ?_; rintro e w5 ⟨rfl, hB⟩; have HT := Lib.hid ((Sep.nil w).step hB); clear hB)
    go_returns
    exact ⟨by rw [HD.out]; rfl, HT.out.bel⟩
end Go.Proofs.Ytkajkomljgdghaa
