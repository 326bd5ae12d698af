/- The walk of the law LinLost: it returns true. No condition but the row's own. -/
import Derived.Test.YtkajkomljgdghaaLinL1
set_option linter.unusedVariables false
set_option linter.unusedSimpArgs false
namespace Go.Proofs.Ytkajkomljgdghaa
open Go.RowKit Go.Maps
theorem Rd.dropO {w : World} {b o : Nat} {cs : List Value} (h : Rd w (some ⟨b, o, none⟩) cs) (p : Nat) : Rd w (some ⟨b, o + p, none⟩) (cs.drop p) := by
  intro hne
  obtain ⟨b', o', e, hc⟩ := h (by intro e; rw [e] at hne; exact hne (by simp))
  simp only [Option.some.injEq, Addr.mk.injEq, and_true] at e
  obtain ⟨rfl, rfl⟩ := e
  refine ⟨b, o + p, rfl, fun j v hv => ?_⟩
  rw [List.getElem?_drop] at hv
  rw [Nat.add_assoc]
  exact hc (p + j) v hv
theorem Rd.takeO {w : World} {A : Option Addr} {cs : List Value} (h : Rd w A cs) (p : Nat) : Rd w A (cs.take p) := by
  intro hne
  obtain ⟨b', o', e, hc⟩ := h (by intro e; rw [e] at hne; exact hne (by simp))
  refine ⟨b', o', e, fun j v hv => ?_⟩
  rw [List.getElem?_take] at hv
  split at hv
  · exact hc j v hv
  · cases hv
theorem Rd.opAt {w : World} {b o : Nat} {l : List LOp} (h : Rd w (some ⟨b, o, none⟩) (eOp.fl l)) {k : Nat} {x : LOp} (hx : l[k]? = some x) : w.rangeAt b (o + k * 8) x.cells := by
  obtain ⟨b', o', e, h1⟩ := h.op k x hx
  simp only [Option.some.injEq, Addr.mk.injEq, and_true] at e
  obtain ⟨rfl, rfl⟩ := e
  exact h1
theorem split_at {L : List LOp} {i : Nat} {x : LOp} (hx : L[i]? = some x) : L.Perm (x :: (L.take i ++ L.drop (i + 1))) := by
  obtain ⟨hi, rfl⟩ := List.getElem?_eq_some_iff.1 hx
  have e : L = L.take i ++ L[i] :: L.drop (i + 1) := by
    rw [List.getElem_cons_drop, List.take_append_drop]
  have h := List.perm_middle (a := L[i]) (l₁ := L.take i) (l₂ := L.drop (i + 1))
  rw [← e] at h
  exact h
theorem lostRead {L : List LOp} {i : Nat} {x : LOp} (hx : L[i]? = some x) (h1 : x.op = 1) (h : chkB L = true) : chkB (L.take i ++ L.drop (i + 1)) = true := by
  rw [(turned (split_at hx)).1] at h
  exact lost_read h1 h
theorem lostWrite {L : List LOp} {i : Nat} {x : LOp} (hx : L[i]? = some x) (h1 : x.op ≠ 1) (h2 : x.back = true → x.e = 0) (h : chkB L = true) : chkB (L.take i ++ L.drop (i + 1) ++ [x.lost]) = true := by
  rw [(turned (split_at hx)).1] at h
  have h3 := lost_write h1 h2 h
  rwa [← (turned (List.perm_append_singleton x.lost (L.take i ++ L.drop (i + 1)))).1] at h3
set_option maxRecDepth 100000 in
set_option maxHeartbeats 4000000 in
theorem w_LinLost (a0 : Option Addr) (n0 c0 : Nat) (a1 : Int) (w : World) (b0 : Sh.Is w (.slice 80 (.pair (.pair (.int .i64) (.pair (.int .i64) (.pair .str .unit))) (.pair (.int .i64) (.pair (.int .i64) (.pair .bool (.pair (.pair (.int .i64) (.pair .str .unit)) .unit)))))) [.slice a0 n0 c0]) (b1 : 0 ≤ a1 ∧ a1 ≤ 255) :
    Calls Try.prog 7 #[.slice a0 n0 c0, .int .u8 a1] w fun e w' => e = .returned (.bool true) ∧ Below w.heap.size w w' := by
  obtain ⟨L, hl, _, hnc, hz, hr, hok⟩ := Enc.of_slice (E := eOp) (p := LOp.ok) b0 (fun cs hc => is_lop hc)
  have HL := Lib.hid hl; have HOK := Lib.hid hok; have HNC := Lib.hid hnc; have HZ := Lib.hid (show a0 = none → n0 = 0 ∧ c0 = 0 from fun h => ⟨by have := hz h; omega, hz h⟩)
  have HRD : Hid (∀ W' (l : List Th), Sep w W' l → Rd W' a0 (eOp.fl L)) := Lib.hid (fun W' l h => hr.below h.bel)
  clear b0 hl hok hr hz
  go_enter Try.func7, Try.ntmps7
  go_wp2_with fail
  refine (awake_any _).mono ?_
  rintro e w1 ⟨rfl, hB1⟩
  have HS := Lib.hid ((Sep.nil w).step hB1)
  clear hB1
  by_cases h0 : n0 = 0
  · subst h0
    go_wp2_with fail
    go_ret
    exact ⟨rfl, HS.out.bel⟩
  have q3 : ((n0 : Int) == 0) = false := by simp; omega
  have q4 : ¬ (n0 : Int) = 0 := by omega
  by_cases hn60 : 60 < n0
  · have q1 : decide ((60 : Int) < (n0 : Int)) = true := by simp; omega
    have q2 : (60 : Int) < (n0 : Int) := by omega
    go_wp2_with fail
    go_ret
    exact ⟨rfl, HS.out.bel⟩
  have q1 : decide ((60 : Int) < (n0 : Int)) = false := by simp; omega
  have q2 : ¬ (60 : Int) < (n0 : Int) := by omega
  cases hc : chkB L
  · have HC := Lib.hid hc
    clear hc
    go_wp2_with (go_at_call 15; refine (check_any L a0 n0 c0 HL.out (by omega) HOK.out (fun W' h => HRD.out W' _ h) HS.out).mono ?_; rw [HC.out]; rintro e w2 ⟨rfl, hS⟩; have HT := Lib.hid hS; clear hS)
    go_ret
    exact ⟨rfl, HT.out.bel⟩
  have HC := Lib.hid hc
  have HE := Lib.hid (chkB_iff.1 hc).1
  clear hc
  have hwa : IntKind.i64.wrap a1 = a1 := IntWalk.i64_in _ (by omega)
  obtain ⟨i, hi⟩ : ∃ i : Nat, a1.tmod (n0 : Int) = (i : Int) ∧ i < n0 := by
    refine ⟨(a1 % (n0 : Int)).toNat, ?_, ?_⟩
    · rw [Int.tmod_eq_emod_of_nonneg b1.1]
      have := Int.emod_nonneg a1 (show (n0 : Int) ≠ 0 by omega)
      omega
    · have := Int.emod_nonneg a1 (show (n0 : Int) ≠ 0 by omega)
      have := Int.emod_lt_of_pos a1 (show (0 : Int) < n0 by omega)
      omega
  obtain ⟨hmod, hin⟩ := hi
  have q5 : ¬ n0 = 0 := h0
  have j2 : (i : Int) < (n0 : Int) := by omega
  have j3 : (0 : Int) ≤ (i : Int) := by omega
  have hwk : IntKind.i64.wrap ((i : Int) + 1) = (i : Int) + 1 := IntWalk.i64_in _ (by omega)
  have HX := Lib.hid (List.getElem?_eq_getElem (l := L) (i := i) (by rw [HL.out]; exact hin))
  generalize L[i]'(by rw [HL.out]; exact hin) = x at *
  go_upto_region 9 with (go_at_call 15; refine (check_any L a0 n0 c0 HL.out (by omega) HOK.out (fun W' h => HRD.out W' _ h) HS.out).mono ?_; rw [HC.out, HE.out]; rintro e w2 ⟨rfl, hS⟩; have HT := Lib.hid hS; clear hS)
  obtain ⟨gb, go, rfl, hu⟩ := (HRD.out w2 _ HT.out).op i x HX.out
  have HA2 : ∃ A2 : Addr, (if c0 = i + 1 then some ⟨gb, go, none⟩ else some ⟨gb, go + (i + 1) * 8, none⟩) = some A2 := by split <;> exact ⟨_, rfl⟩
  obtain ⟨A2, hA2⟩ := HA2
  have HR2 : Hid (∀ (t : Th) W', Sep w W' [t] → Rd W' (some A2) (eOp.fl (L.drop (i + 1)))) := Lib.hid (fun t W' h => by
    rw [← hA2]
    split
    · rename_i e
      have := HNC.out
      rw [List.drop_of_length_le (by rw [HL.out]; omega)]
      exact Rd.nil _ _
    · rw [Enc.drop]
      exact (HRD.out W' _ h).dropO ((i + 1) * 8))
  have HR2 : Hid (∀ {t : Th} W', Sep w W' [t] → Rd W' (some A2) (eOp.fl (L.drop (i + 1)))) := Lib.hid (fun W' h => HR2.out _ W' h)
  have HB1 := Lib.hid (show (0 + i) * 80 ≤ 140737488355328 by omega)
  have HB2 := Lib.hid (show (i + (n0 - (i + 1))) * 80 ≤ 140737488355328 by omega)
  have hnc := HNC.out
  have i2 : (i : Int) + 1 ≤ (n0 : Int) := by omega
  have i3 : (0 : Int) ≤ (i : Int) + 1 := by omega
  have i4 : (i : Int) ≤ (c0 : Int) := by omega
  have i5 : i + 1 ≤ n0 := by omega
  have i6 : (i : Int) + 1 ≤ (c0 : Int) := by omega
  have i7 : i ≤ c0 := by omega
  obtain ⟨xo, xb, xd, xf, xt, xk, xe, xr⟩ := x
  have hu := (show w2.rangeAt gb (go + i * 8) (LOp.cells ⟨xo, xb, xd, xf, xt, xk, xe, xr⟩) from hu)
  have HT := Lib.hid HT.out.drew
  refine wp_region_L (fun w' => True) 11 (by kernel_rfl) trivial (fun hHeld => ?_)
  refine reg_take (i := 1) (d := 39) (v := ?_) [] rfl rfl (by kernel_rfl) (by kernel_rfl) (fun _ _ _ h => h) (Or.inl ⟨by rfl, ?_⟩) (by assumption) ?_
  rotate_left
  · (intro w hSw; (try dsimp only at hSw); go_simp; first | done | with_reducible rfl)
  try simp only [List.setIfInBounds_toArray, List.set_cons_zero, List.set_cons_succ]
  refine reg_take (i := 2) (d := 40) (v := ?_) [] rfl rfl (by kernel_rfl) (by kernel_rfl) (fun _ _ _ h => h) (Or.inl ⟨by rfl, ?_⟩) (by assumption) ?_
  rotate_left
  · (intro w hSw; (try dsimp only at hSw); go_simp; first | done | with_reducible rfl)
  try simp only [List.setIfInBounds_toArray, List.set_cons_zero, List.set_cons_succ]
  refine reg_take (i := 3) (d := 41) (v := ?_) [] rfl rfl (by kernel_rfl) (by kernel_rfl) (fun _ _ _ h => h) (Or.inl ⟨by rfl, ?_⟩) (by assumption) ?_
  rotate_left
  · (intro w hSw; (try dsimp only at hSw); go_simp; first | done | with_reducible rfl)
  try simp only [List.setIfInBounds_toArray, List.set_cons_zero, List.set_cons_succ]
  refine reg_take (i := 5) (d := 43) (v := ?_) [] rfl rfl (by kernel_rfl) (by kernel_rfl) (fun _ _ _ h => h) (Or.inl ⟨by rfl, ?_⟩) (by assumption) ?_
  rotate_left
  · (intro w hSw; (try dsimp only at hSw); go_simp; first | done | with_reducible rfl)
  try simp only [List.setIfInBounds_toArray, List.set_cons_zero, List.set_cons_succ]
  refine reg_take (i := 6) (d := 44) (v := ?_) [] rfl rfl (by kernel_rfl) (by kernel_rfl) (fun _ _ _ h => h) (Or.inl ⟨by rfl, ?_⟩) (by assumption) ?_
  rotate_left
  · (intro w hSw; (try dsimp only at hSw); go_simp; first | done | with_reducible rfl)
  try simp only [List.setIfInBounds_toArray, List.set_cons_zero, List.set_cons_succ]
  refine reg_take (i := 7) (d := 45) (v := ?_) [] rfl rfl (by kernel_rfl) (by kernel_rfl) (fun _ _ _ h => h) (Or.inl ⟨by rfl, ?_⟩) (by assumption) ?_
  rotate_left
  · (intro w hSw; (try dsimp only at hSw); go_simp; first | done | with_reducible rfl)
  try simp only [List.setIfInBounds_toArray, List.set_cons_zero, List.set_cons_succ]
  refine reg_take (i := 8) (d := 46) (v := ?_) [] rfl rfl (by kernel_rfl) (by kernel_rfl) (fun _ _ _ h => h) (Or.inl ⟨by rfl, ?_⟩) (by assumption) ?_
  rotate_left
  · (intro w hSw; (try dsimp only at hSw); go_simp; first | done | with_reducible rfl)
  try simp only [List.setIfInBounds_toArray, List.set_cons_zero, List.set_cons_succ]
  refine wpAnyL_ready (rs := [0]) (by kernel_rfl) rfl ?_
  refine (AllL.cons rfl (fun K hK => ?_) AllL.nil)
  go_simp
  have HT := Lib.hid (HT.out.newRow tOp 8 (g := w2.heap.size) (by simp))
  refine hK.out _ _ trivial (fun hHeld => ?_)
  try simp only [List.setIfInBounds_toArray, List.set_cons_zero, List.set_cons_succ]
  refine wpAnyL_ready (rs := [4]) (by kernel_rfl) rfl ?_
  refine (AllL.cons rfl (fun K hK => ?_) AllL.nil)
  refine stepA 22 tOp (.agg #[.int .i64 0, .int .i64 0, .string ByteArray.empty, .int .i64 0, .int .i64 0, .bool false, .int .i64 0, .string ByteArray.empty]) 8 80 (eOp.fl (L.take i)) i HT.out.own HB1.out Try.underlying22 Try.infoO rfl (by decide) (by decide) (by rw [Enc.length, List.length_take, HL.out, Nat.min_eq_left (by omega)]; rfl) (Enc.ones _) (some ⟨gb, go, none⟩) c0 (by rw [Enc.take]; exact (HRD.out _ _ HT.out).takeO (i * 8)) (fun e => nomatch e) (.tmp 38) (.tmp 41) rfl rfl rfl rfl ?_
  intro v1 w5 ho1 hg1 hat1
  rw [Nat.zero_add, List.nil_append] at ho1
  obtain ⟨A1, c1, rfl, _⟩ := ho1.form
  have HT := Lib.hid (HT.out.app ho1 hg1 hat1)
  clear ho1 hg1 hat1
  refine hK.out _ _ trivial (fun hHeld => ?_)
  try simp only [List.setIfInBounds_toArray, List.set_cons_zero, List.set_cons_succ]
  refine wpAnyL_ready (rs := [9]) (by kernel_rfl) rfl ?_
  refine (AllL.cons rfl (fun K hK => ?_) AllL.nil)
  refine stepA 22 tOp (.agg #[.int .i64 0, .int .i64 0, .string ByteArray.empty, .int .i64 0, .int .i64 0, .bool false, .int .i64 0, .string ByteArray.empty]) 8 80 (eOp.fl (L.drop (i + 1))) (n0 - (i + 1)) HT.out.own HB2.out Try.underlying22 Try.infoO rfl (by decide) (by decide) (by rw [Enc.length, List.length_drop, HL.out]; rfl) (Enc.ones _) (some A2) _ (HR2.out _ HT.out) (fun e => nomatch e) (.tmp 42) (.tmp 46) rfl rfl rfl rfl ?_
  intro v2 w6 ho2 hg2 hat2
  rw [← Enc.app] at ho2
  obtain ⟨A9, c9, rfl, _⟩ := ho2.form
  have HT := Lib.hid (HT.out.app ho2 hg2 hat2)
  clear ho2 hg2 hat2
  refine hK.out _ _ trivial (fun hHeld => ?_)
  try simp only [List.setIfInBounds_toArray, List.set_cons_zero, List.set_cons_succ]
  refine reg_take (i := 10) (d := 8) (v := ?_) [] rfl rfl (by kernel_rfl) (by kernel_rfl) (fun _ _ _ h => h) (Or.inl ⟨by rfl, ?_⟩) (by assumption) ?_
  rotate_left
  · (intro w hSw; (try dsimp only at hSw); go_simp; first | done | with_reducible rfl)
  try simp only [List.setIfInBounds_toArray, List.set_cons_zero, List.set_cons_succ]
  refine wpAnyL_done (by kernel_rfl) ?_ _
  generalize hnr : i + (n0 - (i + 1)) = nr at *
  have HLM := Lib.hid (show (L.take i ++ L.drop (i + 1)).length = nr by rw [List.length_append, List.length_take, List.length_drop, HL.out, Nat.min_eq_left (by omega)]; exact hnr)
  have hnr2 : nr ≤ 60 := by omega
  clear hnr
  have HOM := Lib.hid (ok_perm HOK.out (M := L.take i ++ L.drop (i + 1)) (fun o ho => (List.mem_append.1 ho).elim List.mem_of_mem_take List.mem_of_mem_drop))
  have hu6 := (show w6.rangeAt gb (go + i * 8) (LOp.cells ⟨xo, xb, xd, xf, xt, xk, xe, xr⟩) from (HRD.out w6 _ HT.out).opAt HX.out)
  have u0 : w6.cell? ⟨gb, go + i * 8, none⟩ = some (.int .i64 xo) := hu6 0 _ rfl
  have u5 : w6.cell? ⟨gb, go + i * 8 + 5, none⟩ = some (.bool xk) := hu6 5 _ rfl
  have u6 : w6.cell? ⟨gb, go + i * 8 + 6, none⟩ = some (.int .i64 xe) := hu6 6 _ rfl
  clear hu
  by_cases h1 : xo = 1
  · have e1 : (xo != 1) = false := by simp [h1]
    have HCM := Lib.hid (show chkB (L.take i ++ L.drop (i + 1)) = true from lostRead HX.out h1 HC.out)
    have HEM := Lib.hid (chkB_iff.1 HCM.out).1
    clear h1
    go_wp2_with (go_at_call 15; refine (check_any (L.take i ++ L.drop (i + 1)) A9 nr c9 HLM.out (by omega) HOM.out (fun W' h => h.own.rd) HT.out).mono ?_; rw [HCM.out, HEM.out]; rintro e w9 ⟨rfl, hS⟩; have HT := Lib.hid hS; clear hS)
    go_ret
    exact ⟨rfl, HT.out.bel⟩
  have e1 : (xo != 1) = true := bne_iff_ne.2 h1
  cases xk
  · skip
    skip
    have HCM2 := Lib.hid (show chkB (L.take i ++ L.drop (i + 1) ++ [(LOp.mk xo xb xd xf xt false xe xr)]) = true from lostWrite HX.out h1 (fun h => by first | rfl | cases h) HC.out)
    have HEM2 := Lib.hid (chkB_iff.1 HCM2.out).1
    have HLM2 := Lib.hid (show (L.take i ++ L.drop (i + 1) ++ [(LOp.mk xo xb xd xf xt false xe xr)]).length = nr + 1 by rw [List.length_append, HLM.out]; rfl)
    have HOM2 := Lib.hid (show ∀ o ∈ L.take i ++ L.drop (i + 1) ++ [(LOp.mk xo xb xd xf xt false xe xr)], o.ok from fun o ho => by
      rcases List.mem_append.1 ho with ho | ho
      · exact HOM.out o ho
      · obtain rfl : o = (LOp.mk xo xb xd xf xt false xe xr) := by simpa using ho
        have h := HOK.out _ (List.mem_of_getElem? HX.out)
        exact ⟨h.op, h.blk, h.data, h.fr, h.tt, h.e, h.rd⟩)
    have HB3 := Lib.hid (show (nr + 1) * 80 ≤ 140737488355328 by omega)
    obtain ⟨g9, hg9⟩ : ∃ g, w6.heap.size = g := ⟨_, rfl⟩
    have HT := Lib.hid (HT.out.newBlk #[.int .i64 0, .int .i64 0, .string { data := #[] }, .int .i64 0, .int .i64 0, .bool false, .int .i64 0, .string { data := #[] }] tOp hg9)
    have HG9 := Lib.hid hg9
    clear hg9
    go_upto_region 13 with fail
    refine wp_region_lit (l := [_, _, _, _, _, _]) ?_
    iterate 3 (refine wpList_plain rfl fun _ hK => ?_; go_simp; refine hK _ _ ?_)
    refine loadMid (cs := #[.int .i64 xo, .int .i64 xb, .string xd, .int .i64 xf, .int .i64 xt, .bool false, .int .i64 xe, .string xr]) _ rfl (.tmp 71) rfl rfl hu6 Try.underlying44 rfl infoOp ?_
    refine wpList_plain rfl fun _ hK => ?_
    go_simp
    rw [HG9.out]
    refine hK _ _ ?_
    refine storeR #[.int .i64 xo, .int .i64 xb, .string xd, .int .i64 xf, .int .i64 xt, .bool false, .int .i64 xe, .string xr] (show Blk _ g9 #[.int .i64 0, .int .i64 0, .string { data := #[] }, .int .i64 0, .int .i64 0, .bool false, .int .i64 0, .string { data := #[] }] tOp from HT.out.hd) rfl infoOp (op1 ⟨xo, xb, xd, xf, xt, false, xe, xr⟩) rfl (.tmp 9) (.tmp 72) rfl rfl rfl ?_
    intro W7 hb8 hu8
    have HT := Lib.hid (HT.out.put hb8 hu8)
    clear hb8 hu8 hu6 HG9
    have d5 : W7.cell? ⟨g9, 5, none⟩ = some (.bool false) := (show Blk W7 g9 #[.int .i64 xo, .int .i64 xb, .string xd, .int .i64 xf, .int .i64 xt, .bool false, .int .i64 xe, .string xr] tOp from HT.out.hd).cell 5
    have t5 := (show Blk W7 g9 #[.int .i64 xo, .int .i64 xb, .string xd, .int .i64 xf, .int .i64 xt, .bool false, .int .i64 xe, .string xr] tOp from HT.out.hd).frozen 5
    have HT := Lib.hid (show Sep w (W7.setCell ⟨g9, 5, none⟩ (.bool false)) [tBlk g9 #[.int .i64 xo, .int .i64 xb, .string xd, .int .i64 xf, .int .i64 xt, .bool false, .int .i64 xe, .string xr] tOp, tOwn tOp 8 (.slice A9 nr c9) nr (eOp.fl (L.take i ++ L.drop (i + 1)))] from HT.out.blkSet 5 (.bool false))
    go_upto_region 15 with fail
    clear d5 t5
    generalize W7.setCell ⟨g9, 5, none⟩ (.bool false) = W8 at *
    have HG := Lib.hid (show Blk W8 g9 #[.int .i64 xo, .int .i64 xb, .string xd, .int .i64 xf, .int .i64 xt, .bool false, .int .i64 xe, .string xr] tOp from HT.out.hd)
    have y0 : W8.cell? ⟨g9, 0, none⟩ = some (.int .i64 xo) := HG.out.cell 0
    have y1 : W8.cell? ⟨g9, 1, none⟩ = some (.int .i64 xb) := HG.out.cell 1
    have y2 : W8.cell? ⟨g9, 2, none⟩ = some (.string xd) := HG.out.cell 2
    have y3 : W8.cell? ⟨g9, 3, none⟩ = some (.int .i64 xf) := HG.out.cell 3
    have y4 : W8.cell? ⟨g9, 4, none⟩ = some (.int .i64 xt) := HG.out.cell 4
    have y5 : W8.cell? ⟨g9, 5, none⟩ = some (.bool false) := HG.out.cell 5
    have y6 : W8.cell? ⟨g9, 6, none⟩ = some (.int .i64 xe) := HG.out.cell 6
    have y7 : W8.cell? ⟨g9, 7, none⟩ = some (.string xr) := HG.out.cell 7
    have HT := Lib.hid HT.out.sw
    go_upto_region 16 with (at_builtin; refine app1O 22 tOp (.agg #[.int .i64 0, .int .i64 0, .string ByteArray.empty, .int .i64 0, .int .i64 0, .bool false, .int .i64 0, .string ByteArray.empty]) 8 80 [.int .i64 xo, .int .i64 xb, .string xd, .int .i64 xf, .int .i64 xt, .bool false, .int .i64 xe, .string xr] HT.out.own HB3.out Try.underlying22 Try.infoO rfl (by decide) (by decide) rfl (eOp.one (LOp.mk xo xb xd xf xt false xe xr)) (.tmp 74) (.tmp 76) rfl rfl rfl rfl ?_; intro v3 w8 ho3 hg3 hat3; obtain ⟨A8, c8, rfl, _⟩ := ho3.form; have HT := Lib.hid ((HT.out.appG ho3 hg3 hat3).d2); clear ho3 hg3 hat3)
    have HT2 := Lib.hid (show Sep w w8 [tOwn tOp 8 (.slice A8 (nr + 1) c8) (nr + 1) (eOp.fl (L.take i ++ L.drop (i + 1) ++ [(LOp.mk xo xb xd xf xt false xe xr)]))] by rw [Enc.snoc]; exact HT.out)
    go_wp2_with (go_at_call 15; refine (check_any (L.take i ++ L.drop (i + 1) ++ [(LOp.mk xo xb xd xf xt false xe xr)]) A8 (nr + 1) c8 HLM2.out (by omega) HOM2.out (fun W' h => h.own.rd) HT2.out).mono ?_; rw [HCM2.out, HEM2.out]; rintro e w9 ⟨rfl, hS⟩; have HT3 := Lib.hid hS; clear hS)
    go_ret
    exact ⟨rfl, HT3.out.bel⟩
  by_cases h2 : xe = 0
  · subst h2
    skip
    have HCM2 := Lib.hid (show chkB (L.take i ++ L.drop (i + 1) ++ [(LOp.mk xo xb xd xf xt false 0 xr)]) = true from lostWrite HX.out h1 (fun h => by first | rfl | cases h) HC.out)
    have HEM2 := Lib.hid (chkB_iff.1 HCM2.out).1
    have HLM2 := Lib.hid (show (L.take i ++ L.drop (i + 1) ++ [(LOp.mk xo xb xd xf xt false 0 xr)]).length = nr + 1 by rw [List.length_append, HLM.out]; rfl)
    have HOM2 := Lib.hid (show ∀ o ∈ L.take i ++ L.drop (i + 1) ++ [(LOp.mk xo xb xd xf xt false 0 xr)], o.ok from fun o ho => by
      rcases List.mem_append.1 ho with ho | ho
      · exact HOM.out o ho
      · obtain rfl : o = (LOp.mk xo xb xd xf xt false 0 xr) := by simpa using ho
        have h := HOK.out _ (List.mem_of_getElem? HX.out)
        exact ⟨h.op, h.blk, h.data, h.fr, h.tt, h.e, h.rd⟩)
    have HB3 := Lib.hid (show (nr + 1) * 80 ≤ 140737488355328 by omega)
    obtain ⟨g9, hg9⟩ : ∃ g, w6.heap.size = g := ⟨_, rfl⟩
    have HT := Lib.hid (HT.out.newBlk #[.int .i64 0, .int .i64 0, .string { data := #[] }, .int .i64 0, .int .i64 0, .bool false, .int .i64 0, .string { data := #[] }] tOp hg9)
    have HG9 := Lib.hid hg9
    clear hg9
    go_upto_region 13 with fail
    refine wp_region_lit (l := [_, _, _, _, _, _]) ?_
    iterate 3 (refine wpList_plain rfl fun _ hK => ?_; go_simp; refine hK _ _ ?_)
    refine loadMid (cs := #[.int .i64 xo, .int .i64 xb, .string xd, .int .i64 xf, .int .i64 xt, .bool true, .int .i64 0, .string xr]) _ rfl (.tmp 71) rfl rfl hu6 Try.underlying44 rfl infoOp ?_
    refine wpList_plain rfl fun _ hK => ?_
    go_simp
    rw [HG9.out]
    refine hK _ _ ?_
    refine storeR #[.int .i64 xo, .int .i64 xb, .string xd, .int .i64 xf, .int .i64 xt, .bool true, .int .i64 0, .string xr] (show Blk _ g9 #[.int .i64 0, .int .i64 0, .string { data := #[] }, .int .i64 0, .int .i64 0, .bool false, .int .i64 0, .string { data := #[] }] tOp from HT.out.hd) rfl infoOp (op1 ⟨xo, xb, xd, xf, xt, true, 0, xr⟩) rfl (.tmp 9) (.tmp 72) rfl rfl rfl ?_
    intro W7 hb8 hu8
    have HT := Lib.hid (HT.out.put hb8 hu8)
    clear hb8 hu8 hu6 HG9
    have d5 : W7.cell? ⟨g9, 5, none⟩ = some (.bool true) := (show Blk W7 g9 #[.int .i64 xo, .int .i64 xb, .string xd, .int .i64 xf, .int .i64 xt, .bool true, .int .i64 0, .string xr] tOp from HT.out.hd).cell 5
    have t5 := (show Blk W7 g9 #[.int .i64 xo, .int .i64 xb, .string xd, .int .i64 xf, .int .i64 xt, .bool true, .int .i64 0, .string xr] tOp from HT.out.hd).frozen 5
    have HT := Lib.hid (show Sep w (W7.setCell ⟨g9, 5, none⟩ (.bool false)) [tBlk g9 #[.int .i64 xo, .int .i64 xb, .string xd, .int .i64 xf, .int .i64 xt, .bool false, .int .i64 0, .string xr] tOp, tOwn tOp 8 (.slice A9 nr c9) nr (eOp.fl (L.take i ++ L.drop (i + 1)))] from HT.out.blkSet 5 (.bool false))
    go_upto_region 15 with fail
    clear d5 t5
    generalize W7.setCell ⟨g9, 5, none⟩ (.bool false) = W8 at *
    have HG := Lib.hid (show Blk W8 g9 #[.int .i64 xo, .int .i64 xb, .string xd, .int .i64 xf, .int .i64 xt, .bool false, .int .i64 0, .string xr] tOp from HT.out.hd)
    have y0 : W8.cell? ⟨g9, 0, none⟩ = some (.int .i64 xo) := HG.out.cell 0
    have y1 : W8.cell? ⟨g9, 1, none⟩ = some (.int .i64 xb) := HG.out.cell 1
    have y2 : W8.cell? ⟨g9, 2, none⟩ = some (.string xd) := HG.out.cell 2
    have y3 : W8.cell? ⟨g9, 3, none⟩ = some (.int .i64 xf) := HG.out.cell 3
    have y4 : W8.cell? ⟨g9, 4, none⟩ = some (.int .i64 xt) := HG.out.cell 4
    have y5 : W8.cell? ⟨g9, 5, none⟩ = some (.bool false) := HG.out.cell 5
    have y6 : W8.cell? ⟨g9, 6, none⟩ = some (.int .i64 0) := HG.out.cell 6
    have y7 : W8.cell? ⟨g9, 7, none⟩ = some (.string xr) := HG.out.cell 7
    have HT := Lib.hid HT.out.sw
    go_upto_region 16 with (at_builtin; refine app1O 22 tOp (.agg #[.int .i64 0, .int .i64 0, .string ByteArray.empty, .int .i64 0, .int .i64 0, .bool false, .int .i64 0, .string ByteArray.empty]) 8 80 [.int .i64 xo, .int .i64 xb, .string xd, .int .i64 xf, .int .i64 xt, .bool false, .int .i64 0, .string xr] HT.out.own HB3.out Try.underlying22 Try.infoO rfl (by decide) (by decide) rfl (eOp.one (LOp.mk xo xb xd xf xt false 0 xr)) (.tmp 74) (.tmp 76) rfl rfl rfl rfl ?_; intro v3 w8 ho3 hg3 hat3; obtain ⟨A8, c8, rfl, _⟩ := ho3.form; have HT := Lib.hid ((HT.out.appG ho3 hg3 hat3).d2); clear ho3 hg3 hat3)
    have HT2 := Lib.hid (show Sep w w8 [tOwn tOp 8 (.slice A8 (nr + 1) c8) (nr + 1) (eOp.fl (L.take i ++ L.drop (i + 1) ++ [(LOp.mk xo xb xd xf xt false 0 xr)]))] by rw [Enc.snoc]; exact HT.out)
    go_wp2_with (go_at_call 15; refine (check_any (L.take i ++ L.drop (i + 1) ++ [(LOp.mk xo xb xd xf xt false 0 xr)]) A8 (nr + 1) c8 HLM2.out (by omega) HOM2.out (fun W' h => h.own.rd) HT2.out).mono ?_; rw [HCM2.out, HEM2.out]; rintro e w9 ⟨rfl, hS⟩; have HT3 := Lib.hid hS; clear hS)
    go_ret
    exact ⟨rfl, HT3.out.bel⟩
  · have e2 : (xe != 0) = true := bne_iff_ne.2 h2
    go_wp2_with fail
    go_ret
    exact ⟨rfl, HT.out.bel⟩
end Go.Proofs.Ytkajkomljgdghaa
