/- own: the history in the reference's type. -/
import Derived.Test.YtkajkomljgdghaaLinR
set_option linter.unusedVariables false
set_option linter.unusedSimpArgs false
namespace Go.Proofs.Ytkajkomljgdghaa
open Go.RowKit
theorem Try.infoRo : (Try.prog.info? tRop).map (fun i => (i.zero, i.size, i.bytes)) = some (some (.agg #[.int .i64 0, .int .i64 0, .string ByteArray.empty, .int .i64 0, .int .i64 0, .bool false, .int .i64 0, .string ByteArray.empty]), 8, 80) := by kernel_rfl
theorem infoCa3 : (Try.prog.info? 40).map (·.size) = some 3 := by kernel_rfl
theorem infoRe2 : (Try.prog.info? 42).map (·.size) = some 2 := by kernel_rfl
set_option maxRecDepth 100000 in
set_option maxHeartbeats 4000000 in
theorem own_any (L : List LOp) (A : Option Addr) (n c : Nat) (hl : L.length = n) (hn : n ≤ 100) {w W : World} {l : List Th} (hrd : ∀ W', Sep w W' l → Rd W' A (eOp.fl L)) (hs : Sep w W l) :
    Calls Try.prog 14 #[.slice A n c] W fun e W' => ∃ (P : Option Addr) (c' : Nat), e = .returned (.slice P n c') ∧ Sep w W' (tOwn tRop 8 (.slice P n c') n (eOp.fl L) :: l) := by
  have HL := Lib.hid hl
  have HRD := Lib.hid hrd
  have HT := Lib.hid (hs.newRow tRop 8 (g := W.heap.size) rfl)
  clear hl hrd hs
  go_enter Try.func14, Try.ntmps14
  go_upto_region 2 with fail
  generalize W.alloc (.cells #[] tRop) = w2 at *
  generalize W.heap.size = g2 at *
  go_wp2_with fail
  go_loopg [3, 8] n (fun gk s3 s8 wr => ∃ (k : Nat) (P : Option Addr) (c' : Nat), s3 = .slice P k c' ∧ s8 = .int .i64 (k : Int) ∧ k ≤ n ∧ gk = n - k ∧ Sep w wr (tOwn tRop 8 (.slice P k c') k (eOp.fl (L.take k)) :: l))
  case atStart => exact ⟨0, _, _, rfl, rfl, by omega, by omega, HT.out⟩
  case round =>
  clear HT
  obtain ⟨k, P, c', rfl, rfl, hk, hgk, hs⟩ := hrel
  have HT := Lib.hid hs
  clear hs
  by_cases hkn : k < n
  · have j1 : decide ((k : Int) < (n : Int)) = true := by simp; omega
    have j2 : (k : Int) < (n : Int) := by omega
    have j3 : (0 : Int) ≤ (k : Int) := by omega
    have hwk : IntKind.i64.wrap ((k : Int) + 1) = (k : Int) + 1 := IntWalk.i64_in _ (by omega)
    have HBD := Lib.hid (show (k + 1) * 80 ≤ 140737488355328 by omega)
    have HX := Lib.hid (List.getElem?_eq_getElem (l := L) (i := k) (by rw [HL.out]; exact hkn))
    generalize L[k]'(by rw [HL.out]; exact hkn) = x at *
    obtain ⟨gb, go, rfl, hu⟩ := (HRD.out wr HT.out.tail).op k x HX.out
    obtain ⟨xo, xb, xd, xf, xt, xk, xe, xr⟩ := x
    clear hu
    have HU9 : Hid (∀ W', Rd W' (some ⟨gb, go, none⟩) (eOp.fl L) → W'.rangeAt gb (go + k * 8) #[.int .i64 xo, .int .i64 xb, .string xd].toList ∧ W'.cell? ⟨gb, go + k * 8 + 3, none⟩ = some (.int .i64 xf) ∧ W'.cell? ⟨gb, go + k * 8 + 4, none⟩ = some (.int .i64 xt) ∧ W'.cell? ⟨gb, go + k * 8 + 5, none⟩ = some (.bool xk) ∧ W'.rangeAt gb (go + k * 8 + 6) #[.int .i64 xe, .string xr].toList) := Lib.hid (fun W' h => by
      obtain ⟨b, o, e, hu⟩ := h.op k _ HX.out
      cases e
      refine ⟨fun j v hv => hu j v ?_, hu 3 _ rfl, hu 4 _ rfl, hu 5 _ rfl, fun j v hv => ?_⟩
      · rcases j with _ | _ | _ | j
        · exact hv
        · exact hv
        · exact hv
        · simp at hv
      · have := hu (6 + j) v (by
          rcases j with _ | _ | j
          · exact hv
          · exact hv
          · simp at hv)
        rwa [← Nat.add_assoc] at this)
    have hbO : ∀ (w : World), (Instr.build tRop #[(0, .agg #[.int .i64 xo, .int .i64 xb, .string xd]), (1, .int .i64 xf), (2, .int .i64 xt), (3, .bool xk), (4, .agg #[.int .i64 xe, .string xr])]).run Try.prog w = .ok (.agg #[.int .i64 xo, .int .i64 xb, .string xd, .int .i64 xf, .int .i64 xt, .bool xk, .int .i64 xe, .string xr]) w := fun w => run_build w tRop _ _ (by kernel_rfl)
    go_upto_region 5 with fail
    have HT := Lib.hid HT.out.drew
    refine wp_region_L (fun w' => w'.rangeAt gb (go + k * 8) #[.int .i64 xo, .int .i64 xb, .string xd].toList ∧ w'.cell? ⟨gb, go + k * 8 + 3, none⟩ = some (.int .i64 xf) ∧ w'.cell? ⟨gb, go + k * 8 + 4, none⟩ = some (.int .i64 xt) ∧ w'.cell? ⟨gb, go + k * 8 + 5, none⟩ = some (.bool xk) ∧ w'.rangeAt gb (go + k * 8 + 6) #[.int .i64 xe, .string xr].toList) 28 (by kernel_rfl) (HU9.out _ (HRD.out _ HT.out.tail)) (fun hHeld => ?_)
    refine reg_take (i := 0) (d := 11) (v := ?_) [] rfl rfl (by kernel_rfl) (by kernel_rfl) (fun _ _ _ h => h) (Or.inl ⟨by rfl, ?_⟩) (by assumption) ?_
    rotate_left
    · (intro w hSw; (try dsimp only at hSw); go_simp; first | done | with_reducible rfl)
    try simp only [List.setIfInBounds_toArray, List.set_cons_zero, List.set_cons_succ]
    refine reg_take (i := 1) (d := 12) (v := ?_) [27, 26, 5, 4, 3] rfl rfl (by kernel_rfl) (by kernel_rfl) (fun _ _ _ h => h) (Or.inl ⟨by rfl, ?_⟩) (by assumption) ?_
    rotate_left
    · (intro w hSw; (try dsimp only at hSw); go_simp; first | done | with_reducible rfl)
    try simp only [List.setIfInBounds_toArray, List.set_cons_zero, List.set_cons_succ]
    refine reg_take (i := 2) (d := 13) (v := ?_) [27, 26, 5, 4, 3] rfl rfl (by kernel_rfl) (by kernel_rfl) (fun _ _ _ h => h) (Or.inl ⟨by rfl, ?_⟩) (by assumption) ?_
    rotate_left
    · (intro w hSw; (try dsimp only at hSw); go_simp; first | done | with_reducible rfl)
    try simp only [List.setIfInBounds_toArray, List.set_cons_zero, List.set_cons_succ]
    refine reg_take (i := 3) (d := 14) (v := ?_) [27, 26, 5, 4] rfl rfl (by kernel_rfl) (by kernel_rfl) (fun _ _ _ h => h) (Or.inl ⟨by rfl, ?_⟩) (by assumption) ?_
    rotate_left
    · (intro w hSw; (try dsimp only at hSw); go_simp; first | done | with_reducible rfl)
    try simp only [List.setIfInBounds_toArray, List.set_cons_zero, List.set_cons_succ]
    refine reg_take (i := 4) (d := 15) (v := ?_) [27, 26, 5] rfl rfl (by kernel_rfl) (by kernel_rfl) (fun _ _ _ h => h) (Or.inl ⟨by rfl, ?_⟩) (by assumption) ?_
    rotate_left
    · (intro w hSw; (try dsimp only at hSw); go_simp; first | done | with_reducible rfl)
    try simp only [List.setIfInBounds_toArray, List.set_cons_zero, List.set_cons_succ]
    refine reg_take (i := 5) (d := 16) (v := .agg #[.int .i64 xo, .int .i64 xb, .string xd]) [27, 26] rfl rfl (by kernel_rfl) (by kernel_rfl) (fun _ _ _ h => h) (yieldsIf_load_mid (by rfl) _ (.tmp 15) rfl gb (go + k * 8) rfl #[.int .i64 xo, .int .i64 xb, .string xd].toList _ (fun w h => h.1) Try.underlying40 rfl infoCa3) (by assumption) ?_
    try simp only [List.setIfInBounds_toArray, List.set_cons_zero, List.set_cons_succ]
    refine reg_take (i := 6) (d := 17) (v := ?_) [27, 26, 10, 9, 8] rfl rfl (by kernel_rfl) (by kernel_rfl) (fun _ _ _ h => h) (Or.inl ⟨by rfl, ?_⟩) (by assumption) ?_
    rotate_left
    · (intro w hSw; (try dsimp only at hSw); go_simp; first | done | with_reducible rfl)
    try simp only [List.setIfInBounds_toArray, List.set_cons_zero, List.set_cons_succ]
    refine reg_take (i := 7) (d := 18) (v := ?_) [27, 26, 10, 9, 8] rfl rfl (by kernel_rfl) (by kernel_rfl) (fun _ _ _ h => h) (Or.inl ⟨by rfl, ?_⟩) (by assumption) ?_
    rotate_left
    · (intro w hSw; (try dsimp only at hSw); go_simp; first | done | with_reducible rfl)
    try simp only [List.setIfInBounds_toArray, List.set_cons_zero, List.set_cons_succ]
    refine reg_take (i := 8) (d := 19) (v := ?_) [27, 26, 10, 9] rfl rfl (by kernel_rfl) (by kernel_rfl) (fun _ _ _ h => h) (Or.inl ⟨by rfl, ?_⟩) (by assumption) ?_
    rotate_left
    · (intro w hSw; (try dsimp only at hSw); go_simp; first | done | with_reducible rfl)
    try simp only [List.setIfInBounds_toArray, List.set_cons_zero, List.set_cons_succ]
    refine reg_take (i := 9) (d := 20) (v := ?_) [27, 26, 10] rfl rfl (by kernel_rfl) (by kernel_rfl) (fun _ _ _ h => h) (Or.inl ⟨by rfl, ?_⟩) (by assumption) ?_
    rotate_left
    · (intro w hSw; (try dsimp only at hSw); go_simp; first | done | with_reducible rfl)
    try simp only [List.setIfInBounds_toArray, List.set_cons_zero, List.set_cons_succ]
    refine reg_take (i := 10) (d := 21) (v := ?_) [27, 26] rfl rfl (by kernel_rfl) (by kernel_rfl) (fun _ _ _ h => h) (Or.inl ⟨by rfl, ?_⟩) (by assumption) ?_
    rotate_left
    · (intro w hSw; (try dsimp only at hSw); go_simp; first | done | with_reducible rfl)
    try simp only [List.setIfInBounds_toArray, List.set_cons_zero, List.set_cons_succ]
    refine reg_take (i := 11) (d := 22) (v := ?_) [27, 26, 15, 14, 13] rfl rfl (by kernel_rfl) (by kernel_rfl) (fun _ _ _ h => h) (Or.inl ⟨by rfl, ?_⟩) (by assumption) ?_
    rotate_left
    · (intro w hSw; (try dsimp only at hSw); go_simp; first | done | with_reducible rfl)
    try simp only [List.setIfInBounds_toArray, List.set_cons_zero, List.set_cons_succ]
    refine reg_take (i := 12) (d := 23) (v := ?_) [27, 26, 15, 14, 13] rfl rfl (by kernel_rfl) (by kernel_rfl) (fun _ _ _ h => h) (Or.inl ⟨by rfl, ?_⟩) (by assumption) ?_
    rotate_left
    · (intro w hSw; (try dsimp only at hSw); go_simp; first | done | with_reducible rfl)
    try simp only [List.setIfInBounds_toArray, List.set_cons_zero, List.set_cons_succ]
    refine reg_take (i := 13) (d := 24) (v := ?_) [27, 26, 15, 14] rfl rfl (by kernel_rfl) (by kernel_rfl) (fun _ _ _ h => h) (Or.inl ⟨by rfl, ?_⟩) (by assumption) ?_
    rotate_left
    · (intro w hSw; (try dsimp only at hSw); go_simp; first | done | with_reducible rfl)
    try simp only [List.setIfInBounds_toArray, List.set_cons_zero, List.set_cons_succ]
    refine reg_take (i := 14) (d := 25) (v := ?_) [27, 26, 15] rfl rfl (by kernel_rfl) (by kernel_rfl) (fun _ _ _ h => h) (Or.inl ⟨by rfl, ?_⟩) (by assumption) ?_
    rotate_left
    · (intro w hSw; (try dsimp only at hSw); go_simp; first | done | with_reducible rfl)
    try simp only [List.setIfInBounds_toArray, List.set_cons_zero, List.set_cons_succ]
    refine reg_take (i := 15) (d := 26) (v := ?_) [27, 26] rfl rfl (by kernel_rfl) (by kernel_rfl) (fun _ _ _ h => h) (Or.inl ⟨by rfl, ?_⟩) (by assumption) ?_
    rotate_left
    · (intro w hSw; (try dsimp only at hSw); go_simp; first | done | with_reducible rfl)
    try simp only [List.setIfInBounds_toArray, List.set_cons_zero, List.set_cons_succ]
    refine reg_take (i := 16) (d := 27) (v := ?_) [27, 26, 20, 19, 18] rfl rfl (by kernel_rfl) (by kernel_rfl) (fun _ _ _ h => h) (Or.inl ⟨by rfl, ?_⟩) (by assumption) ?_
    rotate_left
    · (intro w hSw; (try dsimp only at hSw); go_simp; first | done | with_reducible rfl)
    try simp only [List.setIfInBounds_toArray, List.set_cons_zero, List.set_cons_succ]
    refine reg_take (i := 17) (d := 28) (v := ?_) [27, 26, 20, 19, 18] rfl rfl (by kernel_rfl) (by kernel_rfl) (fun _ _ _ h => h) (Or.inl ⟨by rfl, ?_⟩) (by assumption) ?_
    rotate_left
    · (intro w hSw; (try dsimp only at hSw); go_simp; first | done | with_reducible rfl)
    try simp only [List.setIfInBounds_toArray, List.set_cons_zero, List.set_cons_succ]
    refine reg_take (i := 18) (d := 29) (v := ?_) [27, 26, 20, 19] rfl rfl (by kernel_rfl) (by kernel_rfl) (fun _ _ _ h => h) (Or.inl ⟨by rfl, ?_⟩) (by assumption) ?_
    rotate_left
    · (intro w hSw; (try dsimp only at hSw); go_simp; first | done | with_reducible rfl)
    try simp only [List.setIfInBounds_toArray, List.set_cons_zero, List.set_cons_succ]
    refine reg_take (i := 19) (d := 30) (v := ?_) [27, 26, 20] rfl rfl (by kernel_rfl) (by kernel_rfl) (fun _ _ _ h => h) (Or.inl ⟨by rfl, ?_⟩) (by assumption) ?_
    rotate_left
    · (intro w hSw; (try dsimp only at hSw); go_simp; first | done | with_reducible rfl)
    try simp only [List.setIfInBounds_toArray, List.set_cons_zero, List.set_cons_succ]
    refine reg_take (i := 20) (d := 31) (v := ?_) [27, 26] rfl rfl (by kernel_rfl) (by kernel_rfl) (fun _ _ _ h => h) (Or.inl ⟨by rfl, ?_⟩) (by assumption) ?_
    rotate_left
    · (intro w hSw; (try dsimp only at hSw); go_simp; first | done | with_reducible rfl)
    try simp only [List.setIfInBounds_toArray, List.set_cons_zero, List.set_cons_succ]
    refine reg_take (i := 21) (d := 32) (v := ?_) [27, 26, 25, 24, 23] rfl rfl (by kernel_rfl) (by kernel_rfl) (fun _ _ _ h => h) (Or.inl ⟨by rfl, ?_⟩) (by assumption) ?_
    rotate_left
    · (intro w hSw; (try dsimp only at hSw); go_simp; first | done | with_reducible rfl)
    try simp only [List.setIfInBounds_toArray, List.set_cons_zero, List.set_cons_succ]
    refine reg_take (i := 22) (d := 33) (v := ?_) [27, 26, 25, 24, 23] rfl rfl (by kernel_rfl) (by kernel_rfl) (fun _ _ _ h => h) (Or.inl ⟨by rfl, ?_⟩) (by assumption) ?_
    rotate_left
    · (intro w hSw; (try dsimp only at hSw); go_simp; first | done | with_reducible rfl)
    try simp only [List.setIfInBounds_toArray, List.set_cons_zero, List.set_cons_succ]
    refine reg_take (i := 23) (d := 34) (v := ?_) [27, 26, 25, 24] rfl rfl (by kernel_rfl) (by kernel_rfl) (fun _ _ _ h => h) (Or.inl ⟨by rfl, ?_⟩) (by assumption) ?_
    rotate_left
    · (intro w hSw; (try dsimp only at hSw); go_simp; first | done | with_reducible rfl)
    try simp only [List.setIfInBounds_toArray, List.set_cons_zero, List.set_cons_succ]
    refine reg_take (i := 24) (d := 35) (v := ?_) [27, 26, 25] rfl rfl (by kernel_rfl) (by kernel_rfl) (fun _ _ _ h => h) (Or.inl ⟨by rfl, ?_⟩) (by assumption) ?_
    rotate_left
    · (intro w hSw; (try dsimp only at hSw); go_simp; first | done | with_reducible rfl)
    try simp only [List.setIfInBounds_toArray, List.set_cons_zero, List.set_cons_succ]
    refine reg_take (i := 25) (d := 36) (v := .agg #[.int .i64 xe, .string xr]) [27, 26] rfl rfl (by kernel_rfl) (by kernel_rfl) (fun _ _ _ h => h) (yieldsIf_load_mid (by rfl) _ (.tmp 35) rfl gb (go + k * 8 + 6) rfl #[.int .i64 xe, .string xr].toList _ (fun w h => h.2.2.2.2) Try.underlying42 rfl infoRe2) (by assumption) ?_
    try simp only [List.setIfInBounds_toArray, List.set_cons_zero, List.set_cons_succ]
    refine reg_take (i := 26) (d := 37) (v := ?_) [27] rfl rfl (by kernel_rfl) (by kernel_rfl) (fun _ _ _ h => h) (Or.inl ⟨by rfl, ?_⟩) (by assumption) ?_
    rotate_left
    · (intro w hSw; (try dsimp only at hSw); go_simp; first | done | with_reducible rfl)
    try simp only [List.setIfInBounds_toArray, List.set_cons_zero, List.set_cons_succ]
    refine wpAnyL_ready (rs := [27]) (by kernel_rfl) rfl ?_
    refine (AllL.cons rfl (fun K hK => ?_) AllL.nil)
    go_simp
    have HT := Lib.hid ((HT.out.newBlk #[.int .i64 xo, .int .i64 xb, .string xd, .int .i64 xf, .int .i64 xt, .bool xk, .int .i64 xe, .string xr] tRop (g := wr.heap.size) (by simp)).sw)
    refine hK.out _ _ (HU9.out _ (HRD.out _ HT.out.tail.tail)) (fun hHeld => ?_)
    try simp only [List.setIfInBounds_toArray, List.set_cons_zero, List.set_cons_succ]
    refine wpAnyL_ready (rs := [28]) (by kernel_rfl) rfl ?_
    refine (AllL.consJ rfl (by kernel_rfl) (fun K hK => ?_) AllL.nil)
    refine stepA 27 tRop (.agg #[.int .i64 0, .int .i64 0, .string ByteArray.empty, .int .i64 0, .int .i64 0, .bool false, .int .i64 0, .string ByteArray.empty]) 8 80 (LOp.cells ⟨xo, xb, xd, xf, xt, xk, xe, xr⟩) 1 HT.out.own HBD.out Try.underlying27 Try.infoRo rfl (by decide) (by decide) rfl (eOp.one ⟨xo, xb, xd, xf, xt, xk, xe, xr⟩) (some ⟨wr.heap.size, 0, none⟩) 1 (show Blk _ wr.heap.size #[.int .i64 xo, .int .i64 xb, .string xd, .int .i64 xf, .int .i64 xt, .bool xk, .int .i64 xe, .string xr] tRop from HT.out.h2).rd (fun e => nomatch e) (.tmp 11) (.tmp 38) rfl rfl rfl rfl ?_
    intro v1 w5 ho1 hg1 hat1
    obtain ⟨A1, c1, rfl, _⟩ := ho1.form
    have HT := Lib.hid (HT.out.app ho1 hg1 hat1)
    clear ho1 hg1 hat1
    refine hK.out _ _ ?_
    try simp only [List.setIfInBounds_toArray, List.set_cons_zero, List.set_cons_succ]
    refine wpAnyL_ready (rs := [29]) (by kernel_rfl) rfl ?_
    refine (AllL.consJ rfl (by kernel_rfl) (fun K hK => ?_) AllL.nil)
    go_simp
    refine hK.out _ _ ?_
    try simp only [List.setIfInBounds_toArray, List.set_cons_zero, List.set_cons_succ]
    refine wpAnyL_done (by kernel_rfl) ?_ _
    go_wp2_with fail
    go_roundg (n - (k + 1))
    case measure => omega
    case rel =>
      refine ⟨k + 1, A1, c1, rfl, by push_cast; rfl, by omega, rfl, ?_⟩
      rw [List.take_add_one, HX.out]
      show Sep _ _ (tOwn _ _ _ _ (eOp.fl (L.take k ++ [_])) :: _)
      rw [Enc.snoc]
      exact HT.out.d2
  · have j1 : decide ((k : Int) < (n : Int)) = false := by simp; omega
    have j2 : ¬ (k : Int) < (n : Int) := by omega
    have hkn : k = n := by omega
    subst hkn
    go_wp2_with fail
    go_ret
    exact ⟨P, c', rfl, by have := HT.out; rwa [List.take_of_length_le (by rw [HL.out]; omega)] at this⟩
end Go.Proofs.Ytkajkomljgdghaa
