/- The walk of MirrorSends. No condition but the row's own. -/
import Derived.Test.YtgmehcefmoleoaaMirX
import Derived.Test.YtgmehcefmoleoaaMirB
import Derived.Deep.CutBlock
set_option linter.unusedVariables false
set_option linter.unusedSimpArgs false
namespace Go.Proofs.Ytgmehcefmoleoaa
open Go.RowKit

set_option maxRecDepth 100000 in
set_option maxHeartbeats 4000000 in
theorem w_MirrorSends (a0 : Int) (a1 : Option Addr) (n1 c1 : Nat) (w : World) (b0 : -9223372036854775808 ≤ a0 ∧ a0 ≤ 9223372036854775807) (b1 : Sh.Is w (.slice 64 (.pair (.int .i64) (.pair (.int .i64) (.pair (.pair (.int .i64) (.pair (.int .i64) (.pair .str (.pair (.int .i64) (.pair (.int .i64) .unit))))) .unit)))) [.slice a1 n1 c1]) :
    Calls Try.prog 3 #[.int .i64 a0, .slice a1 n1 c1] w fun e w' => e = .returned (.bool true) ∧ Below w.heap.size w w' := by
  obtain ⟨xs, xl, xr, xok⟩ := is_acts b1
  clear b1
  have HXL := Lib.hid xl; have HXR := Lib.hid xr; have HXO := Lib.hid xok
  clear xr xok xl
  obtain ⟨bm, hbm⟩ : ∃ b : Int, min (max a0 0) 4611686018427387904 = b := ⟨_, rfl⟩
  have hb0 : 0 ≤ bm ∧ bm ≤ 4611686018427387904 := by omega
  obtain ⟨hb0, hb1⟩ := hb0
  have HBM := Lib.hid hbm
  clear hbm
  go_enter Try.func3, Try.ntmps3
  go_upto_region 5 with (first
    | (go_at_call 9; refine (awake_any _).mono ?_; rintro e1 w1 ⟨rfl, B1⟩)
    | (go_at_call 10; with_reducible refine (mnew_any a0 _ b0).mono ?_; rintro e1 w2 ⟨rfl, rfl⟩; simp only [HBM.out])
    | (go_at_call 11; with_reducible refine (rnew_any a0 _ b0).mono ?_; rintro e1 w3 ⟨rfl, rfl⟩; simp only [HBM.out, World.size_alloc]))
  have HT := Lib.hid (new_sep ((Sep.nil w).step B1) hb0 hb1 rfl rfl)
  clear B1
  generalize (w1.alloc (.cells #[.slice none 0 0, .int .i64 bm] 53)).alloc (.cells #[.slice none 0 0, .int .i64 bm, .int .i64 bm] 41) = W0 at *
  generalize w1.heap.size + 1 = bb at *
  generalize w1.heap.size = ba at *
  go_wp2_with fail
  go_loopg [7] 101 (fun gk s7 wr => ∃ (k : Nat) (la lb : Value) (L : List Item) (t : Nat), s7 = .int .i64 (k : Int) ∧ k ≤ 100 ∧ gk = 101 - k ∧ t ≤ L.length ∧ L.length ≤ k ∧ Numb bm L ∧ Sep w wr [tSnd ba la (L.drop t) (bm + t), tRSnd bb lb L bm (bm + t)])
  case atStart => exact ⟨0, _, _, [], 0, rfl, by omega, by omega, by simp, by simp, Numb.nil _, by simpa using HT.out⟩
  case round =>
    clear HT
    obtain ⟨k, la, lb, L, t, rfl, hk, hgk, htl, hLk, hnum, ht⟩ := hrel
    have HN := Lib.hid hnum
    have HT := Lib.hid ht
    clear ht hnum
    by_cases q1 : k < xs.length
    · have q1' : decide ((k : Int) < (n1 : Int)) = true := by have := HXL.out; simp; omega
      have q1i : (k : Int) < (n1 : Int) := by have := HXL.out; omega
      by_cases q2 : k < 100
      · have q2' : decide ((k : Int) < 100) = true := by simp; omega
        obtain ⟨b, o, rfl, r0, r1, r2, r3, r4, r5, r6⟩ := (HXR.out.below HT.out.bel).act k q1
        have hok := HXO.out _ (List.getElem_mem q1)
        generalize xs[k] = x at *
        obtain ⟨xk, xn, ⟨xs', xb, xd, xc, xm⟩⟩ := x
        simp only at r0 r1 r2 r3 r4 r5 r6
        have HOK := Lib.hid hok
        clear hok
        obtain ⟨g8, hg8⟩ : ∃ g, wr.heap.size = g := ⟨_, rfl⟩
        have HT1 := Lib.hid ((HT.out.newBlk #[.int .i64 xk, .int .i64 xn, .int .i64 xs', .int .i64 xb, .string xd, .int .i64 xc, .int .i64 xm] 31 hg8).r3')
        have HG8 := Lib.hid hg8; clear hg8
        go_upto_block 2 with fail
        rw [HG8.out]
        go_cut [] (fun wx => ∃ (la lb : Value) (L : List Item) (t : Nat), t ≤ L.length ∧ L.length ≤ k + 1 ∧ Numb bm L ∧ Sep w wx [tSnd ba la (L.drop t) (bm + t), tRSnd bb lb L bm (bm + t)])
        case first =>
          generalize wr.alloc (.cells #[.int .i64 xk, .int .i64 xn, .int .i64 xs', .int .i64 xb, .string xd, .int .i64 xc, .int .i64 xm] 31) = W at *
          clear r0 r1 r2 r3 r4 r5 r6 HT
          have HG := Lib.hid (show Blk W g8 #[.int .i64 xk, .int .i64 xn, .int .i64 xs', .int .i64 xb, .string xd, .int .i64 xc, .int .i64 xm] 31 from HT1.out.h3)
          have d0 : W.cell? ⟨g8, 0, none⟩ = some (.int .i64 xk) := HG.out.cell 0
          have d1 : W.cell? ⟨g8, 1, none⟩ = some (.int .i64 xn) := HG.out.cell 1
          have d2 : W.cell? ⟨g8, 2, none⟩ = some (.int .i64 xs') := HG.out.cell 2
          have d3 : W.cell? ⟨g8, 3, none⟩ = some (.int .i64 xb) := HG.out.cell 3
          have d4 : W.cell? ⟨g8, 4, none⟩ = some (.string xd) := HG.out.cell 4
          have d5 : W.cell? ⟨g8, 5, none⟩ = some (.int .i64 xc) := HG.out.cell 5
          have d6 : W.cell? ⟨g8, 6, none⟩ = some (.int .i64 xm) := HG.out.cell 6
          by_cases hk0 : xk = 0
          · have p0 : (xk == 0) = true := by simp [hk0]
            clear hk0
            by_cases hful : bm + L.length = 4611686018427387904
            · have HF := Lib.hid (show bm + t + (L.drop t).length = 4611686018427387904 by rw [List.length_drop]; omega)
              have HF2 := Lib.hid hful
              clear hful
              go_wp2_with (first
                | (go_at_call 12; with_reducible refine (addF_sep HT1.out ⟨xs', xb, xd, xc, xm⟩ HF.out).mono ?_
                   rintro e1 w2 ⟨rfl, hs2⟩
                   have HT2 := Lib.hid hs2.r3'
                   have hG2 : Blk w2 g8 #[.int .i64 xk, .int .i64 xn, .int .i64 xs', .int .i64 xb, .string xd, .int .i64 xc, .int .i64 xm] 31 := HT2.out.h2
                   clear d0 d1 d2 d3 d4 d5 d6 hs2
                   have d2 : w2.cell? ⟨g8, 2, none⟩ = some (.int .i64 xs') := hG2.cell 2
                   have d3 : w2.cell? ⟨g8, 3, none⟩ = some (.int .i64 xb) := hG2.cell 3
                   have d4 : w2.cell? ⟨g8, 4, none⟩ = some (.string xd) := hG2.cell 4
                   have d5 : w2.cell? ⟨g8, 5, none⟩ = some (.int .i64 xc) := hG2.cell 5
                   have d6 : w2.cell? ⟨g8, 6, none⟩ = some (.int .i64 xm) := hG2.cell 6
                   clear hG2)
                | (go_at_call 13; with_reducible refine (raddF_sep HT2.out ⟨xs', xb, xd, xc, xm⟩ HF2.out).mono ?_
                   rintro e1 w3 ⟨rfl, hs3⟩
                   have HT3 := Lib.hid hs3
                   clear hs3))
              go_meet
              exact ⟨la, lb, L, t, htl, by omega, HN.out, HT3.out.r3.d3⟩
            · obtain ⟨vN, hvN⟩ : ∃ v : Int, bm + L.length + 1 = v := ⟨_, rfl⟩
              have HV1 := Lib.hid (show bm + t + (L.drop t).length + 1 = vN by rw [List.length_drop]; omega)
              have HV2 := Lib.hid hvN
              have HF := Lib.hid (show bm + t + (L.drop t).length < 4611686018427387904 by rw [List.length_drop]; have := (show Snd W 0 ba la (L.drop t) (bm + t) from HT1.out.hd).hi; rw [List.length_drop] at this; omega)
              have HF2 := Lib.hid (show bm + L.length < 4611686018427387904 by have := HF.out; rw [List.length_drop] at this; omega)
              have HF3 := Lib.hid (show ((L.drop t).length + 1) * 48 ≤ 140737488351232 by rw [List.length_drop]; omega)
              have HF4 := Lib.hid (show (L.length + 1) * 48 ≤ 140737488351232 by omega)
              clear hful hvN
              go_wp2_with (first
                | (go_at_call 12; with_reducible refine (add_sep HT1.out ⟨xs', xb, xd, xc, xm⟩ HF.out HF3.out vN HV1.out).mono ?_
                   rintro e1 w2 ⟨rfl, la2, hs2⟩
                   have HT2 := Lib.hid hs2.r3'
                   have hG2 : Blk w2 g8 #[.int .i64 xk, .int .i64 xn, .int .i64 xs', .int .i64 xb, .string xd, .int .i64 xc, .int .i64 xm] 31 := HT2.out.h2
                   clear d0 d1 d2 d3 d4 d5 d6 hs2
                   have d2 : w2.cell? ⟨g8, 2, none⟩ = some (.int .i64 xs') := hG2.cell 2
                   have d3 : w2.cell? ⟨g8, 3, none⟩ = some (.int .i64 xb) := hG2.cell 3
                   have d4 : w2.cell? ⟨g8, 4, none⟩ = some (.string xd) := hG2.cell 4
                   have d5 : w2.cell? ⟨g8, 5, none⟩ = some (.int .i64 xc) := hG2.cell 5
                   have d6 : w2.cell? ⟨g8, 6, none⟩ = some (.int .i64 xm) := hG2.cell 6
                   clear hG2)
                | (go_at_call 13; with_reducible refine (radd_sep HT2.out ⟨xs', xb, xd, xc, xm⟩ HF2.out HF4.out vN HV2.out).mono ?_
                   rintro e1 w3 ⟨rfl, lb3, hs3⟩
                   have HT3 := Lib.hid hs3
                   clear hs3))
              go_meet
              refine ⟨la2, lb3, L ++ [⟨vN, xb, xd, xc, xm⟩], t, by simp; omega, by simp; omega, HN.out.snoc (x := ⟨xs', xb, xd, xc, xm⟩) HV2.out, ?_⟩
              rw [List.drop_append_of_le_length htl]
              exact HT3.out.r3.d3
          · have p0 : (xk == 0) = false := by simpa using hk0
            clear hk0
            by_cases hk1 : xk = 1
            · have p1 : (xk == 1) = true := by simp [hk1]
              clear hk1
              go_upto_region 16 with fail
              have HLn := Lib.hid (show (L.drop t).length = L.length - t from List.length_drop)
              by_cases hy : bm + t < xn ∧ xn ≤ bm + L.length
              · obtain ⟨j, hj⟩ : ∃ j : Nat, xn = bm + t + j := ⟨(xn - bm - t).toNat, by omega⟩
                have HJ1 := Lib.hid hj
                have HJ2 := Lib.hid hy
                have hjl : 0 < j ∧ j ≤ L.length - t := by omega
                clear hj hy
                refine wp_region_L (fun w' => w'.cell? ⟨g8, 1, none⟩ = some (.int .i64 xn)) 9 (by kernel_rfl) (HT1.out.h3.cell 1) (fun hHeld => ?_)
                refine reg_take (i := 0) (d := 63) (v := ?_) [] rfl rfl (by kernel_rfl) (by kernel_rfl) (fun _ _ _ h => h) (Or.inl ⟨by rfl, ?_⟩) (by assumption) ?_
                rotate_left
                · (intro w hSw; (try dsimp only at hSw); go_simp; first | done | with_reducible rfl)
                try simp only [List.setIfInBounds_toArray, List.set_cons_zero, List.set_cons_succ]
                refine reg_take (i := 1) (d := 64) (v := ?_) [] rfl rfl (by kernel_rfl) (by kernel_rfl) (fun _ _ _ h => h) (Or.inl ⟨by rfl, ?_⟩) (by assumption) ?_
                rotate_left
                · (intro w hSw; (try dsimp only at hSw); go_simp; first | done | with_reducible rfl)
                try simp only [List.setIfInBounds_toArray, List.set_cons_zero, List.set_cons_succ]
                refine reg_take (i := 2) (d := 65) (v := ?_) [] rfl rfl (by kernel_rfl) (by kernel_rfl) (fun _ _ _ h => h) (Or.inl ⟨by rfl, ?_⟩) (by assumption) ?_
                rotate_left
                · (intro w hSw; (try dsimp only at hSw); go_simp; first | done | with_reducible rfl)
                try simp only [List.setIfInBounds_toArray, List.set_cons_zero, List.set_cons_succ]
                refine reg_take (i := 4) (d := 67) (v := ?_) [] rfl rfl (by kernel_rfl) (by kernel_rfl) (fun _ _ _ h => h) (Or.inl ⟨by rfl, ?_⟩) (by assumption) ?_
                rotate_left
                · (intro w hSw; (try dsimp only at hSw); go_simp; first | done | with_reducible rfl)
                try simp only [List.setIfInBounds_toArray, List.set_cons_zero, List.set_cons_succ]
                refine reg_take (i := 5) (d := 68) (v := ?_) [] rfl rfl (by kernel_rfl) (by kernel_rfl) (fun _ _ _ h => h) (Or.inl ⟨by rfl, ?_⟩) (by assumption) ?_
                rotate_left
                · (intro w hSw; (try dsimp only at hSw); go_simp; first | done | with_reducible rfl)
                try simp only [List.setIfInBounds_toArray, List.set_cons_zero, List.set_cons_succ]
                refine reg_take (i := 6) (d := 69) (v := ?_) [] rfl rfl (by kernel_rfl) (by kernel_rfl) (fun _ _ _ h => h) (Or.inl ⟨by rfl, ?_⟩) (by assumption) ?_
                rotate_left
                · (intro w hSw; (try dsimp only at hSw); go_simp; first | done | with_reducible rfl)
                try simp only [List.setIfInBounds_toArray, List.set_cons_zero, List.set_cons_succ]
                refine wpAnyL_ready (rs := [3]) (by kernel_rfl) rfl ?_
                refine (AllL.cons rfl (fun K hK => ?_) AllL.nil)
                go_simp
                go_wp2_with (go_at_call 14; with_reducible refine (ack_sep HT1.out.drew j xn HJ1.out hjl.1 (by rw [List.length_drop]; omega) (by rw [List.length_drop]; omega)).mono ?_; rintro e1 w2 ⟨rfl, la2, hs2⟩; have HT2 := Lib.hid hs2.r3'; clear hs2)
                refine hK.out _ _ (HT2.out.h2.cell 1) (fun hHeld => ?_)
                try simp only [List.setIfInBounds_toArray, List.set_cons_zero, List.set_cons_succ]
                refine wpAnyL_ready (rs := [7]) (by kernel_rfl) rfl ?_
                refine (AllL.cons rfl (fun K hK => ?_) AllL.nil)
                go_simp
                go_wp2_with (go_at_call 15; with_reducible refine (rack_sep HT2.out xn HJ2.out.1 HJ2.out.2).mono ?_; rintro e1 w3 ⟨rfl, hs3⟩; have HT3 := Lib.hid hs3; clear hs3)
                refine hK.out _ _ (HT3.out.h2.cell 1) (fun hHeld => ?_)
                try simp only [List.setIfInBounds_toArray, List.set_cons_zero, List.set_cons_succ]
                refine reg_take (i := 8) (d := 71) (v := ?_) [] rfl rfl (by kernel_rfl) (by kernel_rfl) (fun _ _ _ h => h) (Or.inl ⟨by rfl, ?_⟩) (by assumption) ?_
                rotate_left
                · (intro w hSw; (try dsimp only at hSw); go_simp; first | done | with_reducible rfl)
                try simp only [List.setIfInBounds_toArray, List.set_cons_zero, List.set_cons_succ]
                refine wpAnyL_done (by kernel_rfl) ?_ _
                go_wp2
                go_meet
                refine ⟨la2, lb, L, t + j, by omega, by omega, HN.out, ?_⟩
                have h := HT3.out.r3
                rw [List.drop_drop] at h
                have e : bm + ((t + j : Nat) : Int) = bm + t + j := by omega
                rw [e]
                have e2 : xn = bm + t + j := by have := HJ1.out; omega
                rw [e2] at h
                exact h.d3
              · have HY1 := Lib.hid (show xn ≤ bm + t ∨ bm + t + (L.drop t).length < xn by rw [List.length_drop]; omega)
                have HY2 := Lib.hid (show xn ≤ bm + t ∨ bm + L.length < xn by omega)
                clear hy
                refine wp_region_L (fun w' => w'.cell? ⟨g8, 1, none⟩ = some (.int .i64 xn)) 9 (by kernel_rfl) (HT1.out.h3.cell 1) (fun hHeld => ?_)
                refine reg_take (i := 0) (d := 63) (v := ?_) [] rfl rfl (by kernel_rfl) (by kernel_rfl) (fun _ _ _ h => h) (Or.inl ⟨by rfl, ?_⟩) (by assumption) ?_
                rotate_left
                · (intro w hSw; (try dsimp only at hSw); go_simp; first | done | with_reducible rfl)
                try simp only [List.setIfInBounds_toArray, List.set_cons_zero, List.set_cons_succ]
                refine reg_take (i := 1) (d := 64) (v := ?_) [] rfl rfl (by kernel_rfl) (by kernel_rfl) (fun _ _ _ h => h) (Or.inl ⟨by rfl, ?_⟩) (by assumption) ?_
                rotate_left
                · (intro w hSw; (try dsimp only at hSw); go_simp; first | done | with_reducible rfl)
                try simp only [List.setIfInBounds_toArray, List.set_cons_zero, List.set_cons_succ]
                refine reg_take (i := 2) (d := 65) (v := ?_) [] rfl rfl (by kernel_rfl) (by kernel_rfl) (fun _ _ _ h => h) (Or.inl ⟨by rfl, ?_⟩) (by assumption) ?_
                rotate_left
                · (intro w hSw; (try dsimp only at hSw); go_simp; first | done | with_reducible rfl)
                try simp only [List.setIfInBounds_toArray, List.set_cons_zero, List.set_cons_succ]
                refine reg_take (i := 4) (d := 67) (v := ?_) [] rfl rfl (by kernel_rfl) (by kernel_rfl) (fun _ _ _ h => h) (Or.inl ⟨by rfl, ?_⟩) (by assumption) ?_
                rotate_left
                · (intro w hSw; (try dsimp only at hSw); go_simp; first | done | with_reducible rfl)
                try simp only [List.setIfInBounds_toArray, List.set_cons_zero, List.set_cons_succ]
                refine reg_take (i := 5) (d := 68) (v := ?_) [] rfl rfl (by kernel_rfl) (by kernel_rfl) (fun _ _ _ h => h) (Or.inl ⟨by rfl, ?_⟩) (by assumption) ?_
                rotate_left
                · (intro w hSw; (try dsimp only at hSw); go_simp; first | done | with_reducible rfl)
                try simp only [List.setIfInBounds_toArray, List.set_cons_zero, List.set_cons_succ]
                refine reg_take (i := 6) (d := 69) (v := ?_) [] rfl rfl (by kernel_rfl) (by kernel_rfl) (fun _ _ _ h => h) (Or.inl ⟨by rfl, ?_⟩) (by assumption) ?_
                rotate_left
                · (intro w hSw; (try dsimp only at hSw); go_simp; first | done | with_reducible rfl)
                try simp only [List.setIfInBounds_toArray, List.set_cons_zero, List.set_cons_succ]
                refine wpAnyL_ready (rs := [3]) (by kernel_rfl) rfl ?_
                refine (AllL.cons rfl (fun K hK => ?_) AllL.nil)
                go_simp
                go_wp2_with (go_at_call 14; with_reducible refine (ackN_sep HT1.out.drew xn HY1.out).mono ?_; rintro e1 w2 ⟨rfl, hs2⟩; have HT2 := Lib.hid hs2.r3'; clear hs2)
                refine hK.out _ _ (HT2.out.h2.cell 1) (fun hHeld => ?_)
                try simp only [List.setIfInBounds_toArray, List.set_cons_zero, List.set_cons_succ]
                refine wpAnyL_ready (rs := [7]) (by kernel_rfl) rfl ?_
                refine (AllL.cons rfl (fun K hK => ?_) AllL.nil)
                go_simp
                go_wp2_with (go_at_call 15; with_reducible refine (rackN_sep HT2.out xn HY2.out).mono ?_; rintro e1 w3 ⟨rfl, hs3⟩; have HT3 := Lib.hid hs3; clear hs3)
                refine hK.out _ _ (HT3.out.h2.cell 1) (fun hHeld => ?_)
                try simp only [List.setIfInBounds_toArray, List.set_cons_zero, List.set_cons_succ]
                refine reg_take (i := 8) (d := 71) (v := ?_) [] rfl rfl (by kernel_rfl) (by kernel_rfl) (fun _ _ _ h => h) (Or.inl ⟨by rfl, ?_⟩) (by assumption) ?_
                rotate_left
                · (intro w hSw; (try dsimp only at hSw); go_simp; first | done | with_reducible rfl)
                try simp only [List.setIfInBounds_toArray, List.set_cons_zero, List.set_cons_succ]
                refine wpAnyL_done (by kernel_rfl) ?_ _
                go_wp2
                go_meet
                exact ⟨la, lb, L, t, by omega, by omega, HN.out, HT3.out.r3.d3⟩
            · have p1 : (xk == 1) = false := by simpa using hk1
              clear hk1
              go_wp2
              go_meet
              exact ⟨la, lb, L, t, htl, by omega, HN.out, HT1.out.d3⟩
        case rest =>
          clear HT HT1 HG8 HN r0 r1 r2 r3 r4 r5 r6 htl hLk
          obtain ⟨la, lb, L, t, htl, hLk, hnum, ht⟩ := hcut
          have HN := Lib.hid hnum
          have HT := Lib.hid ht
          clear hnum ht
          obtain ⟨n, hn2⟩ : ∃ n, L.length - t = n := ⟨_, rfl⟩
          have HLD := Lib.hid (show (L.drop t).length = n by rw [List.length_drop]; exact hn2)
          obtain ⟨vL, hvL⟩ : ∃ v : Int, bm + t + (L.drop t).length = v := ⟨_, rfl⟩
          have HVR := Lib.hid (show bm + L.length = vL by rw [← hvL, List.length_drop]; omega)
          have HVL := Lib.hid hvL
          have hnb : n ≤ 101 := by omega
          have HL48 := Lib.hid (show (L.drop t).length * 48 ≤ 140737488351232 by rw [List.length_drop]; omega)
          clear hvL
          go_upto_region 19 with (go_at_call 16; with_reducible refine (left_sep HT.out HL48.out n HLD.out).mono ?_; rintro e1 w2 ⟨A2, c2, rfl, hs2⟩; have HT2 := Lib.hid hs2.r3; clear hs2)
          refine wp_region_L (fun w' => w'.cell? ⟨bb, 2, none⟩ = some (.int .i64 (bm + t))) 21 (by kernel_rfl) (HT2.out.hd.blk.cell 2) (fun hHeld => ?_)
          refine reg_take (i := 0) (d := 74) (v := ?_) [] rfl rfl (by kernel_rfl) (by kernel_rfl) (fun _ _ _ h => h) (Or.inl ⟨by rfl, ?_⟩) (by assumption) ?_
          rotate_left
          · (intro w hSw; (try dsimp only at hSw); go_simp; first | done | with_reducible rfl)
          try simp only [List.setIfInBounds_toArray, List.set_cons_zero, List.set_cons_succ]
          refine reg_take (i := 1) (d := 75) (v := ?_) [] rfl rfl (by kernel_rfl) (by kernel_rfl) (fun _ _ _ h => h) (Or.inl ⟨by rfl, ?_⟩) (by assumption) ?_
          rotate_left
          · (intro w hSw; (try dsimp only at hSw); go_simp; first | done | with_reducible rfl)
          try simp only [List.setIfInBounds_toArray, List.set_cons_zero, List.set_cons_succ]
          refine wpAnyL_ready (rs := [2]) (by kernel_rfl) rfl ?_
          refine (AllL.cons rfl (fun K hK => ?_) AllL.nil)
          go_simp
          go_wp2_with (go_at_call 18; with_reducible refine (rleft_sep HT2.out.drew t HN.out rfl htl (by omega) n hn2).mono ?_; rintro e1 w3 ⟨A3, c3, rfl, hs3⟩; have HT3 := Lib.hid hs3; clear hs3)
          refine hK.out _ _ (HT3.out.h2.blk.cell 2) (fun hHeld => ?_)
          try simp only [List.setIfInBounds_toArray, List.set_cons_zero, List.set_cons_succ]
          refine wpAnyL_ready (rs := [3]) (by kernel_rfl) rfl ?_
          refine (AllL.cons rfl (fun K hK => ?_) AllL.nil)
          have RA2 := Lib.hid (show Rd w3 A2 (flat (L.drop t)) from own_rdn (show w3.ownsRow 0 tI 5 (.slice A2 n c2) n (flat (L.drop t)) from HT3.out.h3))
          have RA3 := Lib.hid (show Rd w3 A3 (flat (L.drop t)) from own_rdn (show w3.ownsRow 0 tI 5 (.slice A3 n c3) n (flat (L.drop t)) from HT3.out.hd))
          go_simp
          go_wp2_with (go_at_call 17; with_reducible refine (same_any A2 A3 n n c2 c3 (L.drop t) (L.drop t) _ HLD.out HLD.out RA2.out RA3.out (by omega) rfl).mono ?_; rintro e1 w4 ⟨rfl, q4, rfl⟩; have HT4 := Lib.hid (HT3.out.drewN q4))
          refine hK.out _ _ (HT4.out.h2.blk.cell 2) (fun hHeld => ?_)
          try simp only [List.setIfInBounds_toArray, List.set_cons_zero, List.set_cons_succ]
          refine reg_take (i := 4) (d := 78) (v := ?_) [] rfl rfl (by kernel_rfl) (by kernel_rfl) (fun _ _ _ h => h) (Or.inl ⟨by rfl, ?_⟩) (by assumption) ?_
          rotate_left
          · (intro w hSw; (try dsimp only at hSw); go_simp; first | done | with_reducible rfl)
          try simp only [List.setIfInBounds_toArray, List.set_cons_zero, List.set_cons_succ]
          refine reg_take (i := 5) (d := 79) (v := ?_) [] rfl rfl (by kernel_rfl) (by kernel_rfl) (fun _ _ _ h => h) (Or.inl ⟨by rfl, ?_⟩) (by assumption) ?_
          rotate_left
          · (intro w hSw; (try dsimp only at hSw); go_simp; first | done | with_reducible rfl)
          try simp only [List.setIfInBounds_toArray, List.set_cons_zero, List.set_cons_succ]
          refine reg_take (i := 6) (d := 80) (v := ?_) [] rfl rfl (by kernel_rfl) (by kernel_rfl) (fun _ _ _ h => h) (Or.inl ⟨by rfl, ?_⟩) (by assumption) ?_
          rotate_left
          · (intro w hSw; (try dsimp only at hSw); go_simp; first | done | with_reducible rfl)
          try simp only [List.setIfInBounds_toArray, List.set_cons_zero, List.set_cons_succ]
          refine reg_take (i := 8) (d := 82) (v := ?_) [] rfl rfl (by kernel_rfl) (by kernel_rfl) (fun _ _ _ h => h) (Or.inl ⟨by rfl, ?_⟩) (by assumption) ?_
          rotate_left
          · (intro w hSw; (try dsimp only at hSw); go_simp; first | done | with_reducible rfl)
          try simp only [List.setIfInBounds_toArray, List.set_cons_zero, List.set_cons_succ]
          refine wpAnyL_ready (rs := [7]) (by kernel_rfl) rfl ?_
          refine (AllL.cons rfl (fun K hK => ?_) AllL.nil)
          go_simp
          go_wp2_with (go_at_call 19; with_reducible refine (last_sep HT4.out.r4 vL HVL.out).mono ?_; rintro e1 w5 ⟨rfl, hs5⟩; have HT5 := Lib.hid hs5; clear hs5)
          refine hK.out _ _ (HT5.out.h3.blk.cell 2) (fun hHeld => ?_)
          try simp only [List.setIfInBounds_toArray, List.set_cons_zero, List.set_cons_succ]
          refine wpAnyL_ready (rs := [9]) (by kernel_rfl) rfl ?_
          refine (AllL.cons rfl (fun K hK => ?_) AllL.nil)
          go_simp
          go_wp2_with (go_at_call 20; with_reducible refine (rlast_sep HT5.out.r3 vL HVR.out).mono ?_; rintro e1 w6 ⟨rfl, hs6⟩; have HT6 := Lib.hid hs6; clear hs6)
          refine hK.out _ _ (HT6.out.hd.blk.cell 2) (fun hHeld => ?_)
          try simp only [List.setIfInBounds_toArray, List.set_cons_zero, List.set_cons_succ]
          refine reg_take (i := 10) (d := 84) (v := ?_) [] rfl rfl (by kernel_rfl) (by kernel_rfl) (fun _ _ _ h => h) (Or.inl ⟨by rfl, ?_⟩) (by assumption) ?_
          rotate_left
          · (intro w hSw; (try dsimp only at hSw); go_simp; first | done | with_reducible rfl)
          try simp only [List.setIfInBounds_toArray, List.set_cons_zero, List.set_cons_succ]
          refine reg_take (i := 11) (d := 85) (v := ?_) [] rfl rfl (by kernel_rfl) (by kernel_rfl) (fun _ _ _ h => h) (Or.inl ⟨by rfl, ?_⟩) (by assumption) ?_
          rotate_left
          · (intro w hSw; (try dsimp only at hSw); go_simp; first | done | with_reducible rfl)
          try simp only [List.setIfInBounds_toArray, List.set_cons_zero, List.set_cons_succ]
          refine reg_take (i := 12) (d := 86) (v := ?_) [] rfl rfl (by kernel_rfl) (by kernel_rfl) (fun _ _ _ h => h) (Or.inl ⟨by rfl, ?_⟩) (by assumption) ?_
          rotate_left
          · (intro w hSw; (try dsimp only at hSw); go_simp; first | done | with_reducible rfl)
          try simp only [List.setIfInBounds_toArray, List.set_cons_zero, List.set_cons_succ]
          refine reg_take (i := 13) (d := 87) (v := ?_) [] rfl rfl (by kernel_rfl) (by kernel_rfl) (fun _ _ _ h => h) (Or.inl ⟨by rfl, ?_⟩) (by assumption) ?_
          rotate_left
          · (intro w hSw; (try dsimp only at hSw); go_simp; first | done | with_reducible rfl)
          try simp only [List.setIfInBounds_toArray, List.set_cons_zero, List.set_cons_succ]
          refine reg_take (i := 15) (d := 89) (v := ?_) [] rfl rfl (by kernel_rfl) (by kernel_rfl) (fun _ _ _ h => h) (Or.inl ⟨by rfl, ?_⟩) (by assumption) ?_
          rotate_left
          · (intro w hSw; (try dsimp only at hSw); go_simp; first | done | with_reducible rfl)
          try simp only [List.setIfInBounds_toArray, List.set_cons_zero, List.set_cons_succ]
          refine reg_take (i := 16) (d := 90) (v := ?_) [] rfl rfl (by kernel_rfl) (by kernel_rfl) (fun _ _ _ h => h) (Or.inl ⟨by rfl, ?_⟩) (by assumption) ?_
          rotate_left
          · (intro w hSw; (try dsimp only at hSw); go_simp; first | done | with_reducible rfl)
          try simp only [List.setIfInBounds_toArray, List.set_cons_zero, List.set_cons_succ]
          refine reg_take (i := 17) (d := 91) (v := ?_) [] rfl rfl (by kernel_rfl) (by kernel_rfl) (fun _ _ _ h => h) (Or.inl ⟨by rfl, ?_⟩) (by assumption) ?_
          rotate_left
          · (intro w hSw; (try dsimp only at hSw); go_simp; first | done | with_reducible rfl)
          try simp only [List.setIfInBounds_toArray, List.set_cons_zero, List.set_cons_succ]
          refine reg_take (i := 18) (d := 92) (v := ?_) [] rfl rfl (by kernel_rfl) (by kernel_rfl) (fun _ _ _ h => h) (Or.inl ⟨by rfl, ?_⟩) (by assumption) ?_
          rotate_left
          · (intro w hSw; (try dsimp only at hSw); go_simp; first | done | with_reducible rfl)
          try simp only [List.setIfInBounds_toArray, List.set_cons_zero, List.set_cons_succ]
          refine wpAnyL_ready (rs := [14]) (by kernel_rfl) rfl ?_
          refine (AllL.cons rfl (fun K hK => ?_) AllL.nil)
          have SB6 := Lib.hid (show Blk w6 ba #[la, .int .i64 (bm + t)] 53 from (show Snd w6 0 ba la (L.drop t) (bm + t) from HT6.out.h2).blk)
          go_simp
          go_wp2_with (go_at_call 21; with_reducible refine (acked_any ba la (bm + t) _ SB6.out).mono ?_; rintro e1 w7 ⟨rfl, rfl⟩; have tok : True := trivial)
          refine hK.out _ _ (HT6.out.hd.blk.cell 2) (fun hHeld => ?_)
          try simp only [List.setIfInBounds_toArray, List.set_cons_zero, List.set_cons_succ]
          refine reg_take (i := 19) (d := 93) (v := ?_) [] rfl rfl (by kernel_rfl) (by kernel_rfl) (fun _ _ _ h => h) (Or.inl ⟨by rfl, ?_⟩) (by assumption) ?_
          rotate_left
          · (intro w hSw; (try dsimp only at hSw); go_simp; first | done | with_reducible rfl)
          try simp only [List.setIfInBounds_toArray, List.set_cons_zero, List.set_cons_succ]
          refine reg_take (i := 20) (d := 94) (v := ?_) [] rfl rfl (by kernel_rfl) (by kernel_rfl) (fun _ _ _ h => h) (Or.inl ⟨by rfl, ?_⟩) (by assumption) ?_
          rotate_left
          · (intro w hSw; (try dsimp only at hSw); go_simp; first | done | with_reducible rfl)
          try simp only [List.setIfInBounds_toArray, List.set_cons_zero, List.set_cons_succ]
          refine wpAnyL_done (by kernel_rfl) ?_ _
          skip
          have HT7 := Lib.hid (HT6.out.r4.d4)
          clear HT HT2 HT3 HT4 HT5 HT6 hHeld HLD HVR HVL HL48
          go_wp2_with fail
          go_loopg [97] n (fun gk s97 wr => ∃ (j : Nat) (ys : List Item), s97 = .int .i64 (j : Int) ∧ j ≤ n ∧ gk = n - j ∧ ys.length = n ∧ Sep w wr [tRow tI 5 (.slice A2 n c2) n (flat ys), tRSnd bb lb L bm (bm + t), tSnd ba la (L.drop t) (bm + t)])
          case atStart => exact ⟨0, L.drop t, rfl, by omega, by omega, by rw [List.length_drop]; exact hn2, HT7.out⟩
          case round =>
            clear HT7
            obtain ⟨j, ys, rfl, hj, hgj, hys, ht⟩ := hrel
            have HT := Lib.hid ht
            have HYS := Lib.hid hys
            clear ht hys
            by_cases hjn : j < n
            · have j1 : (j : Int) < (n : Int) := by omega
              have j0 : (0 : Int) ≤ (j : Int) := by omega
              have HO := Lib.hid (show wr.ownsRow 0 tI 5 (.slice A2 n c2) n (flat ys) from HT.out.hd)
              obtain ⟨g3, c3', hv⟩ := own_some HO.out (by omega)
              simp only [Value.slice.injEq, true_and] at hv
              obtain ⟨rfl, rfl⟩ := hv
              have hjy : j < ys.length := by rw [HYS.out]; exact hjn
              have y2 : wr.cell? ⟨g3, j * 5 + 2, none⟩ = some (.string ys[j].data) := own_cell HO.out (j * 5 + 2) _ (flat_get ys j 2 hjy (by decide))
              have f2 := own_frozen HO.out (by omega) (j * 5 + 2)
              have HS := Lib.hid (own_set HO.out (j * 5 + 2) (.string ⟨#[63]⟩))
              have HF := Lib.hid (flat_setd ys j hjy ⟨#[63]⟩)
              generalize hz : ys.set j { ys[j] with data := ⟨#[63]⟩ } = zs at HF
              have HZ := Lib.hid (show zs.length = n by rw [← hz, List.length_set]; exact HYS.out)
              clear hz
              generalize ys[j].data = dd at *
              go_wp2_with fail
              go_roundg (n - (j + 1))
              case measure => omega
              case rel =>
                have h := HS.out
                rw [HF.out] at h
                exact ⟨j + 1, zs, by push_cast; rfl, by omega, rfl, HZ.out, HT.out.op (t' := tRow tI 5 (.slice (some ⟨g3, 0, none⟩) n c2) n (flat zs)) h (Upd.setCell (S := fun k => (Value.slice (some ⟨g3, 0, none⟩) n c2).ownBlock = some k) (p := ⟨g3, j * 5 + 2, none⟩) (Upd.refl _ wr) (.inr rfl) (.string ⟨#[63]⟩)) (fun k hk => .inl hk)⟩
            · have j1 : decide ((j : Int) < (n : Int)) = false := by simp; omega
              have j2 : ¬ ((j : Int) < (n : Int)) := by omega
              go_wp2_with fail
              go_roundg (101 - (k + 1))
              case measure => omega
              case rel => exact ⟨k + 1, la, lb, L, t, by push_cast; rfl, by omega, rfl, htl, hLk, HN.out, HT.out.tail.sw⟩
      · have q2' : decide ((k : Int) < 100) = false := by simp; omega
        have q1'' : decide ((k : Int) < (n1 : Int)) = true := q1'
        go_wp2
        go_ret
        exact ⟨rfl, HT.out.bel⟩
    · have q1' : decide ((k : Int) < (n1 : Int)) = false := by have := HXL.out; simp; omega
      have q1n : decide (k < n1) = false := by have := HXL.out; simp; omega
      have q1l : n1 ≤ k := by have := HXL.out; omega
      have q1i : ¬ ((k : Int) < (n1 : Int)) := by have := HXL.out; omega
      go_wp2
      go_ret
      exact ⟨rfl, HT.out.bel⟩
end Go.Proofs.Ytgmehcefmoleoaa
