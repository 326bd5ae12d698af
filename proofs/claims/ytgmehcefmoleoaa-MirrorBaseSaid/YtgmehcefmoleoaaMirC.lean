/- The walk of MirrorBase. No condition but the row's own. -/
import Derived.Test.YtgmehcefmoleoaaMirB
import Derived.Deep.CutBlock
set_option linter.unusedVariables false
set_option linter.unusedSimpArgs false
namespace Go.Proofs.Ytgmehcefmoleoaa
open Go.RowKit

theorem ack_val (B b k : Nat) (lv : Value) (l : List Item) (acked seq : Int) (w : World) (hseq : seq = acked + k) (hs : Snd w B b lv l acked) (hk : 0 < k) (hk2 : k ≤ l.length) (hn : l.length * 48 ≤ 140737488351232) :
    Calls Try.prog 14 #[.pointer (some ⟨b, 0, none⟩), .int .i64 seq] w fun e w' => e = .returned (.bool true) ∧ ∃ lv', Snd w' B b lv' (l.drop k) (acked + k) ∧ Upd (fun k => k = b ∨ lv.ownBlock = some k) w w' ∧ (∀ g, lv'.ownBlock = some g → lv.ownBlock = some g ∨ w.heap.size ≤ g) := by
  rw [hseq]; exact ack_yes B b k lv l acked w hs hk hk2 hn

theorem Two.drewN {w W : World} {ba bb : Nat} {la lb : Value} {l1 l2 : List Item} {a1 a2 : Int} (h : Two w W ba bb la lb l1 a1 l2 a2) (n : Nat) : Two w (W.drewN n) ba bb la lb l1 a1 l2 a2 :=
  h.step (pw_drewN (Below.refl _ _) n)
theorem own_drewN {w : World} {base n sz : Nat} {e : TypeId} {v : Value} {xs : List Value} (h : w.ownsRow base e sz v n xs) (q : Nat) : (w.drewN q).ownsRow base e sz v n xs := h
theorem last_two {w W : World} {ba bb : Nat} {la lb : Value} {l1 l2 : List Item} {a1 a2 v : Int} (h : Two w W ba bb la lb l1 a1 l2 a2) (hv : a1 + l1.length = v) :
    Calls Try.prog 19 #[.pointer (some ⟨ba, 0, none⟩)] W fun e w' => e = .returned (.int .i64 v) ∧ ∃ k, w' = W.drewN k := by
  obtain ⟨A, c, rfl, _, _⟩ := own_rd h.a.own
  rw [← hv]
  exact last_any ba A l1.length c a1 W h.a.blk h.a.lo h.a.hi
theorem last_two' {w W : World} {ba bb : Nat} {la lb : Value} {l1 l2 : List Item} {a1 a2 v : Int} (h : Two w W ba bb la lb l1 a1 l2 a2) (q : Nat) (hv : a2 + l2.length = v) :
    Calls Try.prog 19 #[.pointer (some ⟨bb, 0, none⟩)] (W.drewN q) fun e w' => e = .returned (.int .i64 v) ∧ ∃ k, w' = (W.drewN q).drewN k := by
  obtain ⟨A, c, rfl, _, _⟩ := own_rd h.b.own
  rw [← hv]
  exact last_any bb A l2.length c a2 (W.drewN q) (h.b.blk.drewN q) h.b.lo h.b.hi

set_option maxRecDepth 100000 in
set_option maxHeartbeats 4000000 in
theorem w_MirrorBase (a0 : Int) (a1 : Option Addr) (n1 c1 : Nat) (w : World) (b0 : -9223372036854775808 ≤ a0 ∧ a0 ≤ 9223372036854775807) (b1 : Sh.Is w (.slice 64 (.pair (.int .i64) (.pair (.int .i64) (.pair (.pair (.int .i64) (.pair (.int .i64) (.pair .str (.pair (.int .i64) (.pair (.int .i64) .unit))))) .unit)))) [.slice a1 n1 c1]) :
    Calls Try.prog 8 #[.int .i64 a0, .slice a1 n1 c1] w fun e w' => e = .returned (.bool true) ∧ Below w.heap.size w w' := by
  obtain ⟨xs, xl, xr, xok⟩ := is_acts b1
  clear b1
  have HXL := Lib.hid xl; have HXR := Lib.hid xr; have HXO := Lib.hid xok
  clear xr xok xl
  by_cases g0 : a0 < 0
  · have k0 : decide (a0 < 0) = true := by simpa using g0
    go_enter Try.func8, Try.ntmps8
    go_wp2_with (go_at_call 9; refine (awake_any _).mono ?_; rintro e1 w1 ⟨rfl, B1⟩)
    go_ret
    exact ⟨rfl, B1⟩
  have k0 : decide (a0 < 0) = false := by simpa using g0
  by_cases g1 : 1099511627776 < a0
  · have k1 : decide (1099511627776 < a0) = true := by simpa using g1
    go_enter Try.func8, Try.ntmps8
    go_wp2_with (go_at_call 9; refine (awake_any _).mono ?_; rintro e1 w1 ⟨rfl, B1⟩)
    go_ret
    exact ⟨rfl, B1⟩
  have k1 : decide (1099511627776 < a0) = false := by simpa using g1
  have HMM := Lib.hid (show min (max a0 0) 4611686018427387904 = a0 by omega)
  have HM0 := Lib.hid (show min (max (0 : Int) 0) 4611686018427387904 = 0 by omega)
  go_enter Try.func8, Try.ntmps8
  go_upto_region 7 with (first
    | (go_at_call 9; refine (awake_any _).mono ?_; rintro e1 w1 ⟨rfl, B1⟩)
    | (go_at_call 10; with_reducible refine (mnew_any a0 _ b0).mono ?_; rintro e1 w2 ⟨rfl, rfl⟩; simp only [HMM.out])
    | (go_at_call 10; with_reducible refine (mnew_any 0 _ (by decide)).mono ?_; rintro e1 w3 ⟨rfl, rfl⟩; simp only [HM0.out, World.size_alloc]))
  have HT := Lib.hid (two_new w w1 a0 B1 (by omega) (by omega))
  have hbl : w.heap.size ≤ w1.heap.size := B1.size
  generalize (w1.alloc (.cells #[.slice none 0 0, .int .i64 a0] 53)).alloc (.cells #[.slice none 0 0, .int .i64 0] 53) = W0 at *
  clear B1
  generalize w1.heap.size + 1 = bb at *
  generalize w1.heap.size = ba at *
  go_loopg [7] 101 (fun gk s7 wr => ∃ (k : Nat) (la lb : Value) (l : List Item) (ac : Nat), s7 = .int .i64 (k : Int) ∧ k ≤ 100 ∧ gk = 101 - k ∧ ac + l.length ≤ k ∧ (∀ y ∈ l, 0 ≤ y.seq ∧ y.seq ≤ 200) ∧ Two w wr ba bb la lb (shift a0 l) (ac + a0) l ac)
  case atStart => exact ⟨0, _, _, [], 0, rfl, by omega, by omega, by simp, by simp, by simpa [shift] using HT.out⟩
  case round =>
    obtain ⟨k, la, lb, l, ac, rfl, hk, hgk, hal, hlo, ht⟩ := hrel
    have HLO := Lib.hid hlo
    clear hlo
    clear HT
    have HT := Lib.hid ht
    clear ht
    by_cases q1 : k < xs.length
    · have q1' : decide ((k : Int) < (n1 : Int)) = true := by have := HXL.out; simp; omega
      have q1i : (k : Int) < (n1 : Int) := by have := HXL.out; omega
      by_cases q2 : k < 100
      · have q2' : decide ((k : Int) < 100) = true := by simp; omega
        obtain ⟨b, o, rfl, r0, r1, r2, r3, r4, r5, r6⟩ := (HXR.out.below HT.out.bel).act k q1
        have hok := HXO.out _ (List.getElem_mem q1)
        generalize xs[k] = x at *
        obtain ⟨xk, xn, ⟨xs', xb, xd, xc, xm⟩⟩ := x
        simp only at r0 r1 r2 r3 r4 r5 r6
        have HOK := Lib.hid hok
        clear hok
        have HFR := Lib.hid (HT.out.fresh (Nat.le_refl _))
        have HT1 := Lib.hid (HT.out.step ((Below.refl _ _).alloc (Nat.le_refl _) (.cells #[.int .i64 xk, .int .i64 xn, .int .i64 xs', .int .i64 xb, .string xd, .int .i64 xc, .int .i64 xm] 31)))
        have HG := Lib.hid (Blk.new wr #[.int .i64 xk, .int .i64 xn, .int .i64 xs', .int .i64 xb, .string xd, .int .i64 xc, .int .i64 xm] 31)
        go_upto_block 2 with fail
        go_cut [] (fun wx => ∃ (la lb : Value) (l : List Item) (ac : Nat), ac + l.length ≤ k + 1 ∧ (∀ y ∈ l, 0 ≤ y.seq ∧ y.seq ≤ 200) ∧ Two w wx ba bb la lb (shift a0 l) (ac + a0) l ac)
        case first =>
          generalize wr.alloc (.cells #[.int .i64 xk, .int .i64 xn, .int .i64 xs', .int .i64 xb, .string xd, .int .i64 xc, .int .i64 xm] 31) = W at *
          generalize wr.heap.size = g8 at *
          clear r0 r1 r2 r3 r4 r5 r6 HT
          have d0 : W.cell? ⟨g8, 0, none⟩ = some (.int .i64 xk) := HG.out.cell 0
          have d1 : W.cell? ⟨g8, 1, none⟩ = some (.int .i64 xn) := HG.out.cell 1
          have d2 : W.cell? ⟨g8, 2, none⟩ = some (.int .i64 xs') := HG.out.cell 2
          have d3 : W.cell? ⟨g8, 3, none⟩ = some (.int .i64 xb) := HG.out.cell 3
          have d4 : W.cell? ⟨g8, 4, none⟩ = some (.string xd) := HG.out.cell 4
          have d5 : W.cell? ⟨g8, 5, none⟩ = some (.int .i64 xc) := HG.out.cell 5
          have d6 : W.cell? ⟨g8, 6, none⟩ = some (.int .i64 xm) := HG.out.cell 6
          by_cases hk0 : xk = 0
          · have p0 : (xk == 0) = true := by simp [hk0]
            clear hk0
            obtain ⟨vN, hvN⟩ : ∃ v : Int, (ac : Int) + a0 + (shift a0 l).length + 1 = v := ⟨_, rfl⟩
            obtain ⟨vM, hvM⟩ : ∃ v : Int, (ac : Int) + l.length + 1 = v := ⟨_, rfl⟩
            have hvNM : vN = vM + a0 := by rw [← hvN, ← hvM, shift_len]; omega
            have hsum : IntKind.i64.wrap (vM + a0) = vN := by rw [IntWalk.i64_in _ (by omega), hvNM]
            have HVN := Lib.hid hvN; have HVM := Lib.hid hvM; have HNM := Lib.hid hvNM
            clear hvN hvM hvNM
            go_wp2_with (first
              | (go_at_call 12; with_reducible refine (add_any w.heap.size ba la (shift a0 l) (ac + a0) ⟨xs', xb, xd, xc, xm⟩ _ HT1.out.a (by rw [shift_len]; omega) (by rw [shift_len]; omega)).mono ?_
                 rw [HVN.out]
                 rintro e1 w2 ⟨rfl, la2, S2, U2, F2⟩
                 have HT2 := Lib.hid (HT1.out.opA S2 U2 F2)
                 have hG2 := HG.out.upd U2 (fun e => by rcases e with e | e; exact HFR.out.1 e; exact HFR.out.2.2.1 e)
                 clear d0 d1 d2 d3 d4 d5 d6 S2 U2 F2
                 have d2 : w2.cell? ⟨g8, 2, none⟩ = some (.int .i64 xs') := hG2.cell 2
                 have d3 : w2.cell? ⟨g8, 3, none⟩ = some (.int .i64 xb) := hG2.cell 3
                 have d4 : w2.cell? ⟨g8, 4, none⟩ = some (.string xd) := hG2.cell 4
                 have d5 : w2.cell? ⟨g8, 5, none⟩ = some (.int .i64 xc) := hG2.cell 5
                 have d6 : w2.cell? ⟨g8, 6, none⟩ = some (.int .i64 xm) := hG2.cell 6
                 clear hG2)
              | (go_at_call 12; with_reducible refine (add_any w.heap.size bb lb l ac ⟨xs', xb, xd, xc, xm⟩ _ HT2.out.b (by omega) (by omega)).mono ?_
                 rw [HVM.out]
                 rintro e1 w3 ⟨rfl, lb3, S3, U3, F3⟩
                 have HT3 := Lib.hid (HT2.out.opB S3 U3 F3)
                 clear S3 U3 F3))
            go_meet
            refine ⟨la2, lb3, l ++ [⟨vM, xb, xd, xc, xm⟩], ac, by simp; omega, ?_, ?_⟩
            · have hv := HVM.out
              intro y hy
              rcases List.mem_append.1 hy with h | h
              · exact HLO.out y h
              · rw [List.mem_singleton] at h
                subst h
                simp only
                omega
            rw [shift_snoc]
            have h := HT3.out
            rw [HNM.out] at h
            exact h
          · have p0 : (xk == 0) = false := by simpa using hk0
            clear hk0
            by_cases hk1 : xk = 1
            · have p1 : (xk == 1) = true := by simp [hk1]
              clear hk1
              by_cases hn1 : 1099511627776 < xn
              · have p2 : decide (1099511627776 < xn) = true := by simpa using hn1
                go_wp2
                go_roundg (101 - (k + 1))
                case measure => omega
                case rel => exact ⟨k + 1, la, lb, l, ac, by push_cast; rfl, by omega, rfl, by omega, HLO.out, HT1.out⟩
              · have p2 : decide (1099511627776 < xn) = false := by simpa using hn1
                by_cases hn2 : xn < -1099511627776
                · have p3 : decide (xn < -1099511627776) = true := by simpa using hn2
                  go_wp2
                  go_roundg (101 - (k + 1))
                  case measure => omega
                  case rel => exact ⟨k + 1, la, lb, l, ac, by push_cast; rfl, by omega, rfl, by omega, HLO.out, HT1.out⟩
                · have p3 : decide (xn < -1099511627776) = false := by simpa using hn2
                  have hsum : IntKind.i64.wrap (xn + a0) = xn + a0 := IntWalk.i64_in _ (by omega)
                  have HS0 := Lib.hid d1
                  go_upto_region 18 with fail
                  by_cases hy : (ac : Int) < xn ∧ xn ≤ ac + l.length
                  · obtain ⟨j, hj⟩ : ∃ j : Nat, xn = ac + j := ⟨(xn - ac).toNat, by omega⟩
                    have HJ1 := Lib.hid (show xn + a0 = ac + a0 + j by omega)
                    have HJ2 := Lib.hid hj
                    have hjl : 0 < j ∧ j ≤ l.length := by omega
                    clear hj hy
                    go_region_held3 (fun w' => w'.cell? ⟨g8, 1, none⟩ = some (.int .i64 xn))
                      (first | exact HS0.out | exact HS2.out | exact HS3.out)
                      (first
                      | (go_at_call 14; with_reducible refine (ack_val w.heap.size ba j la (shift a0 l) (ac + a0) (xn + a0) _ HJ1.out (HT1.out.a.of_below ((Below.refl _ _).drew)) hjl.1 (by rw [shift_len]; omega) (by rw [shift_len]; omega)).mono ?_
                         rintro e1 w2 ⟨rfl, la2, S2, U2, F2⟩
                         have HT2 := Lib.hid ((HT1.out.step ((Below.refl _ _).drew)).opA S2 U2 F2)
                         have HG2 := Lib.hid (HG.out.drew.upd U2 (fun e => by rcases e with e | e; exact HFR.out.1 e; exact HFR.out.2.2.1 e))
                         have HS2 : Hid (w2.cell? ⟨g8, 1, none⟩ = some (.int .i64 xn)) := Lib.hid (HG2.out.cell 1)
                         clear S2 U2 F2)
                      | (go_at_call 14; with_reducible refine (ack_val w.heap.size bb j lb l ac xn _ HJ2.out HT2.out.b hjl.1 hjl.2 (by omega)).mono ?_
                         rintro e1 w3 ⟨rfl, lb3, S3, U3, F3⟩
                         have HT3 := Lib.hid (HT2.out.opB S3 U3 F3)
                         have HS3 : Hid (w3.cell? ⟨g8, 1, none⟩ = some (.int .i64 xn)) := Lib.hid ((HG2.out.upd U3 (fun e => by rcases e with e | e; exact HFR.out.2.1 e; exact HFR.out.2.2.2 e)).cell 1)
                         clear S3 U3 F3))
                    go_wp2
                    go_meet
                    refine ⟨la2, lb3, l.drop j, ac + j, by rw [List.length_drop]; omega, fun y hy => HLO.out y (List.mem_of_mem_drop hy), ?_⟩
                    have h := HT3.out
                    rw [shift_drop] at h
                    rw [show (((ac + j : Nat) : Int) + a0) = (ac : Int) + a0 + j by omega]
                    push_cast
                    exact h
                  · have HY1 := Lib.hid (show xn + a0 ≤ ac + a0 ∨ (ac : Int) + a0 + (shift a0 l).length < xn + a0 by rw [shift_len]; omega)
                    have HY2 := Lib.hid (show xn ≤ ac ∨ (ac : Int) + l.length < xn by omega)
                    clear hy
                    go_region_held3 (fun w' => w'.cell? ⟨g8, 1, none⟩ = some (.int .i64 xn))
                      (first | exact HS0.out | exact HS2.out | exact HS3.out)
                      (first
                      | (go_at_call 14; with_reducible refine (ack_no w.heap.size ba la (shift a0 l) (ac + a0) (xn + a0) _ (HT1.out.a.of_below ((Below.refl _ _).drew)) HY1.out).mono ?_
                         rintro e1 w2 ⟨rfl, B2⟩
                         have HT2 := Lib.hid ((HT1.out.step ((Below.refl _ _).drew)).step B2)
                         have HG2 := Lib.hid (HG.out.drew.upd (Upd.of_below (S := fun _ => False) B2) (fun h => h))
                         have HS2 : Hid (w2.cell? ⟨g8, 1, none⟩ = some (.int .i64 xn)) := Lib.hid (HG2.out.cell 1)
                         clear B2)
                      | (go_at_call 14; with_reducible refine (ack_no w.heap.size bb lb l ac xn _ HT2.out.b HY2.out).mono ?_
                         rintro e1 w3 ⟨rfl, B3⟩
                         have HT3 := Lib.hid (HT2.out.step B3)
                         have HS3 : Hid (w3.cell? ⟨g8, 1, none⟩ = some (.int .i64 xn)) := Lib.hid ((HG2.out.upd (Upd.of_below (S := fun _ => False) B3) (fun h => h)).cell 1)
                         clear B3))
                    go_wp2
                    go_meet
                    exact ⟨la, lb, l, ac, by omega, HLO.out, HT3.out⟩
            · have p1 : (xk == 1) = false := by simpa using hk1
              clear hk1
              go_wp2
              go_meet
              exact ⟨la, lb, l, ac, by omega, HLO.out, HT1.out⟩
        case rest =>
          clear HT HT1 HG HFR HLO r0 r1 r2 r3 r4 r5 r6 hal
          obtain ⟨la, lb, l, ac, hal, hlo, ht⟩ := hcut
          have HLO := Lib.hid hlo
          clear hlo
          have HT := Lib.hid ht
          clear ht
          obtain ⟨vA, hvA⟩ : ∃ v : Int, (ac : Int) + a0 + (shift a0 l).length = v := ⟨_, rfl⟩
          obtain ⟨vB, hvB⟩ : ∃ v : Int, (ac : Int) + l.length = v := ⟨_, rfl⟩
          have hvAB : vA = vB + a0 := by rw [← hvA, ← hvB, shift_len]; omega
          have hsum : IntKind.i64.wrap (vB + a0) = vA := by rw [IntWalk.i64_in _ (by omega), hvAB]
          have hsum2 : IntKind.i64.wrap ((ac : Int) + a0) = (ac : Int) + a0 := IntWalk.i64_in _ (by omega)
          have HVA := Lib.hid hvA; have HVB := Lib.hid hvB
          clear hvA hvB hvAB
          have hln : l.length ≤ 101 := by omega
          go_upto_region 24 with (first
            | (go_at_call 16; with_reducible refine (left_any w.heap.size ba la (shift a0 l) (ac + a0) _ HT.out.a.blk HT.out.a.own (by rw [shift_len]; omega)).mono ?_
               rw [shift_len]
               rintro e1 w2 ⟨v2, rfl, O2, B2⟩
               obtain ⟨A2, c2, rfl, _, R2⟩ := own_rd O2
               have HT2 := Lib.hid (HT.out.step B2)
               have HR2 := Lib.hid R2
               have hws2 := B2.size
               clear O2 B2 R2)
            | (go_at_call 16; with_reducible refine (left_any w.heap.size bb lb l ac _ HT2.out.b.blk HT2.out.b.own (by omega)).mono ?_
               rintro e1 w3 ⟨v3, rfl, O3, B3⟩
               have hv3 := own_rd O3
               obtain ⟨A3, c3, rfl, _, _⟩ := hv3
               have HT3 := Lib.hid (HT2.out.step B3)
               have HR3 := Lib.hid (HR2.out.below B3)
               have B3' := B3
               have HO3 := Lib.hid O3
               clear O3 B3)
            | (go_at_call 19; with_reducible refine (last_two HT3.out HVA.out).mono ?_
               rintro e1 w4 ⟨rfl, q4, rfl⟩)
            | (go_at_call 19; with_reducible refine (last_two' HT3.out q4 HVB.out).mono ?_
               rintro e1 w5 ⟨rfl, q5, rfl⟩)
            | (go_at_call 21; with_reducible refine (acked_any ba la (ac + a0) _ ?_).mono ?_
               · exact HT3.out.a.blk
               rintro e1 w6 ⟨rfl, rfl⟩)
            | (go_at_call 21; with_reducible refine (acked_any bb lb ac _ ?_).mono ?_
               · exact HT3.out.b.blk
               rintro e1 w7 ⟨rfl, rfl⟩))
          have HB2 := Lib.hid (show Below w2.heap.size w2 (w3.drewN (q4 + q5)) from pw_drewN B3' _)
          have HT4 := Lib.hid (HT3.out.drewN (q4 + q5))
          have HO4 := Lib.hid (own_drewN HO3.out (q4 + q5))
          have hwf := HT2.out.bel.size
          clear HT3 HO3 HR3 HT hsum hsum2 HVA HVB
          generalize w3.drewN (q4 + q5) = W3 at *
          go_loopg [122] l.length (fun gk s122 wr => ∃ j : Nat, s122 = .int .i64 (j : Int) ∧ j ≤ l.length ∧ gk = l.length - j ∧ Below w2.heap.size w2 wr ∧ Two w wr ba bb la lb (shift a0 l) (ac + a0) l ac ∧ wr.ownsRow w2.heap.size 29 5 (.slice A3 l.length c3) l.length (flat (shift a0 (l.take j) ++ l.drop j)))
          case atStart => exact ⟨0, rfl, by omega, by omega, HB2.out, HT4.out, by simpa [shift] using HO4.out⟩
          case round =>
            clear HB2 HT4 HO4
            obtain ⟨j, rfl, hj, hgj, hb2, ht4, ho4⟩ := hrel
            have HB2 := Lib.hid hb2; have HT4 := Lib.hid ht4; have HO4 := Lib.hid ho4
            clear hb2 ht4 ho4
            by_cases hjl : j < l.length
            · have hjl' : decide ((j : Int) < (l.length : Int)) = true := by simp; omega
              have hji : (j : Int) < (l.length : Int) := by omega
              obtain ⟨g3, c3', hv⟩ := own_some HO4.out (by omega)
              simp only [Value.slice.injEq, true_and] at hv
              obtain ⟨rfl, rfl⟩ := hv
              have hg3 := (HO4.out.lt g3 rfl).1
              have hitm : (shift a0 (l.take j) ++ l.drop j)[j]? = some l[j] := by
                rw [List.getElem?_append_right (by rw [shift_len, List.length_take]; omega), shift_len, List.length_take, Nat.min_eq_left (by omega), Nat.sub_self, List.getElem?_drop, Nat.add_zero, List.getElem?_eq_getElem hjl]
              have hlen : (shift a0 (l.take j) ++ l.drop j).length = l.length := by simp [shift_len]; omega
              have hitm' : (shift a0 (l.take j) ++ l.drop j)[j]'(by rw [hlen]; exact hjl) = l[j] := by
                have := List.getElem?_eq_getElem (l := shift a0 (l.take j) ++ l.drop j) (i := j) (by rw [hlen]; exact hjl)
                rw [hitm] at this
                exact (Option.some.inj this).symm
              have hset : (shift a0 (l.take j) ++ l.drop j).set j { l[j] with seq := l[j].seq + a0 } = shift a0 (l.take (j + 1)) ++ l.drop (j + 1) := by
                rw [List.set_append_right _ _ (by rw [shift_len, List.length_take]; omega), shift_len, List.length_take, Nat.min_eq_left (by omega), Nat.sub_self, List.take_add_one, List.getElem?_eq_getElem hjl, ← List.getElem_cons_drop hjl]
                show shift a0 (l.take j) ++ ({ l[j] with seq := l[j].seq + a0 } :: l.drop (j + 1)) = shift a0 (l.take j ++ [l[j]]) ++ l.drop (j + 1)
                rw [shift_snoc]; simp
              have hp : (shift a0 l)[j]'(by rw [shift_len]; exact hjl) = { l[j] with seq := l[j].seq + a0 } := by simp [shift]
              have hos := own_set HO4.out (j * 5) (.int .i64 (l[j].seq + a0))
              have hfs := flat_set (shift a0 (l.take j) ++ l.drop j) j (by rw [hlen]; exact hjl) (l[j].seq + a0)
              rw [hitm'] at hfs
              rw [hfs, hset] at hos
              obtain ⟨bq, oq, he, s0, z1, z2, z3, z4⟩ := (own_rdg HO4.out).item j (by rw [hlen]; exact hjl)
              simp only [Option.some.injEq, Addr.mk.injEq, and_true] at he
              obtain ⟨rfl, rfl⟩ := he
              rw [hitm', Nat.zero_add] at s0
              have hseq := HLO.out _ (List.getElem_mem hjl)
              have fz := own_frozen HO4.out (by omega) (j * 5)
              have hfr := HT2.out.fresh hg3
              have HT5 := Lib.hid (HT4.out.other (S := fun k => k = g3) ((Upd.refl (fun k => k = g3) wr).setCell (p := ⟨g3, j * 5, none⟩) (.inr rfl) (.int .i64 (l[j].seq + a0))) (fun k hk => by
                subst hk
                exact ⟨hfr.1, hfr.2.1, hfr.2.2.1, hfr.2.2.2, by omega⟩))
              have HB5 := Lib.hid (show Below w2.heap.size w2 (wr.setCell ⟨g3, j * 5, none⟩ (.int .i64 (l[j].seq + a0))) from HB2.out.setCell hg3 _)
              obtain ⟨bp, op, rfl, p0, p1, p2, p3, p4⟩ := (HR2.out.below HB5.out).item j (by rw [shift_len]; exact hjl)
              obtain ⟨bq, oq, he, u0, u1, u2, u3, u4⟩ := (own_rdg hos).item j (by rw [← hset, List.length_set, hlen]; exact hjl)
              simp only [Option.some.injEq, Addr.mk.injEq, and_true] at he
              obtain ⟨rfl, rfl⟩ := he
              have hq : (shift a0 (l.take (j + 1)) ++ l.drop (j + 1))[j]'(by rw [← hset, List.length_set, hlen]; exact hjl) = { l[j] with seq := l[j].seq + a0 } := by
                simp only [← hset, List.getElem_set_self]
              rw [hq] at u0 u1 u2 u3 u4
              rw [hp] at p0 p1 p2 p3 p4
              have HOS := Lib.hid hos
              have hsum : IntKind.i64.wrap (l[j].seq + a0) = l[j].seq + a0 := IntWalk.i64_in _ (by omega)
              clear z1 z2 z3 z4
              clear hos hfs hset hitm hitm' hlen hp hq hfr
              generalize l[j] = y at *
              obtain ⟨y0, y1, y2, y3, y4⟩ := y
              simp only [Nat.zero_add] at u0 u1 u2 u3 u4 p0 p1 p2 p3 p4 s0 hsum
              have i0 : (0 : Int) ≤ (j : Int) := by omega
              go_upto_region 27 with fail
              generalize wr.setCell ⟨g3, j * 5, none⟩ (.int .i64 (y0 + a0)) = W5 at *
              go_quiet (fail)
              go_wp2_with fail
              go_roundg (l.length - (j + 1))
              case measure => omega
              case rel => exact ⟨j + 1, by push_cast; rfl, by omega, rfl, pw_drewN HB5.out _, HT5.out.drewN _, own_drewN HOS.out _⟩
            · have hjl' : decide ((j : Int) < (l.length : Int)) = false := by simp; omega
              go_wp2_with fail
              go_roundg (101 - (k + 1))
              case measure => omega
              case rel => exact ⟨k + 1, la, lb, l, ac, by push_cast; rfl, by omega, rfl, by omega, HLO.out, HT4.out⟩
      · have q2' : decide ((k : Int) < 100) = false := by simp; omega
        have q1'' : decide ((k : Int) < (n1 : Int)) = true := q1'
        go_wp2
        go_ret
        exact ⟨rfl, HT.out.bel⟩
    · have q1' : decide ((k : Int) < (n1 : Int)) = false := by have := HXL.out; simp; omega
      have q1n : decide (k < n1) = false := by have := HXL.out; simp; omega
      have q1l : n1 ≤ k := by have := HXL.out; omega
      have q1i : ¬ ((k : Int) < (n1 : Int)) := by have := HXL.out; omega
      go_wp2
      go_ret
      exact ⟨rfl, HT.out.bel⟩
end Go.Proofs.Ytgmehcefmoleoaa
