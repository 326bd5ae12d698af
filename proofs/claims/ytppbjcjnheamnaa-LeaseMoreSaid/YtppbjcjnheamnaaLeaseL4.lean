/- The walk of the law LeaseMore: it returns true. Conditions: as its arguments are read. -/
import Derived.Test.YtppbjcjnheamnaaLeaseL3
set_option linter.unusedVariables false
set_option linter.unusedSimpArgs false
namespace Go.Proofs.Ytppbjcjnheamnaa
open Go.RowKit

theorem turns_range : ∀ (n j : Nat) (b : Bool), (decide (j % 2 = 0) = b) → turns n b = (List.range n).map fun i => decide ((j + i) % 2 = 0)
  | 0, _, _, _ => rfl
  | n + 1, j, b, h => by
    rw [List.range_succ_eq_map, List.map_cons, List.map_map, turns, turns_range n (j + 1) (!b) (by subst h; rw [← decide_not]; congr 1; rw [eq_iff_iff]; omega)]
    congr 1
    · rw [← h]; rfl
    · apply List.map_congr_left
      intro i _
      simp only [Function.comp, Nat.succ_eq_add_one]
      congr 3
      omega
theorem turns_true (n : Nat) : turns n true = (List.range n).map fun i => decide (i % 2 = 0) := by
  rw [turns_range n 0 true rfl]
  simp

set_option maxRecDepth 100000 in
theorem more_walk (a0 : Option Addr) (n0 c0 : Nat) (a1 : Int) (a2 : Int) (w : World) (b0 : Sh.Is w (.slice 1 .bool) [.slice a0 n0 c0]) (b1 : -9223372036854775808 ≤ a1 ∧ a1 ≤ 9223372036854775807) (b2 : -9223372036854775808 ≤ a2 ∧ a2 ≤ 9223372036854775807) :
    Calls Try.prog 8 #[.slice a0 n0 c0, .int .i64 a1, .int .i64 a2] w fun e w' => e = .returned (.bool true) ∧ Below w.heap.size w w' := by
  obtain ⟨xs, hl, hc, hnc, hr⟩ := is_bools b0
  clear b0
  have HR := Lib.hid hr; clear hr
  have HL := Lib.hid hl; clear hl
  by_cases hg : n0 ≤ 200 ∧ 0 ≤ a1 ∧ a2 ≤ 999 ∧ a1 ≤ a2
  · obtain ⟨g0, g1, g2, g3⟩ := hg
    have k0 : decide ((200 : Int) < n0) = false := by simp; omega
    have k1 : decide (a1 < 0) = false := by simp; omega
    have k2 : decide (999 < a2) = false := by simp; omega
    have k3 : decide (a2 < a1) = false := by simp; omega
    go_enter Try.func8, Try.ntmps8
    go_wp2_with (first
      | (go_at_call 9; refine (awake_any _).mono ?_; rintro e w1 ⟨rfl, hB1⟩))
    have ho := World.ownsRow_made (base := w.heap.size) (e := 4) (size := 1) w1 #[] 0 hB1.size (by decide) rfl
    go_loopw [7, 30] (fun v i wr => ∃ (k : Nat), k ≤ n0 ∧ i = .int .i64 k ∧ wr.ownsRow w.heap.size 4 1 v k ((List.range k).map fun x : Nat => Value.bool ((x : Int) % 2 == 0)) ∧ Below w.heap.size w wr) (fun _ i _ => n0 - (intOf i).toNat)
    case atStart => exact ⟨0, by omega, rfl, by simpa using ho, hB1.alloc hB1.size _⟩
    case round =>
      obtain ⟨k, hk, rfl, hown, hbel⟩ := hrel
      have HO := Lib.hid hown; clear hown ho
      have HB := Lib.hid hbel; clear hbel
      by_cases hlt : k < n0
      · have htk := Lib.hid (show (List.range (k + 1)).map (fun x : Nat => Value.bool ((x : Int) % 2 == 0)) = (List.range k).map (fun x : Nat => Value.bool ((x : Int) % 2 == 0)) ++ [Value.bool ((k : Int) % 2 == 0)] by rw [List.range_succ, List.map_append]; rfl)
        go_wp2_with (at_builtin; go_loud (refine app1 w.heap.size 22 4 (.bool false) 1 1 [.bool ((k : Int) % 2 == 0)] HO.out HB.out.size (by omega) Try.underlying22 Try.infoBool rfl (by decide) (by decide) rfl (by simp [Value.oneCell']) (.tmp 33) (.tmp 37) rfl rfl rfl rfl ?_); intro v1 w2 hown2 hg2 _)
        go_roundw
        case rel => exact ⟨k + 1, by omega, by go_num, by rw [htk.out]; exact hown2, HB.out.grown hg2 HB.out.size (fun b hb => (HO.out.lt b hb).1)⟩
        case measure => simp [intOf]; omega
      · have hkn : k = n0 := by omega
        subst hkn
        have HO2 := HO.out
        rw [show ((List.range k).map fun x : Nat => Value.bool ((x : Int) % 2 == 0)) = (turns k true).map Value.bool by rw [turns_true, List.map_map]; apply List.map_congr_left; intro i _; simp only [Function.comp]; congr 1; rw [Bool.eq_iff_iff]; simp; omega] at HO2
        obtain ⟨A2, c2, rfl, _, hr2⟩ := own_rd HO2
        have T1 := Lib.hid (fun W (hb : Below wr.heap.size wr W) => together_any A2 k c2 a1 (turns k true) W (turns_length _ _) g0 (hr2.below hb))
        rw [tog_turns g1 (by omega)] at T1
        have T2 := Lib.hid (fun W (hb : Below w.heap.size w W) => together_any a0 k c0 a1 xs W HL.out g0 (HR.out.below hb))
        have T3 := Lib.hid (fun W (hb : Below w.heap.size w W) => together_any a0 k c0 a2 xs W HL.out g0 (HR.out.below hb))
        have hpq := Lib.hid (tog_more xs a1 a2 g2 g3)
        generalize tog xs a1 = p at *
        generalize tog xs a2 = q at *
        clear hr2 HO2
        cases p
        · go_wp2_with (first
            | (go_at_call 12; (with_reducible refine (T1.out _ (Below.refl _ _)).mono ?_); rintro e w2 ⟨rfl, hB2⟩)
            | (go_at_call 12; (with_reducible refine (T2.out _ (HB.out.trans (hB2.mono HB.out.size))).mono ?_); rintro e w3 ⟨rfl, hB3⟩))
          go_ret
          exact ⟨rfl, HB.out.trans ((hB2.trans (hB3.mono hB2.size)).mono HB.out.size)⟩
        · have hq := hpq.out rfl
          subst hq
          clear hpq
          go_wp2_with (first
            | (go_at_call 12; (with_reducible refine (T1.out _ (Below.refl _ _)).mono ?_); rintro e w2 ⟨rfl, hB2⟩)
            | (go_at_call 12; (with_reducible refine (T2.out _ (HB.out.trans (hB2.mono HB.out.size))).mono ?_); rintro e w3 ⟨rfl, hB3⟩)
            | (go_at_call 12; (with_reducible refine (T3.out _ (HB.out.trans ((hB2.trans (hB3.mono hB2.size)).mono HB.out.size))).mono ?_); rintro e w4 ⟨rfl, hB4⟩))
          go_ret
          have hB5 : Below w.heap.size w w3 := HB.out.trans ((hB2.trans (hB3.mono hB2.size)).mono HB.out.size)
          exact ⟨rfl, hB5.trans (hB4.mono hB5.size)⟩
  · go_enter Try.func8, Try.ntmps8
    by_cases g0 : n0 ≤ 200
    · have k0 : decide ((200 : Int) < n0) = false := by simp; omega
      by_cases g1 : 0 ≤ a1
      · have k1 : decide (a1 < 0) = false := by simp; omega
        by_cases g2 : a2 ≤ 999
        · have k2 : decide (999 < a2) = false := by simp; omega
          have k3 : decide (a2 < a1) = true := by simp; omega
          go_wp2_with (first
            | (go_at_call 9; refine (awake_any _).mono ?_; rintro e w1 ⟨rfl, hB1⟩))
          go_ret
          exact ⟨rfl, hB1⟩
        · have k2 : decide (999 < a2) = true := by simp; omega
          go_wp2_with (first
            | (go_at_call 9; refine (awake_any _).mono ?_; rintro e w1 ⟨rfl, hB1⟩))
          go_ret
          exact ⟨rfl, hB1⟩
      · have k1 : decide (a1 < 0) = true := by simp; omega
        go_wp2_with (first
          | (go_at_call 9; refine (awake_any _).mono ?_; rintro e w1 ⟨rfl, hB1⟩))
        go_ret
        exact ⟨rfl, hB1⟩
    · have k0 : decide ((200 : Int) < n0) = true := by simp; omega
      go_wp2_with (first
        | (go_at_call 9; refine (awake_any _).mono ?_; rintro e w1 ⟨rfl, hB1⟩))
      go_ret
      exact ⟨rfl, hB1⟩
end Go.Proofs.Ytppbjcjnheamnaa
