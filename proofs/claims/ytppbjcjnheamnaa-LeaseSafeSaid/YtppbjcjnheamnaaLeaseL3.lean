/- The walks of the laws LeaseParts, LeaseMore: each returns true. Conditions: as its arguments are read. -/
import Derived.Test.YtppbjcjnheamnaaLeaseA
import Derived.Test.YtppbjcjnheamnaaRow
set_option linter.unusedVariables false
set_option linter.unusedSimpArgs false
namespace Go.Proofs.Ytppbjcjnheamnaa
open Go.RowKit

/-- The bools of a slice. -/
theorem is_bools {w : World} {A : Option Addr} {n c by_ : Nat} (h : Sh.Is w (.slice by_ .bool) [.slice A n c]) :
    ∃ xs : List Bool, xs.length = n ∧ c * by_ ≤ 140737488351232 ∧ n ≤ c ∧ Rd w A (xs.map Value.bool) := by
  obtain ⟨A', n', c', els, he, hl, hnc, hc, hr, hel⟩ := h
  simp only [List.cons.injEq, Value.slice.injEq, and_true] at he
  obtain ⟨rfl, rfl, rfl⟩ := he
  obtain ⟨ys, rfl, has⟩ := exists_map (f := fun x : Bool => [Value.bool x]) (p := fun _ => True) els (fun el hel' => by
    obtain ⟨x, rfl⟩ := (hel el hel').2
    exact ⟨x, rfl, trivial⟩)
  refine ⟨ys, by simpa using hl, hc, hnc, ?_⟩
  rwa [show (ys.map fun x : Bool => [Value.bool x]).flatten = ys.map Value.bool by clear has hl hel hr; induction ys <;> simp_all] at hr

theorem Try.infoBool : (Try.prog.info? 4).map (fun i => (i.zero, i.size, i.bytes)) = some (some (.bool false), 1, 1) := by kernel_rfl

set_option maxRecDepth 100000 in
theorem parts_walk (a0 : Option Addr) (n0 c0 : Nat) (a1 : Int) (a2 : Int) (a3 : Int) (w : World) (b0 : Sh.Is w (.slice 1 .bool) [.slice a0 n0 c0]) (b1 : 0 ≤ a1 ∧ a1 ≤ 255) (b2 : 0 ≤ a2 ∧ a2 ≤ 255) (b3 : -9223372036854775808 ≤ a3 ∧ a3 ≤ 9223372036854775807) :
    Calls Try.prog 5 #[.slice a0 n0 c0, .int .u8 a1, .int .u8 a2, .int .i64 a3] w fun e w' => e = .returned (.bool true) ∧ Below w.heap.size w w' := by
  obtain ⟨xs, hl, hc, hnc, hr⟩ := is_bools b0
  clear b0
  have HR := Lib.hid hr; clear hr
  have HL := Lib.hid hl; clear hl
  go_enter Try.func5, Try.ntmps5
  by_cases hn : 200 < n0
  · have hn' : decide ((200 : Int) < n0) = true := by simp; omega
    go_wp2_with (first
      | (go_at_call 9; refine (awake_any _).mono ?_; rintro e w1 ⟨rfl, hB1⟩))
    go_ret
    exact ⟨rfl, hB1⟩
  · have hn' : decide ((200 : Int) < n0) = false := by simp; omega
    go_wp2_with (first
      | (go_at_call 9; refine (awake_any _).mono ?_; rintro e w1 ⟨rfl, hB1⟩))
    have ho := World.ownsRow_made (base := w.heap.size) (e := 4) (size := 1) w1 #[] 0 hB1.size (by decide) rfl
    go_loopw [9, 22] (fun v i wr => ∃ (k : Nat), k ≤ n0 ∧ i = .int .i64 k ∧ wr.ownsRow w.heap.size 4 1 v k ((xs.take k).map fun x => Value.bool (!x)) ∧ Below w.heap.size w wr) (fun _ i _ => n0 - (intOf i).toNat)
    case atStart => exact ⟨0, by omega, rfl, by simpa using ho, hB1.alloc hB1.size _⟩
    case round =>
      obtain ⟨k, hk, rfl, hown, hbel⟩ := hrel
      have HO := Lib.hid hown; clear hown ho
      have HB := Lib.hid hbel; clear hbel
      by_cases hlt : k < n0
      · have hk3 : k < xs.length := by rw [HL.out]; exact hlt
        obtain ⟨b, o, hA, hck⟩ := (HR.out.below HB.out).at_ k hk3
        have htk := Lib.hid (show (xs.take (k + 1)).map (fun x => Value.bool (!x)) = (xs.take k).map (fun x => Value.bool (!x)) ++ [Value.bool (!xs[k])] by rw [List.take_succ_eq_append_getElem hk3, List.map_append]; rfl)
        generalize xs[k] = y at *
        subst hA
        go_wp2_with (at_builtin; go_loud (refine app1 w.heap.size 22 4 (.bool false) 1 1 [.bool (!y)] HO.out HB.out.size (by omega) Try.underlying22 Try.infoBool rfl (by decide) (by decide) rfl (by simp [Value.oneCell']) (.tmp 25) (.tmp 31) rfl rfl rfl rfl ?_); intro v1 w2 hown2 hg2 _)
        go_roundw
        case rel => exact ⟨k + 1, by omega, by go_num, by rw [htk.out]; exact hown2, HB.out.grown hg2 HB.out.size (fun b hb => (HO.out.lt b hb).1)⟩
        case measure => simp [intOf]; omega
      · have hkn : k = n0 := by omega
        subst hkn
        have HO2 := HO.out
        rw [List.take_of_length_le (by rw [HL.out]; omega), ← Function.comp_def Value.bool (!·), ← List.map_map] at HO2
        obtain ⟨A2, c2, rfl, _, hr2⟩ := own_rd HO2
        have T1 := Lib.hid (fun W (hb : Below w.heap.size w W) => together_any a0 k c0 a3 xs W HL.out (by omega) (HR.out.below hb))
        have T2 := Lib.hid (fun W (hb : Below wr.heap.size wr W) => together_any A2 k c2 a3 (xs.map (!·)) W (by rw [List.length_map, HL.out]) (by omega) (hr2.below hb))
        have T3 := Lib.hid (fun (h : tog xs a3 = true) (W : World) (hb : Below w.heap.size w W) (p n' c' : Nat) (hp : p + n' ≤ k) => by
          have := together_any (a0.map fun x => x.add p) n' c' a3 ((xs.drop p).take n') W (by rw [List.length_take, List.length_drop, HL.out]; omega) (by omega) (by rw [List.map_take, List.map_drop]; exact ((HR.out.below hb).drop p).take n')
          rwa [tog_part xs a3 p n' h] at this : tog xs a3 = true → ∀ W, Below w.heap.size w W → ∀ p n' c', p + n' ≤ k → Calls Try.prog 12 #[.slice (a0.map fun x => x.add p) n' c', .int .i64 a3] W fun e w' => e = .returned (.bool true) ∧ Below W.heap.size W w')
        have T4 := Lib.hid (fun (h : tog xs a3 = true) (W : World) (n' c' : Nat) (hp : n' = 0) => by
          have := together_any a0 n' c' a3 ((xs.drop 0).take n') W (by simp [hp]) (by omega) (by subst hp; exact Rd.nil _ _)
          rwa [tog_part xs a3 0 n' h] at this : tog xs a3 = true → ∀ W n' c', n' = 0 → Calls Try.prog 12 #[.slice a0 n' c', .int .i64 a3] W fun e w' => e = .returned (.bool true) ∧ Below W.heap.size W w')
        rw [tog_not] at T2
        generalize tog xs a3 = p at *
        clear hr2 HO2
        cases p
        · go_wp2_with (first
            | (go_at_call 12; (with_reducible refine (T1.out _ HB.out).mono ?_); rintro e w2 ⟨rfl, hB2⟩)
            | (go_at_call 12; (with_reducible refine (T2.out _ hB2).mono ?_); rintro e w3 ⟨rfl, hB3⟩))
          all_goals
            go_ret
            exact ⟨rfl, HB.out.trans ((hB2.trans (hB3.mono hB2.size)).mono HB.out.size)⟩
        · have T5 := Lib.hid (T3.out rfl)
          have T6 := Lib.hid (T4.out rfl)
          clear T3 T4
          go_wp2_with (first
            | (go_at_call 12; (with_reducible refine (T1.out _ HB.out).mono ?_); rintro e w2 ⟨rfl, hB2⟩)
            | (go_at_call 12; (with_reducible refine (T2.out _ hB2).mono ?_); rintro e w3 ⟨rfl, hB3⟩))
          all_goals
            have hB4 : Below w.heap.size w w3 := HB.out.trans ((hB2.trans (hB3.mono hB2.size)).mono HB.out.size)
            first
              | ((with_reducible refine (T5.out _ hB4 _ _ _ ?_).mono ?_)
                 · omega
                 · rintro e w4 ⟨rfl, hB5⟩
                   go_wp2
                   go_ret
                   exact ⟨rfl, hB4.trans (hB5.mono hB4.size)⟩)
              | ((with_reducible refine (T6.out _ _ _ ?_).mono ?_)
                 · omega
                 · rintro e w4 ⟨rfl, hB5⟩
                   go_wp2
                   go_ret
                   exact ⟨rfl, hB4.trans (hB5.mono hB4.size)⟩)
end Go.Proofs.Ytppbjcjnheamnaa
