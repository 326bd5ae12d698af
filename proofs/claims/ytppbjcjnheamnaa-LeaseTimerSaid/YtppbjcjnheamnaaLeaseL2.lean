/- The walk of the law LeaseTimer: it returns true. Conditions: as its arguments are read. -/
import Derived.Test.YtppbjcjnheamnaaLeaseA
import Derived.Test.YtppbjcjnheamnaaRow
set_option linter.unusedVariables false
set_option linter.unusedSimpArgs false
namespace Go.Proofs.Ytppbjcjnheamnaa
open Go.RowKit

/-- The numbers of a slice of int64. -/
theorem is_i64s {w : World} {A : Option Addr} {n c by_ : Nat} (h : Sh.Is w (.slice by_ (.int .i64)) [.slice A n c]) :
    ∃ xs : List Int, xs.length = n ∧ c * by_ ≤ 140737488351232 ∧ n ≤ c ∧ Rd w A (xs.map (Value.int .i64)) ∧ ∀ x ∈ xs, -9223372036854775808 ≤ x ∧ x ≤ 9223372036854775807 := by
  obtain ⟨A', n', c', els, he, hl, hnc, hc, hr, hel⟩ := h
  simp only [List.cons.injEq, Value.slice.injEq, and_true] at he
  obtain ⟨rfl, rfl, rfl⟩ := he
  obtain ⟨ys, rfl, has⟩ := exists_map (f := fun x : Int => [Value.int .i64 x]) (p := fun x => -9223372036854775808 ≤ x ∧ x ≤ 9223372036854775807) els (fun el hel' => by
    obtain ⟨x, rfl, hx⟩ := (hel el hel').2
    exact ⟨x, rfl, bd_i64 hx⟩)
  refine ⟨ys, by simpa using hl, hc, hnc, ?_, has⟩
  rwa [show (ys.map fun x : Int => [Value.int .i64 x]).flatten = ys.map (Value.int .i64) by clear has hl hel hr; induction ys <;> simp_all] at hr

set_option maxRecDepth 100000 in
theorem timer_walk (a0 : Int) (a1 : Option Addr) (n1 c1 : Nat) (w : World) (b0 : -9223372036854775808 ≤ a0 ∧ a0 ≤ 9223372036854775807) (b1 : Sh.Is w (.slice 8 (.int .i64)) [.slice a1 n1 c1]) :
    Calls Try.prog 6 #[.int .i64 a0, .slice a1 n1 c1] w fun e w' => e = .returned (.bool true) ∧ Below w.heap.size w w' := by
  obtain ⟨xs, hl, hc, hnc, hr, hxs⟩ := is_i64s b1
  clear b1
  have HR := Lib.hid hr; clear hr
  have HX := Lib.hid hxs; clear hxs
  have HL := Lib.hid hl; clear hl
  go_enter Try.func6, Try.ntmps6
  go_wp2_with (first
    | (go_at_call 9; refine (awake_any _).mono ?_; rintro e w1 ⟨rfl, hB1⟩)
    | (go_at_call 14; refine (left_any _ 0 _ (by simp [go_sem])).mono ?_; rintro e w' ⟨rfl, rfl⟩)
    | (go_at_call 13; refine (on_any _ 0 _ (by simp [go_sem])).mono ?_; rintro e w' ⟨rfl, rfl⟩; simp only [show decide ((0 : Int) < 0) = false from rfl])
    | (go_at_call 15; refine (set_any _ _ 0 _ (by simp [go_sem]) (by simp [go_sem])).mono ?_; rintro e w' ⟨rfl, rfl⟩))
  all_goals
    go_loopw [6, 7] (fun l i wr => ∃ (k : Nat) (x : Int), k ≤ n1 ∧ k ≤ 200 ∧ i = .int .i64 k ∧ l = .int .i64 x ∧ 0 ≤ x ∧ x ≤ 9223372036854775807 ∧ wr.cell? ⟨w1.heap.size, 0, none⟩ = some (.int .i64 x) ∧ wr.frozen? ⟨w1.heap.size, 0, none⟩ = false ∧ Below w.heap.size w wr) (fun _ i _ => n1 - (intOf i).toNat)
    case atStart =>
      refine ⟨0, max a0 0, by omega, by omega, rfl, ?_, by omega, by omega, by simp [go_sem], by simp [go_sem], hB1.alloc hB1.size _⟩
      congr 1
      omega
    case round =>
      obtain ⟨k, x, hk, hk2, rfl, rfl, hx0, hx1, hcell, hfro, hbel⟩ := hrel
      have HB := Lib.hid hbel; clear hbel
      by_cases h1 : k < n1
      · by_cases h2 : k < 200
        · have hk3 : k < xs.length := by rw [HL.out]; exact h1
          obtain ⟨b, o, hA, hck0⟩ := HR.out.at_ k hk3
          have hbw := World.block_lt_of_cell? w _ hck0
          have hck := (HB.out.cell hbw).trans hck0
          have hne : w1.heap.size ≠ b := by have := hB1.size; simp only at hbw; omega
          have s2 : ∀ v, (wr.setCell ⟨w1.heap.size, 0, none⟩ v).cell? ⟨b, o + k, none⟩ = some (.int .i64 xs[k]) := fun v => (set_far hne v).trans hck
          clear hck0 hne
          have hxb := HX.out _ (List.getElem_mem hk3)
          generalize xs[k] = y at *
          subst hA
          have s1 : ∀ v, (wr.setCell ⟨w1.heap.size, 0, none⟩ v).cell? ⟨w1.heap.size, 0, none⟩ = some v := fun v => set_same hcell v
          by_cases hy : y = 0
          · subst hy
            go_wp2_with (first
              | (go_at_call 14; refine (left_any _ _ _ (s1 _)).mono ?_; rintro e w' ⟨rfl, rfl⟩)
              | (go_at_call 13; refine (on_any _ _ _ (s1 _)).mono ?_; rintro e w' ⟨rfl, rfl⟩)
              | (go_at_call 16; refine (tick_any _ x _ hcell hfro hx0 hx1).mono ?_; rintro e w' ⟨rfl, rfl⟩))
            all_goals
              go_roundw
              case rel => exact ⟨k + 1, _, by omega, by omega, by go_num, rfl, by omega, by omega, by first | (rw [s1]; done) | (rw [s1]; congr 1; congr 1; omega), by simp [hfro], HB.out.setCell (hB1.size) _⟩
              case measure => simp [intOf]; omega
          · have hy' : (y == 0) = false := by simpa using hy
            go_wp2_with (first
              | (go_at_call 14; refine (left_any _ _ _ (s1 _)).mono ?_; rintro e w' ⟨rfl, rfl⟩)
              | (go_at_call 13; refine (on_any _ _ _ (s1 _)).mono ?_; rintro e w' ⟨rfl, rfl⟩)
              | (go_at_call 15; refine (set_any _ y x _ hcell hfro).mono ?_; rintro e w' ⟨rfl, rfl⟩))
            all_goals
              go_roundw
              case rel => exact ⟨k + 1, _, by omega, by omega, by go_num, rfl, by omega, by omega, by first | (rw [s1]; done) | (rw [s1]; congr 1; congr 1; omega), by simp [hfro], HB.out.setCell (hB1.size) _⟩
              case measure => simp [intOf]; omega
        · have h2' : decide ((k : Int) < 200) = false := by simp; omega
          go_wp2
          go_ret
          exact ⟨rfl, HB.out⟩
      · have h1' : decide (k < n1) = false := by simp; omega
        go_wp2
        go_ret
        exact ⟨rfl, HB.out⟩
end Go.Proofs.Ytppbjcjnheamnaa
