/- The walk of the law's 'same': are two rows of items equal? Conditions: both rows read as items. -/
import Derived.Test.YtgmehcefmoleoaaMirL1
import Derived.Laws.StructEq
set_option linter.unusedVariables false
set_option linter.unusedSimpArgs false
namespace Go.Proofs.Ytgmehcefmoleoaa
open Go.RowKit

theorem same_any (A B : Option Addr) (n m c d : Nat) (xs ys : List Item) (w : World) (hx : xs.length = n) (hy : ys.length = m) (rx : Rd w A (flat xs)) (ry : Rd w B (flat ys)) (hn : n ≤ 140737488351232) (he : xs = ys) :
    Calls Try.prog 17 #[.slice A n c, .slice B m d] w fun e w' => e = .returned (.bool true) ∧ ∃ k, w' = w.drewN k := by
  have HX := Lib.hid hx; clear hx
  have HY := Lib.hid hy; clear hy
  have RX := Lib.hid rx; clear rx
  have RY := Lib.hid ry; clear ry
  obtain rfl : m = n := by rw [← HY.out, ← HX.out, he]
  have HE := Lib.hid he; clear he
  have k0 : ((m : Int) != (m : Int)) = false := by simp
  go_enter Try.func17, Try.ntmps17
  go_wp2
  go_loopw [13] (fun i wr => ∃ k q : Nat, k ≤ m ∧ i = .int .i64 k ∧ wr = w.drewN q) (fun i _ => m - (intOf i).toNat)
  case atStart => exact ⟨0, 0, by omega, rfl, rfl⟩
  case round =>
    obtain ⟨k, q, hk, rfl, rfl⟩ := hrel
    by_cases hlt : k < m
    · have hk1 : k < xs.length := by rw [HX.out]; exact hlt
      have hk2 : k < ys.length := by rw [HY.out]; exact hlt
      have hxy : xs[k] = ys[k] := by have := HE.out; subst this; rfl
      obtain ⟨b, o, rfl, rc⟩ := RX.out (by intro e; have := flat_length xs; rw [e] at this; simp at this; omega)
      obtain ⟨b2, o2, rfl, sc⟩ := RY.out (by intro e; have := flat_length ys; rw [e] at this; simp at this; omega)
      have r0 := rc (k * 5 + 0) (.int .i64 xs[k].seq) (flat_get xs k 0 hk1 (by decide))
      have r1 := rc (k * 5 + 1) (.int .i64 xs[k].blk) (flat_get xs k 1 hk1 (by decide))
      have r2 := rc (k * 5 + 2) (.string xs[k].data) (flat_get xs k 2 hk1 (by decide))
      have r3 := rc (k * 5 + 3) (.int .i64 xs[k].cl) (flat_get xs k 3 hk1 (by decide))
      have r4 := rc (k * 5 + 4) (.int .i64 xs[k].n) (flat_get xs k 4 hk1 (by decide))
      have s0 := sc (k * 5 + 0) (.int .i64 ys[k].seq) (flat_get ys k 0 hk2 (by decide))
      have s1 := sc (k * 5 + 1) (.int .i64 ys[k].blk) (flat_get ys k 1 hk2 (by decide))
      have s2 := sc (k * 5 + 2) (.string ys[k].data) (flat_get ys k 2 hk2 (by decide))
      have s3 := sc (k * 5 + 3) (.int .i64 ys[k].cl) (flat_get ys k 3 hk2 (by decide))
      have s4 := sc (k * 5 + 4) (.int .i64 ys[k].n) (flat_get ys k 4 hk2 (by decide))
      rw [← hxy] at s0 s1 s2 s3 s4
      generalize xs[k] = x at *
      clear rc sc hxy
      simp only [Nat.add_zero, ← Nat.add_assoc] at r0 r1 r2 r3 r4 s0 s1 s2 s3 s4
      obtain ⟨xs0, xb, xd, xc, xn⟩ := x
      simp only at r0 r1 r2 r3 r4 s0 s1 s2 s3 s4
      have i1 : (k : Int) < (m : Int) := by omega
      have i0 : (0 : Int) ≤ (k : Int) := by omega
      go_wp2_with fail
      go_quiet (fail)
      go_wp2_with fail
      go_roundw
      case rel => exact ⟨k + 1, q + nq, by omega, by go_num, rfl⟩
      case measure => simp [intOf]; omega
    · go_wp2
      go_ret
      exact ⟨rfl, q, rfl⟩

/-- The items of a slice of them. -/
def Item.ok (x : Item) : Prop := (-9223372036854775808 ≤ x.seq ∧ x.seq ≤ 9223372036854775807) ∧ (-9223372036854775808 ≤ x.blk ∧ x.blk ≤ 9223372036854775807) ∧ (-9223372036854775808 ≤ x.cl ∧ x.cl ≤ 9223372036854775807) ∧ (-9223372036854775808 ≤ x.n ∧ x.n ≤ 9223372036854775807)
theorem is_item {w : World} {cs : List Value} (h : Sh.Is w (.pair (.int .i64) (.pair (.int .i64) (.pair .str (.pair (.int .i64) (.pair (.int .i64) .unit))))) cs) : ∃ x : Item, cs = x.cells ∧ x.ok := by
  obtain ⟨_, _, rfl, ⟨a, rfl, ha⟩, _, _, rfl, ⟨b, rfl, hb⟩, _, _, rfl, ⟨c, rfl, _⟩, _, _, rfl, ⟨d, rfl, hd⟩, _, _, rfl, ⟨e, rfl, he⟩, rfl⟩ := h
  exact ⟨⟨a, b, c, d, e⟩, rfl, bd_i64 ha, bd_i64 hb, bd_i64 hd, bd_i64 he⟩
theorem is_items {w : World} {A : Option Addr} {n c by_ : Nat} (h : Sh.Is w (.slice by_ (.pair (.int .i64) (.pair (.int .i64) (.pair .str (.pair (.int .i64) (.pair (.int .i64) .unit)))))) [.slice A n c]) :
    ∃ xs : List Item, xs.length = n ∧ c * by_ ≤ 140737488351232 ∧ n ≤ c ∧ Rd w A (flat xs) ∧ ∀ x ∈ xs, x.ok := by
  obtain ⟨A', n', c', els, he, hl, hnc, hc, hr, hel⟩ := h
  simp only [List.cons.injEq, Value.slice.injEq, and_true] at he
  obtain ⟨rfl, rfl, rfl⟩ := he
  obtain ⟨ys, rfl, has⟩ := exists_map (f := Item.cells) (p := Item.ok) els (fun el hel' => is_item (hel el hel').2)
  exact ⟨ys, by simpa using hl, hc, hnc.1, hr, has⟩
/-- An item's cells in a row. -/
theorem Rd.item {w : World} {A : Option Addr} {xs : List Item} (h : Rd w A (flat xs)) (k : Nat) (hk : k < xs.length) :
    ∃ b o, A = some ⟨b, o, none⟩ ∧ w.cell? ⟨b, o + k * 5, none⟩ = some (.int .i64 xs[k].seq) ∧ w.cell? ⟨b, o + k * 5 + 1, none⟩ = some (.int .i64 xs[k].blk) ∧ w.cell? ⟨b, o + k * 5 + 2, none⟩ = some (.string xs[k].data) ∧ w.cell? ⟨b, o + k * 5 + 3, none⟩ = some (.int .i64 xs[k].cl) ∧ w.cell? ⟨b, o + k * 5 + 4, none⟩ = some (.int .i64 xs[k].n) := by
  obtain ⟨b, o, e, rc⟩ := h (by intro e; have := flat_length xs; rw [e] at this; simp at this; omega)
  exact ⟨b, o, e, rc (k * 5 + 0) _ (flat_get xs k 0 hk (by decide)), rc (k * 5 + 1) _ (flat_get xs k 1 hk (by decide)), rc (k * 5 + 2) _ (flat_get xs k 2 hk (by decide)), rc (k * 5 + 3) _ (flat_get xs k 3 hk (by decide)), rc (k * 5 + 4) _ (flat_get xs k 4 hk (by decide))⟩
end Go.Proofs.Ytgmehcefmoleoaa
