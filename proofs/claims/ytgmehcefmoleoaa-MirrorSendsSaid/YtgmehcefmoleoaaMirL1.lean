/- The walks of the laws MirrorNext, MirrorElder: each returns true. Conditions: as their arguments are read. -/
import Derived.Test.YtgmehcefmoleoaaMirA
import Derived.Test.YtgmehcefmoleoaaRow
set_option linter.unusedVariables false
set_option linter.unusedSimpArgs false
namespace Go.Proofs.Ytgmehcefmoleoaa
open Go.RowKit

theorem is_version {w : World} {a : Array Value} (h : Sh.Is w (.pair (.int .i64) (.pair (.int .i64) .unit)) a.toList) :
    ∃ e s : Int, a = #[.int .i64 e, .int .i64 s] ∧ (-9223372036854775808 ≤ e ∧ e ≤ 9223372036854775807) ∧ (-9223372036854775808 ≤ s ∧ s ≤ 9223372036854775807) := by
  obtain ⟨c1, c2, h1, ⟨e, rfl, he⟩, c3, c4, rfl, ⟨s, rfl, hs⟩, rfl⟩ := h
  refine ⟨e, s, ?_, bd_i64 he, bd_i64 hs⟩
  apply Array.ext'
  simpa using h1

set_option maxRecDepth 100000 in
theorem mnext_walk (a0 : Array Value) (a1 : Int) (a2 : Int) (w : World) (b0 : Sh.Is w (.pair (.int .i64) (.pair (.int .i64) .unit)) a0.toList) (b1 : -9223372036854775808 ≤ a1 ∧ a1 ≤ 9223372036854775807) (b2 : -9223372036854775808 ≤ a2 ∧ a2 ≤ 9223372036854775807) :
    Calls Try.prog 4 #[.agg a0, .int .i64 a1, .int .i64 a2] w fun e w' => e = .returned (.bool true) ∧ Below w.heap.size w w' := by
  obtain ⟨e, s, rfl, he, hs⟩ := is_version b0
  clear b0
  go_enter Try.func4, Try.ntmps4
  go_wp2_with fail
  refine (awake_any _).mono ?_
  rintro e1 w1 ⟨rfl, B1⟩
  have V1 : Blk w1 w.heap.size #[.int .i64 e, .int .i64 s] 44 := (Blk.new w _ _).upd (Upd.of_below (S := fun _ => False) B1) (fun h => h)
  have HB := Lib.hid (((Below.refl _ w).alloc (Nat.le_refl _) _).trans (B1.mono (by simp))); clear B1
  have HV := Lib.hid V1
  have v0 : w1.cell? ⟨w.heap.size, 0, none⟩ = some (.int .i64 e) := V1.cell 0
  have v1 : w1.cell? ⟨w.heap.size, 1, none⟩ = some (.int .i64 s) := V1.cell 1
  clear V1
  generalize hx : nextM e s a1 a2 = x
  have HX := Lib.hid hx; clear hx
  go_wp2_with fail
  go_region_law (first
    | (go_simp; go_at_call 22; refine (next_any e s a1 a2 _ he hs b1 b2).mono ?_; rintro e2 w2 ⟨rfl, B2⟩; have V2 := (HV.out.drew).upd (Upd.of_below (S := fun _ => False) B2) (fun h => h); have v2 : w2.cell? ⟨w.heap.size, 0, none⟩ = some (.int .i64 e) := V2.cell 0; have v3 : w2.cell? ⟨w.heap.size, 1, none⟩ = some (.int .i64 s) := V2.cell 1; have HB2 := Lib.hid B2; clear B2 V2; simp only [HX.out])
    | (go_simp; go_at_call 23; refine (rnext_any e s a1 a2 _ he hs b1 b2).mono ?_; rintro e3 w3 ⟨rfl, B3⟩; simp only [HX.out]))
  all_goals
    go_wp2
    go_ret
    have h1 := HB.out
    have h2 : Below w1.heap.size w1 w2 := ((Below.refl w1.heap.size w1).drew).trans HB2.out
    exact ⟨ret_bool (by simp), h1.trans ((h2.trans (B3.mono h2.size)).mono h1.size)⟩
end Go.Proofs.Ytgmehcefmoleoaa
