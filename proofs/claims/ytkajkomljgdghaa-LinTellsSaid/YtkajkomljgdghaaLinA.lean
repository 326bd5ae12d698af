/- The walk of awake: it returns true. No condition. -/
import Derived.Test.YtkajkomljgdghaaLinQ
set_option linter.unusedVariables false
set_option linter.unusedSimpArgs false
namespace Go.Proofs.Ytkajkomljgdghaa
open Go.RowKit Go.Maps
abbrev dA : ByteArray := { data := #[97, 98, 99, 100, 101, 102, 103, 104] }
abbrev dB : ByteArray := { data := #[65, 66, 67, 68, 69, 70, 71, 72] }
abbrev aw1 (f : Int) : LOp := ⟨2, 0, dA, f, 2, true, 0, noB⟩
abbrev aw2 (d : ByteArray) : LOp := ⟨1, 0, noB, 3, 4, true, 0, d⟩
theorem aw_a : chkB [aw1 1, aw2 dA] = true ∧ errs [aw1 1, aw2 dA] = 0 := ⟨by kernel_rfl, by kernel_rfl⟩
theorem aw_b : chkB [aw1 1, aw2 dB] = false ∧ errs [aw1 1, aw2 dB] = 0 := ⟨by kernel_rfl, by kernel_rfl⟩
theorem aw_c : wrong [aw1 1, aw2 dB] = (0, true) := by kernel_rfl
theorem aw_d : chkB [aw1 0, aw2 dB] = false ∧ errs [aw1 0, aw2 dB] = 1 := ⟨by kernel_rfl, by kernel_rfl⟩
theorem aw_ok (f : Int) (hf : f = 0 ∨ f = 1) (d : ByteArray) (hd : d = dA ∨ d = dB) : ∀ o ∈ [aw1 f, aw2 d], o.ok := by
  rcases hf with rfl | rfl <;> rcases hd with rfl | rfl <;> (
    intro o ho
    simp only [List.mem_cons, List.not_mem_nil, or_false] at ho
    rcases ho with rfl | rfl <;> exact ⟨by decide, by decide, by decide, by decide, by decide, by decide, by decide⟩)
abbrev awC (f : Int) (d : ByteArray) : Array Value := #[.int .i64 2, .int .i64 0, .string dA, .int .i64 f, .int .i64 2, .bool true, .int .i64 0, .string noB, .int .i64 1, .int .i64 0, .string noB, .int .i64 3, .int .i64 4, .bool true, .int .i64 0, .string d]
theorem aw_rd {w W' : World} {g : Nat} {f : Int} {d : ByteArray} (h : Sep w W' [tBlk g (awC f d) tOp]) : Rd W' (some ⟨g, 0, none⟩) (eOp.fl [aw1 f, aw2 d]) :=
  (show Blk W' g (awC f d) tOp from h.hd).rd
set_option maxRecDepth 100000 in
set_option maxHeartbeats 4000000 in
theorem awake_any (w : World) : Calls Try.prog 11 #[] w fun e w' => e = .returned (.bool true) ∧ Below w.heap.size w w' := by
  have HT := Lib.hid ((Sep.nil w).newBlk (awC 1 dA) tOp (g := w.heap.size) rfl)
  go_enter Try.func11, Try.ntmps11
  go_upto_region 2 with fail
  generalize w.alloc (.cells (awC 1 dA) tOp) = w1 at *
  generalize hg : w.heap.size = g at HT ⊢
  clear hg
  go_upto_region 3 with (go_at_call 15; refine (check_any [aw1 1, aw2 dA] (some ⟨g, 0, none⟩) 2 2 rfl (by decide) (aw_ok 1 (.inr rfl) dA (.inl rfl)) (fun W' h => aw_rd h) HT.out).mono ?_; rw [aw_a.1, aw_a.2]; rintro e w2 ⟨rfl, hS⟩; have HT := Lib.hid hS; clear hS)
  have z1 : w2.cell? ⟨g, 15, none⟩ = some (.string dA) := (show Blk w2 g (awC 1 dA) tOp from HT.out.hd).cell 15
  have f1 := (show Blk w2 g (awC 1 dA) tOp from HT.out.hd).frozen 15
  have HT := Lib.hid (show Sep w (w2.setCell ⟨g, 15, none⟩ (.string dB)) [tBlk g (awC 1 dB) tOp] from HT.out.blkSet 15 (.string dB))
  go_upto_region 4 with fail
  clear z1 f1
  generalize w2.setCell ⟨g, 15, none⟩ (.string dB) = w3 at *
  go_upto_region 6 with (first
    | (go_at_call 15; refine (check_any [aw1 1, aw2 dB] (some ⟨g, 0, none⟩) 2 2 rfl (by decide) (aw_ok 1 (.inr rfl) dB (.inr rfl)) (fun W' h => aw_rd h) HT.out).mono ?_; rw [aw_b.1, aw_b.2]; rintro e w4 ⟨rfl, hS⟩; have HT := Lib.hid hS; clear hS)
    | (go_at_call 16; refine (wrong_any [aw1 1, aw2 dB] (some ⟨g, 0, none⟩) 2 2 rfl (by decide) (aw_ok 1 (.inr rfl) dB (.inr rfl)) (fun W' h => aw_rd h) HT.out).mono ?_; rw [aw_c]; rintro e w5 ⟨rfl, hS⟩; have HT := Lib.hid hS; clear hS))
  have z1 : w5.cell? ⟨g, 3, none⟩ = some (.int .i64 1) := (show Blk w5 g (awC 1 dB) tOp from HT.out.hd).cell 3
  have f1 := (show Blk w5 g (awC 1 dB) tOp from HT.out.hd).frozen 3
  have HT := Lib.hid (show Sep w (w5.setCell ⟨g, 3, none⟩ (.int .i64 0)) [tBlk g (awC 0 dB) tOp] from HT.out.blkSet 3 (.int .i64 0))
  go_upto_region 7 with fail
  clear z1 f1
  generalize w5.setCell ⟨g, 3, none⟩ (.int .i64 0) = w6 at *
  go_wp2_with (go_at_call 15; refine (check_any [aw1 0, aw2 dB] (some ⟨g, 0, none⟩) 2 2 rfl (by decide) (aw_ok 0 (.inl rfl) dB (.inr rfl)) (fun W' h => aw_rd h) HT.out).mono ?_; rw [aw_d.1, aw_d.2]; rintro e w7 ⟨rfl, hS⟩; have HT := Lib.hid hS; clear hS)
  go_ret
  exact ⟨rfl, HT.out.bel⟩
end Go.Proofs.Ytkajkomljgdghaa
