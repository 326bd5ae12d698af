/- The walk of awake: it returns true. No condition. -/
import Derived.Test.YtofljgnfbakhoaaNetU
set_option linter.unusedVariables false
set_option linter.unusedSimpArgs false
namespace Go.Proofs.Ytofljgnfbakhoaa
open Go.RowKit

def lA : Letter := ⟨0, 1, ⟨#[97]⟩⟩
def lB : Letter := ⟨1, 2, ⟨#[98]⟩⟩
def lC : Letter := ⟨1, 1, ByteArray.empty⟩
theorem e1 : sendE [] lA = 0 := by decide
theorem e2 : sendE [lA] lB = 0 := by decide
theorem e3 : sendE [lA, lB] lC = 1 := by decide
theorem e5 : sendE [lA] lA = 0 := by decide
theorem s1 : sendL [] lA = [lA] := by unfold sendL; rw [e1]; rfl
theorem s2 : sendL [lA] lB = [lA, lB] := by unfold sendL; rw [e2]; rfl
theorem s3 : sendL [lA, lB] lC = [lA, lB] := by unfold sendL; rw [e3]; rfl
theorem s5 : sendL [lA] lA = [lA, lA] := by unfold sendL; rw [e5]; rfl
theorem t4 : takeL [lA, lB] 1 = [lA] := rfl
theorem t7 : takeL [lA, lA] 0 = [lA] := rfl
theorem k6 : toK [lA, lA] 1 = 0 := by decide
set_option maxRecDepth 100000 in
set_option maxHeartbeats 2000000 in
theorem awake_any (w : World) : Calls Try.prog 9 #[] w fun e w' => e = .returned (.bool true) ∧ Below w.heap.size w w' := by
  go_enter Try.func9, Try.ntmps9
  go_wp2_with fail
  refine (nnew_sep (Sep.nil w)).mono ?_
  rintro e w1 ⟨rfl, hs⟩
  have HS := Lib.hid hs; clear hs
  generalize w.heap.size = b at *
  go_wp2_with fail
  refine (send_sep HS.out lA).mono ?_
  rintro e w2 ⟨rfl, lv2, hs⟩
  rw [e1]
  rw [s1] at hs
  have HS := Lib.hid hs; clear hs
  go_wp2_with fail
  refine (send_sep HS.out lB).mono ?_
  rintro e w3 ⟨rfl, lv3, hs⟩
  rw [e2]
  rw [s2] at hs
  have HS := Lib.hid hs; clear hs
  go_wp2_with fail
  refine (send_sep HS.out lC).mono ?_
  rintro e w4 ⟨rfl, lv4, hs⟩
  rw [e3]
  rw [s3] at hs
  have HS := Lib.hid hs; clear hs
  go_wp2_with fail
  refine (take_some HS.out 3 1 lB (by decide) rfl (by decide)).mono ?_
  rintro e w5 ⟨rfl, lv5, hs⟩
  rw [t4] at hs
  have HS := Lib.hid (hs.newBlk #[.int .i64 1, .int .i64 2, .string ⟨#[98]⟩] tL (g := w5.heap.size) rfl).sw; clear hs
  unfold lB Letter.agg
  go_upto_region 8 with fail
  generalize w5.alloc (.cells #[.int .i64 1, .int .i64 2, .string ⟨#[98]⟩] tL) = w6 at *
  generalize w5.heap.size = g5 at *
  go_wp2_with fail
  refine (copy_some HS.out (-1) 0 lA (by decide) rfl (by decide)).mono ?_
  rintro e w7 ⟨rfl, lv7, hs⟩
  rw [e5]
  rw [s5] at hs
  have HS := Lib.hid hs; clear hs
  go_wp2_with fail
  refine (to_sep HS.out (by decide) 1 0 k6).mono ?_
  rintro e w8 ⟨rfl, hs⟩
  have y2 := (show Blk w8 g5 #[.int .i64 1, .int .i64 2, .string ⟨#[98]⟩] tL from hs.h2).cell 2
  simp at y2
  have HS := Lib.hid hs; clear hs
  go_wp2_with fail
  refine (len_sep HS.out).mono ?_
  rintro e w9 ⟨rfl, hs⟩
  rw [show [lA, lA].length = 2 from rfl]
  have HS := Lib.hid hs; clear hs
  go_wp2_with fail
  refine (all_sep HS.out (by decide)).mono ?_
  rintro e w10 ⟨A10, c10, rfl, hs⟩
  rw [show [lA, lA].length = 2 from rfl]
  have HS := Lib.hid hs.tail; clear hs
  go_wp2_with fail
  refine (drop_some HS.out 0 0 (by decide) (by decide) (by decide)).mono ?_
  rintro e w11 ⟨rfl, lv11, hs⟩
  rw [t7] at hs
  have HS := Lib.hid hs; clear hs
  go_wp2_with fail
  refine (len_sep HS.out).mono ?_
  rintro e w12 ⟨rfl, hs⟩
  rw [show [lA].length = 1 from rfl]
  have HB := Lib.hid hs.bel; clear hs
  go_wp2_with fail
  go_ret
  exact ⟨rfl, HB.out⟩
end Go.Proofs.Ytofljgnfbakhoaa
