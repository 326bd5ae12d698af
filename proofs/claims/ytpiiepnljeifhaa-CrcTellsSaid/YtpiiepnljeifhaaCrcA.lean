/- The walk of awake: it returns true. No condition. -/
import Derived.Test.YtpiiepnljeifhaaCrcW
import Derived.Deep.RegionHeld3
import Derived.Lib.SlBytesConst
set_option linter.unusedVariables false
set_option linter.unusedSimpArgs false
namespace Go.Proofs.Ytpiiepnljeifhaa
open Go.RowKit

def nine : List Nat := [49, 50, 51, 52, 53, 54, 55, 56, 57]
theorem s0 : sum [] = 0 := rfl
theorem s9 : sum nine = 3808858755 := by decide +kernel
theorem s4 : sum [49, 50, 51, 52] = 4131058926 := by decide +kernel
theorem s5 : sum [53, 54, 55, 56, 57] = 2209703384 := by decide +kernel
theorem m45 : more 4131058926 [53, 54, 55, 56, 57] = 3808858755 := by decide +kernel
theorem j45 : join 4131058926 2209703384 5 = 3808858755 := by decide +kernel

theorem nine_lt : ∀ b ∈ nine, b < 256 := by decide
/-- The nine bytes lie there. -/
structure Nin (w w' : World) (c : Nat) : Prop where
  all : Rd w' (some ⟨w.heap.size, 0, none⟩) (by8 nine)
  bel : Below w.heap.size w w'
theorem Nin.fore {w w' : World} {c : Nat} (h : Nin w w' c) : Rd w' (some ⟨w.heap.size, 0, none⟩) (by8 [49, 50, 51, 52]) := h.all.take 4
theorem Nin.aft {w w' : World} {c : Nat} (h : Nin w w' c) : Rd w' (some ⟨w.heap.size, 4, none⟩) (by8 [53, 54, 55, 56, 57]) := by
  have := h.all.drop 4
  exact this
theorem Nin.next {w w1 w2 : World} {c : Nat} (h : Nin w w1 c) (hB : Below w1.heap.size w1 w2) : Nin w w2 c := ⟨h.all.below hB, h.bel.trans (hB.mono h.bel.size)⟩
theorem q_nil {w W : World} (h : Nin w W 9) : Calls Try.prog 12 #[.slice none 0 0] W fun e w' => e = .returned (.int .u32 0) ∧ w' = W :=
  (csum_any none [] 0 _ (Rd.nil _ _) (by decide) (by decide)).mono fun e w' h => ⟨by rw [h.1]; rfl, h.2⟩
theorem q_9 {w W : World} (h : Nin w W 9) : Calls Try.prog 12 #[.slice (some ⟨w.heap.size, 0, none⟩) 9 9] W fun e w' => e = .returned (.int .u32 3808858755) ∧ w' = W :=
  (csum_any _ nine 9 _ h.all nine_lt (by decide)).mono fun e w' h => ⟨by rw [h.1, s9]; rfl, h.2⟩
theorem q_4 {w W : World} (h : Nin w W 9) : Calls Try.prog 12 #[.slice (some ⟨w.heap.size, 0, none⟩) 4 9] W fun e w' => e = .returned (.int .u32 4131058926) ∧ w' = W :=
  (csum_any _ [49, 50, 51, 52] 9 _ h.fore (by decide) (by decide)).mono fun e w' h => ⟨by rw [h.1, s4]; rfl, h.2⟩
theorem q_5 {w W : World} (h : Nin w W 9) : Calls Try.prog 12 #[.slice (some ⟨w.heap.size, 4, none⟩) 5 5] W fun e w' => e = .returned (.int .u32 2209703384) ∧ w' = W :=
  (csum_any _ [53, 54, 55, 56, 57] 5 _ h.aft (by decide) (by decide)).mono fun e w' h => ⟨by rw [h.1, s5]; rfl, h.2⟩
theorem q_m {w W : World} (h : Nin w W 9) : Calls Try.prog 13 #[.int .u32 4131058926, .slice (some ⟨w.heap.size, 4, none⟩) 5 5] W fun e w' => e = .returned (.int .u32 3808858755) ∧ w' = W :=
  (cmore_any 4131058926 _ [53, 54, 55, 56, 57] 5 _ (by decide) h.aft (by decide) (by decide)).mono fun e w' h => ⟨by rw [h.1, m45]; rfl, h.2⟩
theorem q_j (W : World) : Calls Try.prog 14 #[.int .u32 4131058926, .int .u32 2209703384, .int .i64 5] W fun e w' => e = .returned (.int .u32 3808858755) ∧ Below W.heap.size W w' :=
  (cjoin_any 4131058926 2209703384 5 _ (by decide) (by decide) (by decide)).mono fun e w' h => ⟨by rw [h.1, j45]; rfl, h.2⟩
theorem q_c {w W : World} (h : Nin w W 9) : Calls Try.prog 15 #[.slice (some ⟨w.heap.size, 0, none⟩) 9 9, .int .u32 3808858755] W fun e w' => e = .returned (.bool true) ∧ w' = W :=
  (ccheck_any _ nine 9 3808858755 _ (by decide) h.all nine_lt (by decide)).mono fun e w' h => ⟨by rw [h.1, s9]; rfl, h.2⟩
theorem q_n {w W : World} (h : Nin w W 9) : Calls Try.prog 15 #[.slice (some ⟨w.heap.size, 0, none⟩) 9 9, .int .u32 1] W fun e w' => e = .returned (.bool false) ∧ w' = W :=
  (ccheck_any _ nine 9 1 _ (by decide) h.all nine_lt (by decide)).mono fun e w' h => ⟨by rw [h.1, s9]; rfl, h.2⟩
theorem Rd.litf {W : World} {b : Nat} (hb : W.heap.size = b) (cs : Array Value) (T : TypeId) (fr : Nat × Nat) : Rd (W.alloc (.cells cs T fr)) (some ⟨b, 0, none⟩) cs.toList := by
  intro _
  refine ⟨b, 0, rfl, fun j v hv => ?_⟩
  subst hb
  have h : (W.alloc (.cells cs T fr)).heap[W.heap.size]? = some (.cells cs T fr) := heap_alloc_new W _
  simp only [World.cell?, h, Nat.zero_add]
  simpa using hv
set_option maxRecDepth 100000 in
set_option maxHeartbeats 4000000 in
theorem awake_any (w : World) : Calls Try.prog 11 #[] w fun e w' => e = .returned (.bool true) ∧ Below w.heap.size w w' := by
  go_enter Try.func11, Try.ntmps11
  have kc := fun (w : World) (C : Array Value) (n c : Nat) => Lib.run_convert_bytes_const (P := Try.prog) w 22 5 C n c Try.underlying22 Try.underlying5
  have R0 : Nin w (w.alloc (.cells #[Value.int IntKind.u8 49, Value.int IntKind.u8 50, Value.int IntKind.u8 51, Value.int IntKind.u8 52, Value.int IntKind.u8 53, Value.int IntKind.u8 54, Value.int IntKind.u8 55, Value.int IntKind.u8 56, Value.int IntKind.u8 57] 5 (9, 10))).drew 9 :=
    ⟨Rd.litf rfl _ _ _, ((Below.refl _ _).alloc (Nat.le_refl _) _).drew⟩
  have HR0 := Lib.hid R0; clear R0
  go_wp2
  go_region_held3 (fun w' => Nin w w' 9) (first | assumption | exact HR0.out | exact Nin.next (by assumption) B1)
    (first
    | (go_at_call 12; refine (q_nil (w := w) ?_).mono ?_; assumption; rintro e w1 ⟨rfl, rfl⟩)
    | (go_at_call 12; refine (q_9 (w := w) ?_).mono ?_; assumption; rintro e w1 ⟨rfl, rfl⟩)
    | (go_at_call 12; refine (q_4 (w := w) ?_).mono ?_; assumption; rintro e w1 ⟨rfl, rfl⟩)
    | (go_at_call 12; refine (q_5 (w := w) ?_).mono ?_; assumption; rintro e w1 ⟨rfl, rfl⟩)
    | (go_at_call 13; refine (q_m (w := w) ?_).mono ?_; assumption; rintro e w1 ⟨rfl, rfl⟩)
    | (go_at_call 14; refine (q_j _).mono ?_; rintro e w1 ⟨rfl, B1⟩)
    | (go_at_call 15; refine (q_c (w := w) ?_).mono ?_; assumption; rintro e w1 ⟨rfl, rfl⟩)
    | (go_at_call 15; refine (q_n (w := w) ?_).mono ?_; assumption; rintro e w1 ⟨rfl, rfl⟩))
  all_goals
    have hN : Nin w w1 9 := by assumption
    go_wp2
    go_ret
    exact ⟨rfl, hN.bel⟩
end Go.Proofs.Ytpiiepnljeifhaa
