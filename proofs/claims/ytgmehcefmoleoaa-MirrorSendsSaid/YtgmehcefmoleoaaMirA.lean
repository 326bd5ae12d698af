/- The walk of awake: it returns true. No condition. -/
import Derived.Test.YtgmehcefmoleoaaMirN
set_option linter.unusedVariables false
set_option linter.unusedSimpArgs false
namespace Go.Proofs.Ytgmehcefmoleoaa
open Go.RowKit

theorem snd_new (w : World) (n : Int) (h : 0 ≤ n) (h1 : n ≤ 4611686018427387904) : Snd (w.alloc (.cells #[.slice none 0 0, .int .i64 n] 53)) w.heap.size w.heap.size (.slice none 0 0) [] n :=
  ⟨Blk.new _ _ _, World.ownsRow_nil _ _ _ _, Nat.le_refl _, h, by simpa using h1⟩

set_option maxRecDepth 100000 in
set_option maxHeartbeats 2000000 in
theorem awake_any (w : World) : Calls Try.prog 9 #[] w fun e w' => e = .returned (.bool true) ∧ Below w.heap.size w w' := by
  go_enter Try.func9, Try.ntmps9
  go_wp2_with fail
  refine (mnew_any 4 w (by decide)).mono ?_
  rintro e w1 ⟨rfl, rfl⟩
  have S1 := Lib.hid (snd_new w 4 (by decide) (by decide))
  have B1 := Lib.hid (show Below w.heap.size w (w.alloc (.cells #[.slice none 0 0, .int .i64 4] 53)) from (Below.refl _ _).alloc (Nat.le_refl _) _)
  simp only [show min (max (4 : Int) 0) 4611686018427387904 = 4 by decide]
  generalize w.alloc (.cells #[.slice none 0 0, .int .i64 4] 53) = w1 at *
  go_wp2_with fail
  refine (add_any w.heap.size w.heap.size _ [] 4 ⟨0, 2, ByteArray.empty, 0, 0⟩ _ S1.out (by decide) (by decide)).mono ?_
  rintro e w2 ⟨rfl, lv2, S2, U2, F2⟩
  simp only [List.length_nil, List.nil_append, show (4 : Int) + (0 : Nat) + 1 = 5 by decide] at S2 ⊢
  go_wp2_with fail
  refine (add_any w.heap.size w.heap.size _ _ 4 ⟨0, 3, ByteArray.empty, 0, 0⟩ _ S2 (by decide) (by decide)).mono ?_
  rintro e w3 ⟨rfl, lv3, S3, U3, F3⟩
  simp only [List.length_cons, List.length_nil, List.cons_append, List.nil_append, show (4 : Int) + ((0 + 1 : Nat) : Int) + 1 = 6 by decide] at S3 ⊢
  have B3 : Below w.heap.size w w3 := (B1.out.trans (S1.out.below U2)).trans (S2.below U3)
  clear U2 F2 S2 S1 B1 U3 F3
  have HB3 := Lib.hid B3; clear B3
  go_wp2_with fail
  refine (ack_no w.heap.size w.heap.size lv3 _ 4 7 _ S3 (by decide)).mono ?_
  rintro e w4 ⟨rfl, B4⟩
  have S4 : Snd w4 w.heap.size w.heap.size lv3 _ 4 := S3.of_below B4
  have HB4 := Lib.hid (HB3.out.trans (B4.mono HB3.out.size)); clear B4 S3 HB3
  go_wp2_with fail
  refine (ack_yes w.heap.size w.heap.size 1 lv3 _ 4 _ S4 (by decide) (by decide) (by decide)).mono ?_
  rintro e w5 ⟨rfl, lv5, S5, U5, F5⟩
  simp only [List.drop_succ_cons, List.drop_zero, show (4 : Int) + (1 : Nat) = 5 by decide] at S5
  have HB5 := Lib.hid (HB4.out.trans (S4.below U5))
  clear U5 F5 S4 HB4
  go_wp2_with fail
  refine (left_any w.heap.size w.heap.size lv5 _ 5 _ S5.blk S5.own (by decide)).mono ?_
  rintro e w6 ⟨v6, rfl, O6, B6⟩
  obtain ⟨A6, c6, rfl, _, R6⟩ := own_rd O6
  obtain ⟨b6, o6, rfl, C6⟩ := R6 (by simp [flat, Item.cells])
  have S6 : Snd w6 w.heap.size w.heap.size lv5 _ 5 := S5.of_below B6
  have HB6 := Lib.hid (HB5.out.trans (B6.mono HB5.out.size)); clear B6 S5 HB5 O6 R6
  have m0 := C6 0 (.int .i64 6) rfl
  have m1 := C6 1 (.int .i64 3) rfl
  have l0 : ∀ o, (w6.alloc o).cell? ⟨b6, o6, none⟩ = some (.int .i64 6) := fun o => (((Below.refl _ _).alloc (Nat.le_refl _) o).cell (World.block_lt_of_cell? w6 _ m0)).trans m0
  have l1 : ∀ o, (w6.alloc o).cell? ⟨b6, o6 + 1, none⟩ = some (.int .i64 3) := fun o => (((Below.refl _ _).alloc (Nat.le_refl _) o).cell (World.block_lt_of_cell? w6 _ m1)).trans m1
  have S7 := Lib.hid (fun o => (S6.of_below ((Below.refl _ _).alloc (Nat.le_refl _) o) : Snd (w6.alloc o) w.heap.size w.heap.size lv5 _ 5))
  have B7 := Lib.hid (fun o => HB6.out.alloc HB6.out.size o)
  obtain ⟨A7, c7, rfl, _, _⟩ := own_rd S6.own
  clear m0 m1 C6 S6 HB6
  have N1 : nextM 2 5 2 5 = 2 := by decide
  have N2 : nextM 2 5 2 6 = 1 := by decide
  have N3 : nextM 2 5 3 2 = 0 := by decide
  go_wp2_with fail
  refine (last_any w.heap.size A7 _ c7 5 _ (S7.out _).blk (by decide) (by decide)).mono ?_
  rintro e w7 ⟨rfl, k7, rfl⟩
  go_wp2_with fail
  refine (acked_any w.heap.size _ 5 _ ((S7.out _).blk.drewN _)).mono ?_
  rintro e w8 ⟨rfl, rfl⟩
  have V := Lib.hid (show Blk ((w6.alloc (.cells #[.int .i64 2, .int .i64 5] 44)).drewN k7) w6.heap.size #[.int .i64 2, .int .i64 5] 44 from (Blk.new _ _ _).drewN _)
  have B8 := Lib.hid (pw_drewN (B7.out (.cells #[.int .i64 2, .int .i64 5] 44)) k7)
  have z8 : w6.heap.size < ((w6.alloc (.cells #[.int .i64 2, .int .i64 5] 44)).drewN k7).heap.size := V.out.lt
  generalize (w6.alloc (.cells #[.int .i64 2, .int .i64 5] 44)).drewN k7 = w8 at *
  have y0 : w8.cell? ⟨w6.heap.size, 0, none⟩ = some (.int .i64 2) := V.out.cell 0
  have y1 : w8.cell? ⟨w6.heap.size, 1, none⟩ = some (.int .i64 5) := V.out.cell 1
  go_wp2_with fail
  refine (next_any 2 5 2 5 _ (by decide) (by decide) (by decide) (by decide)).mono ?_
  rintro e w9 ⟨rfl, B9⟩
  have V9 := V.out.upd (Upd.of_below (S := fun _ => False) B9) (fun h => h)
  have y2 : w9.cell? ⟨w6.heap.size, 0, none⟩ = some (.int .i64 2) := V9.cell 0
  have y3 : w9.cell? ⟨w6.heap.size, 1, none⟩ = some (.int .i64 5) := V9.cell 1
  have B9' := Lib.hid (B8.out.trans (B9.mono B8.out.size)); clear B9 B8
  go_wp2_with fail
  refine (next_any 2 5 2 6 _ (by decide) (by decide) (by decide) (by decide)).mono ?_
  rintro e w10 ⟨rfl, B10⟩
  have V10 := V9.upd (Upd.of_below (S := fun _ => False) B10) (fun h => h)
  have y4 : w10.cell? ⟨w6.heap.size, 0, none⟩ = some (.int .i64 2) := V10.cell 0
  have y5 : w10.cell? ⟨w6.heap.size, 1, none⟩ = some (.int .i64 5) := V10.cell 1
  have B10' := Lib.hid (B9'.out.trans (B10.mono B9'.out.size)); clear B10 B9'
  go_wp2_with fail
  refine (next_any 2 5 3 2 _ (by decide) (by decide) (by decide) (by decide)).mono ?_
  rintro e w11 ⟨rfl, B11⟩
  have B11' := Lib.hid (B10'.out.trans (B11.mono B10'.out.size)); clear B11 B10'
  go_wp2_with fail
  go_ret
  exact ⟨rfl, B11'.out⟩
end Go.Proofs.Ytgmehcefmoleoaa
