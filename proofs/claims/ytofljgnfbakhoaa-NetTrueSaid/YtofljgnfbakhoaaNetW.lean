/- The walks of package net. Conditions: at most 300 letters are under way. -/
import Derived.Test.YtofljgnfbakhoaaProg
import Derived.Test.YtofljgnfbakhoaaNetM
import Derived.Test.YtofljgnfbakhoaaReg
import Derived.Deep.QuietTactic
import Derived.BigQuiet
import Derived.WalkSpells
import Derived.Deep.DeepCutAuto
import Derived.Deep.RegionLaw
set_option linter.unusedVariables false
set_option linter.unusedSimpArgs false
namespace Go.Proofs.Ytofljgnfbakhoaa
open Go.RowKit

abbrev tL : TypeId := 31
abbrev tN (b : Nat) (lv : Value) (l : List Letter) : Th := tBox eLet tL 51 b lv l
theorem Try.infoL : (Try.prog.info? tL).map (fun i => (i.zero, i.size, i.bytes)) = some (some (.agg #[.int .i64 0, .int .i64 0, .string ByteArray.empty]), 3, 32) := by kernel_rfl
section
variable {w W : World} {r : List Th} {b : Nat} {lv : Value} {l : List Letter}
theorem nnew_sep (h : Sep w W r) : Calls Try.prog 10 #[] W fun e W' => e = .returned (.pointer (some ⟨W.heap.size, 0, none⟩)) ∧ Sep w W' (tN W.heap.size (.slice none 0 0) [] :: r) := by
  go_enter Try.func10, Try.ntmps10
  go_wp2
  go_ret
  refine ⟨rfl, h.new (t := tN W.heap.size (.slice none 0 0) []) ((Below.refl _ _).alloc (Nat.le_refl _) _) ⟨Blk.new _ _ _, Own.nil _ _ _, by decide⟩ (fun k hk => ?_)⟩
  rcases hk with rfl | hk
  · exact Nat.le_refl _
  · simp [Value.ownBlock] at hk
theorem place_any (i : Int) (w : World) : Calls Try.prog 23 #[.int .i64 i] w fun e w' => e = .returned (.bool (placeB i)) ∧ w = w' := by
  by_cases h : 0 ≤ i
  · go_enter Try.func23, Try.ntmps23
    go_wp2
    go_ret
    exact ⟨ret_bool (by unfold placeB; simp [h]), rfl⟩
  · have h' : decide (0 ≤ i) = false := by simpa using h
    go_enter Try.func23, Try.ntmps23
    go_wp2
    go_ret
    exact ⟨ret_bool (by unfold placeB; simp; omega), rfl⟩
theorem send_bad (h : Sep w W (tN b lv l :: r)) (x : Letter) (hp : ¬ (placeB x.frm = true ∧ placeB x.to = true ∧ x.frm ≠ x.to)) :
    Calls Try.prog 11 #[.pointer (some ⟨b, 0, none⟩), x.agg] W fun e W' => e = .returned (.int .i64 1) ∧ Sep w W' (tN b lv l :: r) := by
  have HT := Lib.hid (h.alloc (.cells #[.int .i64 x.frm, .int .i64 x.to, .string x.body] tL))
  obtain ⟨xf, xt, xd⟩ := x
  simp only at hp HT
  cases h1 : placeB xf
  · have H1 := Lib.hid h1
    clear h1 hp h
    go_enter Try.func11, Try.ntmps11
    go_wp2_with (go_at_call 23; with_reducible refine (place_any xf _).mono ?_; rintro e w' ⟨rfl, rfl⟩; simp only [H1.out])
    go_ret
    exact ⟨rfl, HT.out⟩
  · cases h2 : placeB xt
    · have H1 := Lib.hid h1; have H2 := Lib.hid h2
      clear h1 h2 hp h
      go_enter Try.func11, Try.ntmps11
      go_wp2_with (first | (go_at_call 23; with_reducible refine (place_any xf _).mono ?_; rintro e w' ⟨rfl, rfl⟩; simp only [H1.out]) | (go_at_call 23; with_reducible refine (place_any xt _).mono ?_; rintro e w' ⟨rfl, rfl⟩; simp only [H2.out]))
      go_ret
      exact ⟨rfl, HT.out⟩
    · have h3 : (xf == xt) = true := by
        rw [h1, h2] at hp
        simpa using hp
      have H1 := Lib.hid h1; have H2 := Lib.hid h2
      clear h1 h2 hp h
      go_enter Try.func11, Try.ntmps11
      go_wp2_with (first | (go_at_call 23; with_reducible refine (place_any xf _).mono ?_; rintro e w' ⟨rfl, rfl⟩; simp only [H1.out]) | (go_at_call 23; with_reducible refine (place_any xt _).mono ?_; rintro e w' ⟨rfl, rfl⟩; simp only [H2.out]))
      go_ret
      exact ⟨rfl, HT.out⟩
theorem send_size (h : Sep w W (tN b lv l :: r)) (x : Letter) (hp : placeB x.frm = true ∧ placeB x.to = true ∧ x.frm ≠ x.to) (hs : 200 < x.body.size) :
    Calls Try.prog 11 #[.pointer (some ⟨b, 0, none⟩), x.agg] W fun e W' => e = .returned (.int .i64 3) ∧ Sep w W' (tN b lv l :: r) := by
  have HT := Lib.hid (h.alloc (.cells #[.int .i64 x.frm, .int .i64 x.to, .string x.body] tL))
  obtain ⟨xf, xt, xd⟩ := x
  simp only at hp HT hs
  obtain ⟨h1, h2, h3⟩ := hp
  have H1 := Lib.hid h1; have H2 := Lib.hid h2
  have h3 : (xf == xt) = false := by simpa using h3
  have h4 : decide ((200 : Int) < (xd.size : Int)) = true := by simp; omega
  clear h1 h2 h
  go_enter Try.func11, Try.ntmps11
  go_wp2_with (first | (go_at_call 23; with_reducible refine (place_any xf _).mono ?_; rintro e w' ⟨rfl, rfl⟩; simp only [H1.out]) | (go_at_call 23; with_reducible refine (place_any xt _).mono ?_; rintro e w' ⟨rfl, rfl⟩; simp only [H2.out]))
  go_ret
  exact ⟨rfl, HT.out⟩
theorem send_many (h : Sep w W (tN b lv l :: r)) (x : Letter) (hp : placeB x.frm = true ∧ placeB x.to = true ∧ x.frm ≠ x.to) (hs : ¬ 200 < x.body.size) (hl : 300 ≤ l.length) :
    Calls Try.prog 11 #[.pointer (some ⟨b, 0, none⟩), x.agg] W fun e W' => e = .returned (.int .i64 5) ∧ Sep w W' (tN b lv l :: r) := by
  have HT := Lib.hid (h.alloc (.cells #[.int .i64 x.frm, .int .i64 x.to, .string x.body] tL))
  obtain ⟨hb, A, c, rfl, _⟩ := h.box
  have z0 : ∀ o, (W.alloc o).cell? ⟨b, 0, none⟩ = some (.slice A l.length c) := fun o => (hb.alloc o).cell 0
  obtain ⟨xf, xt, xd⟩ := x
  simp only at hp HT hs
  obtain ⟨h1, h2, h3⟩ := hp
  have H1 := Lib.hid h1; have H2 := Lib.hid h2
  have h3 : (xf == xt) = false := by simpa using h3
  have h4 : decide ((200 : Int) < (xd.size : Int)) = false := by simp; omega
  have h5 : decide ((300 : Int) ≤ (l.length : Int)) = true := by simp; omega
  clear h1 h2 h hb
  go_enter Try.func11, Try.ntmps11
  go_wp2_with (first | (go_at_call 23; with_reducible refine (place_any xf _).mono ?_; rintro e w' ⟨rfl, rfl⟩; simp only [H1.out]) | (go_at_call 23; with_reducible refine (place_any xt _).mono ?_; rintro e w' ⟨rfl, rfl⟩; simp only [H2.out]))
  go_ret
  exact ⟨rfl, HT.out⟩
set_option maxRecDepth 100000 in
theorem send_ok (h : Sep w W (tN b lv l :: r)) (x : Letter) (hp : placeB x.frm = true ∧ placeB x.to = true ∧ x.frm ≠ x.to) (hs : ¬ 200 < x.body.size) (hl : ¬ 300 ≤ l.length) :
    Calls Try.prog 11 #[.pointer (some ⟨b, 0, none⟩), x.agg] W fun e W' => e = .returned (.int .i64 0) ∧ ∃ lv', Sep w W' (tN b lv' (l ++ [x]) :: r) := by
  have HT := Lib.hid (h.alloc (.cells #[.int .i64 x.frm, .int .i64 x.to, .string x.body] tL))
  have HX := Lib.hid (Blk.new W #[.int .i64 x.frm, .int .i64 x.to, .string x.body] tL)
  have HXN := Lib.hid (show lv.ownBlock ≠ some W.heap.size from fun e => Nat.lt_irrefl _ (h.boxOwn.lt e))
  have HBG := Lib.hid (Nat.ne_of_lt h.box.1.lt)
  obtain ⟨hb, A, c, rfl, hlc, hA, hR⟩ := h.box
  have z0 : ∀ o, (W.alloc o).cell? ⟨b, 0, none⟩ = some (.slice A l.length c) := fun o => (hb.alloc o).cell 0
  obtain ⟨xf, xt, xd⟩ := x
  simp only at hp HT hs HX
  obtain ⟨h1, h2, h3⟩ := hp
  have H1 := Lib.hid h1; have H2 := Lib.hid h2
  have h3 : (xf == xt) = false := by simpa using h3
  have h4 : decide ((200 : Int) < (xd.size : Int)) = false := by simp; omega
  have h5 : decide ((300 : Int) ≤ (l.length : Int)) = false := by simp; omega
  have HL := Lib.hid (show (l.length + 1) * 32 ≤ 140737488355328 by omega)
  clear h1 h2 h hb
  go_enter Try.func11, Try.ntmps11
  go_upto_region 7 with (first | (go_at_call 23; with_reducible refine (place_any xf _).mono ?_; rintro e w' ⟨rfl, rfl⟩; simp only [H1.out]) | (go_at_call 23; with_reducible refine (place_any xt _).mono ?_; rintro e w' ⟨rfl, rfl⟩; simp only [H2.out]))
  generalize W.alloc (.cells #[.int .i64 xf, .int .i64 xt, .string xd] tL) = wc at *
  generalize W.heap.size = g at *
  clear z0 h3 h4 h5
  have HBB := Lib.hid (HT.out.box.1)
  have HS : Hid (∀ w', Blk w' b #[.slice A l.length c] 51 → Blk w' g #[.int .i64 xf, .int .i64 xt, .string xd] tL → w'.cell? ⟨g, 0, none⟩ = some (.int .i64 xf) ∧ w'.cell? ⟨g, 1, none⟩ = some (.int .i64 xt) ∧ w'.cell? ⟨g, 2, none⟩ = some (.string xd) ∧ w'.cell? ⟨b, 0, none⟩ = some (.slice A l.length c)) := Lib.hid (fun w' h1 h2 => ⟨h2.cell 0, h2.cell 1, h2.cell 2, h1.cell 0⟩)
  refine wp_region_L (fun w' => w'.cell? ⟨g, 0, none⟩ = some (.int .i64 xf) ∧ w'.cell? ⟨g, 1, none⟩ = some (.int .i64 xt) ∧ w'.cell? ⟨g, 2, none⟩ = some (.string xd) ∧ w'.cell? ⟨b, 0, none⟩ = some (.slice A l.length c)) 10 (by kernel_rfl) (HS.out _ HBB.out.drew HX.out.drew) (fun hHeld => ?_)
  refine reg_take (i := 0) (d := 35) (v := ?_) [] rfl rfl (by kernel_rfl) (by kernel_rfl) (fun _ _ _ h => h) (Or.inl ⟨by rfl, ?_⟩) (by assumption) ?_
  rotate_left
  · (intro w hSw; (try dsimp only at hSw); go_simp; first | done | with_reducible rfl)
  try simp only [List.setIfInBounds_toArray, List.set_cons_zero, List.set_cons_succ]
  refine reg_take (i := 1) (d := 36) (v := ?_) [] rfl rfl (by kernel_rfl) (by kernel_rfl) (fun _ _ _ h => h) (Or.inl ⟨by rfl, ?_⟩) (by assumption) ?_
  rotate_left
  · (intro w hSw; (try dsimp only at hSw); go_simp; first | done | with_reducible rfl)
  try simp only [List.setIfInBounds_toArray, List.set_cons_zero, List.set_cons_succ]
  refine reg_take (i := 2) (d := 37) (v := ?_) [] rfl rfl (by kernel_rfl) (by kernel_rfl) (fun _ _ _ h => h) (Or.inl ⟨by rfl, ?_⟩) (by assumption) ?_
  rotate_left
  · (intro w hSw; (try dsimp only at hSw); go_simp; first | done | with_reducible rfl)
  try simp only [List.setIfInBounds_toArray, List.set_cons_zero, List.set_cons_succ]
  refine reg_take (i := 3) (d := 38) (v := ?_) [] rfl rfl (by kernel_rfl) (by kernel_rfl) (fun _ _ _ h => h) (Or.inl ⟨by rfl, ?_⟩) (by assumption) ?_
  rotate_left
  · (intro w hSw; (try dsimp only at hSw); go_simp; first | done | with_reducible rfl)
  try simp only [List.setIfInBounds_toArray, List.set_cons_zero, List.set_cons_succ]
  refine reg_take (i := 4) (d := 39) (v := ?_) [] rfl rfl (by kernel_rfl) (by kernel_rfl) (fun _ _ _ h => h) (Or.inl ⟨by rfl, ?_⟩) (by assumption) ?_
  rotate_left
  · (intro w hSw; (try dsimp only at hSw); go_simp; first | done | with_reducible rfl)
  try simp only [List.setIfInBounds_toArray, List.set_cons_zero, List.set_cons_succ]
  refine reg_take (i := 5) (d := 40) (v := ?_) [] rfl rfl (by kernel_rfl) (by kernel_rfl) (fun _ _ _ h => h) (Or.inl ⟨by rfl, ?_⟩) (by assumption) ?_
  rotate_left
  · (intro w hSw; (try dsimp only at hSw); go_simp; first | done | with_reducible rfl)
  try simp only [List.setIfInBounds_toArray, List.set_cons_zero, List.set_cons_succ]
  refine wpAnyL_ready (rs := [6]) (by kernel_rfl) rfl ?_
  refine (AllL.cons rfl (fun K hK => ?_) AllL.nil)
  go_simp
  have HW1 := Lib.hid (show Below wc.heap.size wc (wc.drew.alloc (.cells #[.int .i64 xf, .int .i64 xt, .string xd] tL)) from ((Below.refl _ _).drew).alloc (Nat.le_refl _) _)
  refine hK.out _ _ (HS.out _ (HBB.out.upd (Upd.of_below (S := fun _ => False) HW1.out) (fun h => h)) (HX.out.upd (Upd.of_below (S := fun _ => False) HW1.out) (fun h => h))) (fun hHeld => ?_)
  try simp only [List.setIfInBounds_toArray, List.set_cons_zero, List.set_cons_succ]
  refine wpAnyL_ready (rs := [7]) (by kernel_rfl) rfl ?_
  refine (AllL.cons rfl (fun K hK => ?_) AllL.nil)
  refine stepA 27 tL (.agg #[.int .i64 0, .int .i64 0, .string ByteArray.empty]) 3 32 (eLet.f ⟨xf, xt, xd⟩) 1 ((HT.out.boxOwn.drew).alloc _) HL.out Try.underlying27 Try.infoL rfl (by decide) (by decide) rfl (eLet.one _) (some ⟨wc.heap.size, 0, none⟩) 1 (Rd.lit (by rfl) _ _) (fun e => nomatch e) (.tmp 39) (.tmp 41) rfl rfl rfl rfl ?_
  intro v1 w1 ho1 hg1 hat1
  obtain ⟨A1, c1, rfl, _⟩ := ho1.form
  have HO1 := Lib.hid ho1; have HG1 := Lib.hid hg1; have HAT := Lib.hid hat1
  clear ho1 hg1 hat1
  have hb1 : Blk w1 b #[.slice A l.length c] 51 := (HBB.out.upd (Upd.of_below (S := fun _ => False) HW1.out) (fun h => h)).upd (Upd.of_grown HG1.out) (fun e => HT.out.boxOwn.ne HBB.out (by decide) e.symm)
  have HB1 := Lib.hid hb1
  have HX1 := Lib.hid ((HX.out.upd (Upd.of_below (S := fun _ => False) HW1.out) (fun h => h)).upd (Upd.of_grown HG1.out) (fun e => HXN.out e.symm))
  clear hb1
  refine hK.out _ _ (HS.out _ HB1.out HX1.out) (fun hHeld => ?_)
  try simp only [List.setIfInBounds_toArray, List.set_cons_zero, List.set_cons_succ]
  refine reg_take (i := 8) (d := 43) (v := ?_) [9] rfl rfl (by kernel_rfl) (by kernel_rfl) (fun _ _ _ h => h) (Or.inl ⟨by rfl, ?_⟩) (by assumption) ?_
  rotate_left
  · (intro w hSw; (try dsimp only at hSw); go_simp; first | done | with_reducible rfl)
  try simp only [List.setIfInBounds_toArray, List.set_cons_zero, List.set_cons_succ]
  refine reg_take (i := 9) (d := 44) (v := ?_) [] rfl rfl (by kernel_rfl) (by kernel_rfl) (fun _ _ _ h => h) (Or.inl ⟨by rfl, ?_⟩) (by assumption) ?_
  rotate_left
  · (intro w hSw; (try dsimp only at hSw); go_simp; first | done | with_reducible rfl)
  try simp only [List.setIfInBounds_toArray, List.set_cons_zero, List.set_cons_succ]
  refine wpAnyL_ready (rs := [10]) (by kernel_rfl) rfl ?_
  refine (AllL.consJ rfl (by kernel_rfl) (fun K hK => ?_) AllL.nil)
  have y0 : w1.cell? ⟨b, 0, none⟩ = some (.slice A l.length c) := HB1.out.cell 0
  have fz := HB1.out.frozen 0
  go_simp
  refine hK.out _ _ ?_
  try simp only [List.setIfInBounds_toArray, List.set_cons_zero, List.set_cons_succ]
  refine wpAnyL_done (by kernel_rfl) ?_ _
  go_wp2
  go_ret
  exact ⟨rfl, _, HT.out.boxApp (l2 := l ++ [⟨xf, xt, xd⟩]) HW1.out (by rw [Enc.snoc]; exact HO1.out) HG1.out HAT.out (by simp)⟩
theorem send_sep (h : Sep w W (tN b lv l :: r)) (x : Letter) : Calls Try.prog 11 #[.pointer (some ⟨b, 0, none⟩), x.agg] W fun e W' => e = .returned (.int .i64 (sendE l x)) ∧ ∃ lv', Sep w W' (tN b lv' (sendL l x) :: r) := by
  by_cases hp : placeB x.frm = true ∧ placeB x.to = true ∧ x.frm ≠ x.to
  · by_cases hs : 200 < x.body.size
    · rw [sendL_no (by rw [sendE_size hp hs]; decide), sendE_size hp hs]
      exact (send_size h x hp hs).mono fun e W' k => ⟨k.1, lv, k.2⟩
    · by_cases hl : 300 ≤ l.length
      · rw [sendL_no (by rw [sendE_many hp hs hl]; decide), sendE_many hp hs hl]
        exact (send_many h x hp hs hl).mono fun e W' k => ⟨k.1, lv, k.2⟩
      · rw [sendL_ok (sendE_ok hp hs hl), sendE_ok hp hs hl]
        exact send_ok h x hp hs hl
  · rw [sendL_no (by rw [sendE_place hp]; decide), sendE_place hp]
    exact (send_bad h x hp).mono fun e W' k => ⟨k.1, lv, k.2⟩
end
end Go.Proofs.Ytofljgnfbakhoaa
