/- The walks of the document's net. Conditions: at most 300 letters are under way. -/
import Derived.Test.YtofljgnfbakhoaaNetU
set_option linter.unusedVariables false
set_option linter.unusedSimpArgs false
namespace Go.Proofs.Ytofljgnfbakhoaa
open Go.RowKit
abbrev tR (b : Nat) (lv : Value) (l : List Letter) : Th := tBox eLet tL 29 b lv l
theorem let_one (x : Letter) : ∀ u ∈ [Value.int .i64 x.frm, .int .i64 x.to, .string x.body], u.oneCell' = true := eLet.one x
section
variable {w W : World} {r : List Th} {b : Nat} {lv : Value} {l : List Letter}
theorem rsend_bad (h : Sep w W (tR b lv l :: r)) (x : Letter) (hp : ¬ (placeB x.frm = true ∧ placeB x.to = true ∧ x.frm ≠ x.to)) :
    Calls Try.prog 12 #[.pointer (some ⟨b, 0, none⟩), x.agg] W fun e W' => e = .returned (.int .i64 1) ∧ Sep w W' (tR b lv l :: r) := by
  have HT := Lib.hid (h.alloc (.cells #[.int .i64 x.frm, .int .i64 x.to, .string x.body] tL))
  obtain ⟨xf, xt, xd⟩ := x
  simp only at hp HT
  have hp2 : xf < 0 ∨ 7 < xf ∨ xt < 0 ∨ 7 < xt ∨ xf = xt := by
    unfold placeB at hp
    simp only [decide_eq_true_eq] at hp
    omega
  clear hp h
  by_cases h1 : xf < 0
  · have k1 : decide (xf < 0) = true := by simpa using h1
    go_enter Try.func12, Try.ntmps12
    go_wp2
    go_ret
    exact ⟨rfl, HT.out⟩
  have k1 : decide (xf < 0) = false := by simpa using h1
  by_cases h2 : 7 < xf
  · have k2 : decide (7 < xf) = true := by simpa using h2
    go_enter Try.func12, Try.ntmps12
    go_wp2
    go_ret
    exact ⟨rfl, HT.out⟩
  have k2 : decide (7 < xf) = false := by simpa using h2
  by_cases h3 : xt < 0
  · have k3 : decide (xt < 0) = true := by simpa using h3
    go_enter Try.func12, Try.ntmps12
    go_wp2
    go_ret
    exact ⟨rfl, HT.out⟩
  have k3 : decide (xt < 0) = false := by simpa using h3
  by_cases h4 : 7 < xt
  · have k4 : decide (7 < xt) = true := by simpa using h4
    go_enter Try.func12, Try.ntmps12
    go_wp2
    go_ret
    exact ⟨rfl, HT.out⟩
  have k4 : decide (7 < xt) = false := by simpa using h4
  have k5 : (xf == xt) = true := by simp; omega
  go_enter Try.func12, Try.ntmps12
  go_wp2
  go_ret
  exact ⟨rfl, HT.out⟩
theorem place_dec {xf xt : Int} (hp : placeB xf = true ∧ placeB xt = true ∧ xf ≠ xt) : decide (xf < 0) = false ∧ decide (7 < xf) = false ∧ decide (xt < 0) = false ∧ decide (7 < xt) = false ∧ (xf == xt) = false := by
  unfold placeB at hp
  simp only [decide_eq_true_eq] at hp
  simp
  omega
theorem rsend_size (h : Sep w W (tR b lv l :: r)) (x : Letter) (hp : placeB x.frm = true ∧ placeB x.to = true ∧ x.frm ≠ x.to) (hs : 200 < x.body.size) :
    Calls Try.prog 12 #[.pointer (some ⟨b, 0, none⟩), x.agg] W fun e W' => e = .returned (.int .i64 3) ∧ Sep w W' (tR b lv l :: r) := by
  have HT := Lib.hid (h.alloc (.cells #[.int .i64 x.frm, .int .i64 x.to, .string x.body] tL))
  obtain ⟨xf, xt, xd⟩ := x
  simp only at hp HT hs
  obtain ⟨k1, k2, k3, k4, k5⟩ := place_dec hp
  have h4 : decide ((200 : Int) < (xd.size : Int)) = true := by simp; omega
  clear hp h
  go_enter Try.func12, Try.ntmps12
  go_wp2
  go_ret
  exact ⟨rfl, HT.out⟩
theorem rsend_many (h : Sep w W (tR b lv l :: r)) (x : Letter) (hp : placeB x.frm = true ∧ placeB x.to = true ∧ x.frm ≠ x.to) (hs : ¬ 200 < x.body.size) (hl : 300 ≤ l.length) :
    Calls Try.prog 12 #[.pointer (some ⟨b, 0, none⟩), x.agg] W fun e W' => e = .returned (.int .i64 5) ∧ Sep w W' (tR b lv l :: r) := by
  have HT := Lib.hid (h.alloc (.cells #[.int .i64 x.frm, .int .i64 x.to, .string x.body] tL))
  obtain ⟨hb, A, c, rfl, _⟩ := h.box
  have z0 : ∀ o, (W.alloc o).cell? ⟨b, 0, none⟩ = some (.slice A l.length c) := fun o => (hb.alloc o).cell 0
  obtain ⟨xf, xt, xd⟩ := x
  simp only at hp HT hs
  obtain ⟨k1, k2, k3, k4, k5⟩ := place_dec hp
  have h4 : decide ((200 : Int) < (xd.size : Int)) = false := by simp; omega
  have h5 : decide ((300 : Int) ≤ (l.length : Int)) = true := by simp; omega
  clear hp h hb
  go_enter Try.func12, Try.ntmps12
  go_wp2
  go_ret
  exact ⟨rfl, HT.out⟩
set_option maxRecDepth 100000 in
set_option maxHeartbeats 4000000 in
theorem rsend_ok (h : Sep w W (tR b lv l :: r)) (x : Letter) (hp : placeB x.frm = true ∧ placeB x.to = true ∧ x.frm ≠ x.to) (hs : ¬ 200 < x.body.size) (hl : ¬ 300 ≤ l.length) :
    Calls Try.prog 12 #[.pointer (some ⟨b, 0, none⟩), x.agg] W fun e W' => e = .returned (.int .i64 0) ∧ ∃ lv', Sep w W' (tR b lv' (l ++ [x]) :: r) := by
  have HT := Lib.hid (h.alloc (.cells #[.int .i64 x.frm, .int .i64 x.to, .string x.body] tL))
  have HX := Lib.hid (Blk.new W #[.int .i64 x.frm, .int .i64 x.to, .string x.body] tL)
  obtain ⟨hb, A, c, rfl, hlc, hA, hR⟩ := h.box
  have z0 : ∀ o, (W.alloc o).cell? ⟨b, 0, none⟩ = some (.slice A l.length c) := fun o => (hb.alloc o).cell 0
  obtain ⟨xf, xt, xd⟩ := x
  simp only at hp HT hs HX
  obtain ⟨k1, k2, k3, k4, k5⟩ := place_dec hp
  have h4 : decide ((200 : Int) < (xd.size : Int)) = false := by simp; omega
  have h5 : decide ((300 : Int) ≤ (l.length : Int)) = false := by simp; omega
  have HL0 := Lib.hid (show (0 + l.length) * 32 ≤ 140737488355328 by omega)
  have HL1 := Lib.hid (show (0 + l.length + 1) * 32 ≤ 140737488355328 by omega)
  have HA := Lib.hid hA
  clear hp h hb hR hA
  go_enter Try.func12, Try.ntmps12
  go_upto_region 7 with fail
  generalize W.alloc (.cells #[.int .i64 xf, .int .i64 xt, .string xd] tL) = wc at *
  generalize W.heap.size = g at *
  clear z0 k1 k2 k3 k4 k5 h4 h5
  have HBB := Lib.hid (HT.out.box.1)
  have HR := Lib.hid (HT.out.boxOwn.rd)
  have HS : Hid (∀ w', Below wc.heap.size wc w' → w'.cell? ⟨g, 0, none⟩ = some (.int .i64 xf) ∧ w'.cell? ⟨g, 1, none⟩ = some (.int .i64 xt) ∧ w'.cell? ⟨g, 2, none⟩ = some (.string xd) ∧ w'.cell? ⟨b, 0, none⟩ = some (.slice A l.length c)) := Lib.hid (fun w' h => by
    have h1 := HX.out.upd (Upd.of_below (S := fun _ => False) h) (fun h => h)
    have h2 := HBB.out.upd (Upd.of_below (S := fun _ => False) h) (fun h => h)
    exact ⟨h1.cell 0, h1.cell 1, h1.cell 2, h2.cell 0⟩)
  have HQ := Lib.hid ((Sep.nil wc).drew)
  refine wp_region_L (fun w' => w'.cell? ⟨g, 0, none⟩ = some (.int .i64 xf) ∧ w'.cell? ⟨g, 1, none⟩ = some (.int .i64 xt) ∧ w'.cell? ⟨g, 2, none⟩ = some (.string xd) ∧ w'.cell? ⟨b, 0, none⟩ = some (.slice A l.length c)) 12 (by kernel_rfl) (HS.out _ HQ.out.bel) (fun hHeld => ?_)
  refine reg_take (i := 0) (d := 40) (v := ?_) [] rfl rfl (by kernel_rfl) (by kernel_rfl) (fun _ _ _ h => h) (Or.inl ⟨by rfl, ?_⟩) (by assumption) ?_
  rotate_left
  · (intro w hSw; (try dsimp only at hSw); go_simp; first | done | with_reducible rfl)
  try simp only [List.setIfInBounds_toArray, List.set_cons_zero, List.set_cons_succ]
  refine reg_take (i := 2) (d := 42) (v := ?_) [] rfl rfl (by kernel_rfl) (by kernel_rfl) (fun _ _ _ h => h) (Or.inl ⟨by rfl, ?_⟩) (by assumption) ?_
  rotate_left
  · (intro w hSw; (try dsimp only at hSw); go_simp; first | done | with_reducible rfl)
  try simp only [List.setIfInBounds_toArray, List.set_cons_zero, List.set_cons_succ]
  refine reg_take (i := 3) (d := 43) (v := ?_) [] rfl rfl (by kernel_rfl) (by kernel_rfl) (fun _ _ _ h => h) (Or.inl ⟨by rfl, ?_⟩) (by assumption) ?_
  rotate_left
  · (intro w hSw; (try dsimp only at hSw); go_simp; first | done | with_reducible rfl)
  try simp only [List.setIfInBounds_toArray, List.set_cons_zero, List.set_cons_succ]
  refine reg_take (i := 4) (d := 44) (v := ?_) [] rfl rfl (by kernel_rfl) (by kernel_rfl) (fun _ _ _ h => h) (Or.inl ⟨by rfl, ?_⟩) (by assumption) ?_
  rotate_left
  · (intro w hSw; (try dsimp only at hSw); go_simp; first | done | with_reducible rfl)
  try simp only [List.setIfInBounds_toArray, List.set_cons_zero, List.set_cons_succ]
  refine reg_take (i := 5) (d := 45) (v := ?_) [] rfl rfl (by kernel_rfl) (by kernel_rfl) (fun _ _ _ h => h) (Or.inl ⟨by rfl, ?_⟩) (by assumption) ?_
  rotate_left
  · (intro w hSw; (try dsimp only at hSw); go_simp; first | done | with_reducible rfl)
  try simp only [List.setIfInBounds_toArray, List.set_cons_zero, List.set_cons_succ]
  refine reg_take (i := 7) (d := 47) (v := ?_) [] rfl rfl (by kernel_rfl) (by kernel_rfl) (fun _ _ _ h => h) (Or.inl ⟨by rfl, ?_⟩) (by assumption) ?_
  rotate_left
  · (intro w hSw; (try dsimp only at hSw); go_simp; first | done | with_reducible rfl)
  try simp only [List.setIfInBounds_toArray, List.set_cons_zero, List.set_cons_succ]
  refine wpAnyL_ready (rs := [1, 8]) (by kernel_rfl) rfl ?_
  refine (AllL.cons rfl (fun K hK => ?_) (AllL.cons rfl (fun K hK => ?_) AllL.nil))
  · go_simp
    have HQ := Lib.hid (HQ.out.newRow tL 3 (g := wc.heap.size) (by simp))
    refine hK.out _ _ (HS.out _ HQ.out.bel) (fun hHeld => ?_)
    try simp only [List.setIfInBounds_toArray, List.set_cons_zero, List.set_cons_succ]
    refine wpAnyL_ready (rs := [6, 8]) (by kernel_rfl) rfl ?_
    refine (AllL.cons rfl (fun K hK => ?_) (AllL.cons rfl (fun K hK => ?_) AllL.nil))
    · refine stepA 27 tL (.agg #[.int .i64 0, .int .i64 0, .string ByteArray.empty]) 3 32 (eLet.fl l) l.length HQ.out.own HL0.out Try.underlying27 Try.infoL rfl (by decide) (by decide) (Enc.length l) (Enc.ones l) A c (HR.out.below HQ.out.bel) HA.out (.tmp 41) (.tmp 45) rfl rfl rfl rfl ?_
      intro v1 w1 ho1 hg1 hat1
      have HQ := Lib.hid (HQ.out.app ho1 hg1 hat1)
      clear ho1 hg1 hat1
      refine hK.out _ _ (HS.out _ HQ.out.bel) (fun hHeld => ?_)
      try simp only [List.setIfInBounds_toArray, List.set_cons_zero, List.set_cons_succ]
      refine wpAnyL_ready (rs := [8]) (by kernel_rfl) rfl ?_
      refine (AllL.cons rfl (fun K hK => ?_) AllL.nil)
      go_simp
      have HQ := Lib.hid ((HQ.out.newBlk #[.int .i64 xf, .int .i64 xt, .string xd] tL (g := w1.heap.size) (by simp)).sw)
      refine hK.out _ _ (HS.out _ HQ.out.bel) (fun hHeld => ?_)
      try simp only [List.setIfInBounds_toArray, List.set_cons_zero, List.set_cons_succ]
      refine wpAnyL_ready (rs := [9]) (by kernel_rfl) rfl ?_
      refine (AllL.cons rfl (fun K hK => ?_) AllL.nil)
      refine stepA 27 tL (.agg #[.int .i64 0, .int .i64 0, .string ByteArray.empty]) 3 32 [.int .i64 xf, .int .i64 xt, .string xd] 1 HQ.out.own HL1.out Try.underlying27 Try.infoL rfl (by decide) (by decide) rfl (let_one ⟨xf, xt, xd⟩) _ _ (show Rd _ (some ⟨_, 0, none⟩) _ from (show Blk _ _ #[.int .i64 xf, .int .i64 xt, .string xd] tL from HQ.out.h2).rd) (fun e => nomatch e) (.tmp 46) (.tmp 48) rfl rfl rfl rfl ?_
      intro v2 w2 ho2 hg2 hat2
      obtain ⟨A2, c2, rfl, _⟩ := ho2.form
      have HQ := Lib.hid (HQ.out.app ho2 hg2 hat2)
      clear ho2 hg2 hat2
      refine hK.out _ _ (HS.out _ HQ.out.bel) (fun hHeld => ?_)
      try simp only [List.setIfInBounds_toArray, List.set_cons_zero, List.set_cons_succ]
      refine reg_take (i := 10) (d := 50) (v := ?_) [11] rfl rfl (by kernel_rfl) (by kernel_rfl) (fun _ _ _ h => h) (Or.inl ⟨by rfl, ?_⟩) (by assumption) ?_
      rotate_left
      · (intro w hSw; (try dsimp only at hSw); go_simp; first | done | with_reducible rfl)
      try simp only [List.setIfInBounds_toArray, List.set_cons_zero, List.set_cons_succ]
      refine reg_take (i := 11) (d := 51) (v := ?_) [] rfl rfl (by kernel_rfl) (by kernel_rfl) (fun _ _ _ h => h) (Or.inl ⟨by rfl, ?_⟩) (by assumption) ?_
      rotate_left
      · (intro w hSw; (try dsimp only at hSw); go_simp; first | done | with_reducible rfl)
      try simp only [List.setIfInBounds_toArray, List.set_cons_zero, List.set_cons_succ]
      refine wpAnyL_ready (rs := [12]) (by kernel_rfl) rfl ?_
      refine (AllL.consJ rfl (by kernel_rfl) (fun K hK => ?_) AllL.nil)
      have z9 := (HBB.out.upd (Upd.of_below (S := fun _ => False) HQ.out.bel) (fun h => h)).cell 0
      have fz := (HBB.out.upd (Upd.of_below (S := fun _ => False) HQ.out.bel) (fun h => h)).frozen 0
      simp at z9
      go_simp
      refine hK.out _ _ ?_
      try simp only [List.setIfInBounds_toArray, List.set_cons_zero, List.set_cons_succ]
      refine wpAnyL_done (by kernel_rfl) ?_ _
      have hf := (HT.out.boxSet (l2 := l ++ [⟨xf, xt, xd⟩]) (HQ.out.as (t' := tOwn tL 3 (.slice A2 (0 + l.length + 1) c2) (0 + l.length + 1) (eLet.fl (l ++ [⟨xf, xt, xd⟩]))) (by rw [Enc.snoc]; exact HQ.out.own) (fun _ h => h)) (by simp))
      simp only [Nat.zero_add] at hf
      have HF := Lib.hid hf
      clear HQ hHeld z9 fz hf
      go_wp2
      go_ret
      exact ⟨rfl, _, HF.out⟩
    · go_simp
      have HQ := Lib.hid ((HQ.out.newBlk #[.int .i64 xf, .int .i64 xt, .string xd] tL (g := wc.heap.size + 1) (by simp)).sw)
      refine hK.out _ _ (HS.out _ HQ.out.bel) (fun hHeld => ?_)
      try simp only [List.setIfInBounds_toArray, List.set_cons_zero, List.set_cons_succ]
      refine wpAnyL_ready (rs := [6]) (by kernel_rfl) rfl ?_
      refine (AllL.cons rfl (fun K hK => ?_) AllL.nil)
      refine stepA 27 tL (.agg #[.int .i64 0, .int .i64 0, .string ByteArray.empty]) 3 32 (eLet.fl l) l.length HQ.out.own HL0.out Try.underlying27 Try.infoL rfl (by decide) (by decide) (Enc.length l) (Enc.ones l) A c (HR.out.below HQ.out.bel) HA.out (.tmp 41) (.tmp 45) rfl rfl rfl rfl ?_
      intro v1 w1 ho1 hg1 hat1
      have HQ := Lib.hid (HQ.out.app ho1 hg1 hat1)
      clear ho1 hg1 hat1
      refine hK.out _ _ (HS.out _ HQ.out.bel) (fun hHeld => ?_)
      try simp only [List.setIfInBounds_toArray, List.set_cons_zero, List.set_cons_succ]
      refine wpAnyL_ready (rs := [9]) (by kernel_rfl) rfl ?_
      refine (AllL.cons rfl (fun K hK => ?_) AllL.nil)
      refine stepA 27 tL (.agg #[.int .i64 0, .int .i64 0, .string ByteArray.empty]) 3 32 [.int .i64 xf, .int .i64 xt, .string xd] 1 HQ.out.own HL1.out Try.underlying27 Try.infoL rfl (by decide) (by decide) rfl (let_one ⟨xf, xt, xd⟩) _ _ (show Rd _ (some ⟨_, 0, none⟩) _ from (show Blk _ _ #[.int .i64 xf, .int .i64 xt, .string xd] tL from HQ.out.h2).rd) (fun e => nomatch e) (.tmp 46) (.tmp 48) rfl rfl rfl rfl ?_
      intro v2 w2 ho2 hg2 hat2
      obtain ⟨A2, c2, rfl, _⟩ := ho2.form
      have HQ := Lib.hid (HQ.out.app ho2 hg2 hat2)
      clear ho2 hg2 hat2
      refine hK.out _ _ (HS.out _ HQ.out.bel) (fun hHeld => ?_)
      try simp only [List.setIfInBounds_toArray, List.set_cons_zero, List.set_cons_succ]
      refine reg_take (i := 10) (d := 50) (v := ?_) [11] rfl rfl (by kernel_rfl) (by kernel_rfl) (fun _ _ _ h => h) (Or.inl ⟨by rfl, ?_⟩) (by assumption) ?_
      rotate_left
      · (intro w hSw; (try dsimp only at hSw); go_simp; first | done | with_reducible rfl)
      try simp only [List.setIfInBounds_toArray, List.set_cons_zero, List.set_cons_succ]
      refine reg_take (i := 11) (d := 51) (v := ?_) [] rfl rfl (by kernel_rfl) (by kernel_rfl) (fun _ _ _ h => h) (Or.inl ⟨by rfl, ?_⟩) (by assumption) ?_
      rotate_left
      · (intro w hSw; (try dsimp only at hSw); go_simp; first | done | with_reducible rfl)
      try simp only [List.setIfInBounds_toArray, List.set_cons_zero, List.set_cons_succ]
      refine wpAnyL_ready (rs := [12]) (by kernel_rfl) rfl ?_
      refine (AllL.consJ rfl (by kernel_rfl) (fun K hK => ?_) AllL.nil)
      have z9 := (HBB.out.upd (Upd.of_below (S := fun _ => False) HQ.out.bel) (fun h => h)).cell 0
      have fz := (HBB.out.upd (Upd.of_below (S := fun _ => False) HQ.out.bel) (fun h => h)).frozen 0
      simp at z9
      go_simp
      refine hK.out _ _ ?_
      try simp only [List.setIfInBounds_toArray, List.set_cons_zero, List.set_cons_succ]
      refine wpAnyL_done (by kernel_rfl) ?_ _
      have hf := (HT.out.boxSet (l2 := l ++ [⟨xf, xt, xd⟩]) (HQ.out.as (t' := tOwn tL 3 (.slice A2 (0 + l.length + 1) c2) (0 + l.length + 1) (eLet.fl (l ++ [⟨xf, xt, xd⟩]))) (by rw [Enc.snoc]; exact HQ.out.own) (fun _ h => h)) (by simp))
      simp only [Nat.zero_add] at hf
      have HF := Lib.hid hf
      clear HQ hHeld z9 fz hf
      go_wp2
      go_ret
      exact ⟨rfl, _, HF.out⟩
  · go_simp
    have HQ := Lib.hid ((HQ.out.newBlk #[.int .i64 xf, .int .i64 xt, .string xd] tL (g := wc.heap.size) (by simp)))
    refine hK.out _ _ (HS.out _ HQ.out.bel) (fun hHeld => ?_)
    try simp only [List.setIfInBounds_toArray, List.set_cons_zero, List.set_cons_succ]
    refine wpAnyL_ready (rs := [1]) (by kernel_rfl) rfl ?_
    refine (AllL.cons rfl (fun K hK => ?_) AllL.nil)
    go_simp
    have HQ := Lib.hid (HQ.out.newRow tL 3 (g := wc.heap.size + 1) (by simp))
    refine hK.out _ _ (HS.out _ HQ.out.bel) (fun hHeld => ?_)
    try simp only [List.setIfInBounds_toArray, List.set_cons_zero, List.set_cons_succ]
    refine wpAnyL_ready (rs := [6]) (by kernel_rfl) rfl ?_
    refine (AllL.cons rfl (fun K hK => ?_) AllL.nil)
    refine stepA 27 tL (.agg #[.int .i64 0, .int .i64 0, .string ByteArray.empty]) 3 32 (eLet.fl l) l.length HQ.out.own HL0.out Try.underlying27 Try.infoL rfl (by decide) (by decide) (Enc.length l) (Enc.ones l) A c (HR.out.below HQ.out.bel) HA.out (.tmp 41) (.tmp 45) rfl rfl rfl rfl ?_
    intro v1 w1 ho1 hg1 hat1
    have HQ := Lib.hid (HQ.out.app ho1 hg1 hat1)
    clear ho1 hg1 hat1
    refine hK.out _ _ (HS.out _ HQ.out.bel) (fun hHeld => ?_)
    try simp only [List.setIfInBounds_toArray, List.set_cons_zero, List.set_cons_succ]
    refine wpAnyL_ready (rs := [9]) (by kernel_rfl) rfl ?_
    refine (AllL.cons rfl (fun K hK => ?_) AllL.nil)
    refine stepA 27 tL (.agg #[.int .i64 0, .int .i64 0, .string ByteArray.empty]) 3 32 [.int .i64 xf, .int .i64 xt, .string xd] 1 HQ.out.own HL1.out Try.underlying27 Try.infoL rfl (by decide) (by decide) rfl (let_one ⟨xf, xt, xd⟩) _ _ (show Rd _ (some ⟨_, 0, none⟩) _ from (show Blk _ _ #[.int .i64 xf, .int .i64 xt, .string xd] tL from HQ.out.h2).rd) (fun e => nomatch e) (.tmp 46) (.tmp 48) rfl rfl rfl rfl ?_
    intro v2 w2 ho2 hg2 hat2
    obtain ⟨A2, c2, rfl, _⟩ := ho2.form
    have HQ := Lib.hid (HQ.out.app ho2 hg2 hat2)
    clear ho2 hg2 hat2
    refine hK.out _ _ (HS.out _ HQ.out.bel) (fun hHeld => ?_)
    try simp only [List.setIfInBounds_toArray, List.set_cons_zero, List.set_cons_succ]
    refine reg_take (i := 10) (d := 50) (v := ?_) [11] rfl rfl (by kernel_rfl) (by kernel_rfl) (fun _ _ _ h => h) (Or.inl ⟨by rfl, ?_⟩) (by assumption) ?_
    rotate_left
    · (intro w hSw; (try dsimp only at hSw); go_simp; first | done | with_reducible rfl)
    try simp only [List.setIfInBounds_toArray, List.set_cons_zero, List.set_cons_succ]
    refine reg_take (i := 11) (d := 51) (v := ?_) [] rfl rfl (by kernel_rfl) (by kernel_rfl) (fun _ _ _ h => h) (Or.inl ⟨by rfl, ?_⟩) (by assumption) ?_
    rotate_left
    · (intro w hSw; (try dsimp only at hSw); go_simp; first | done | with_reducible rfl)
    try simp only [List.setIfInBounds_toArray, List.set_cons_zero, List.set_cons_succ]
    refine wpAnyL_ready (rs := [12]) (by kernel_rfl) rfl ?_
    refine (AllL.consJ rfl (by kernel_rfl) (fun K hK => ?_) AllL.nil)
    have z9 := (HBB.out.upd (Upd.of_below (S := fun _ => False) HQ.out.bel) (fun h => h)).cell 0
    have fz := (HBB.out.upd (Upd.of_below (S := fun _ => False) HQ.out.bel) (fun h => h)).frozen 0
    simp at z9
    go_simp
    refine hK.out _ _ ?_
    try simp only [List.setIfInBounds_toArray, List.set_cons_zero, List.set_cons_succ]
    refine wpAnyL_done (by kernel_rfl) ?_ _
    have hf := (HT.out.boxSet (l2 := l ++ [⟨xf, xt, xd⟩]) (HQ.out.as (t' := tOwn tL 3 (.slice A2 (0 + l.length + 1) c2) (0 + l.length + 1) (eLet.fl (l ++ [⟨xf, xt, xd⟩]))) (by rw [Enc.snoc]; exact HQ.out.own) (fun _ h => h)) (by simp))
    simp only [Nat.zero_add] at hf
    have HF := Lib.hid hf
    clear HQ hHeld z9 fz hf
    go_wp2
    go_ret
    exact ⟨rfl, _, HF.out⟩
theorem rsend_sep (h : Sep w W (tR b lv l :: r)) (x : Letter) : Calls Try.prog 12 #[.pointer (some ⟨b, 0, none⟩), x.agg] W fun e W' => e = .returned (.int .i64 (sendE l x)) ∧ ∃ lv', Sep w W' (tR b lv' (sendL l x) :: r) := by
  by_cases hp : placeB x.frm = true ∧ placeB x.to = true ∧ x.frm ≠ x.to
  · by_cases hs : 200 < x.body.size
    · rw [sendL_no (by rw [sendE_size hp hs]; decide), sendE_size hp hs]
      exact (rsend_size h x hp hs).mono fun e W' k => ⟨k.1, lv, k.2⟩
    · by_cases hl : 300 ≤ l.length
      · rw [sendL_no (by rw [sendE_many hp hs hl]; decide), sendE_many hp hs hl]
        exact (rsend_many h x hp hs hl).mono fun e W' k => ⟨k.1, lv, k.2⟩
      · rw [sendL_ok (sendE_ok hp hs hl), sendE_ok hp hs hl]
        exact rsend_ok h x hp hs hl
  · rw [sendL_no (by rw [sendE_place hp]; decide), sendE_place hp]
    exact (rsend_bad h x hp).mono fun e W' k => ⟨k.1, lv, k.2⟩
theorem rat_some (A : Option Addr) (n c : Nat) (i : Int) (w : World) (hb : Blk w b #[.slice A n c] 29) (hn : 0 < n) (hn2 : n ≤ 300) :
    Calls Try.prog 25 #[.pointer (some ⟨b, 0, none⟩), .int .i64 i] w fun e w' => e = .returned (.int .i64 (atK i n : Nat)) ∧ w = w' := by
  have z0 : w.cell? ⟨b, 0, none⟩ = some (.slice A n c) := hb.cell 0
  have h1 : ((n : Int) == 0) = false := by simp; omega
  have hbd := tmod_bd i hn
  have hk := tmod_neg i hn
  rw [← atK_cast i hn] at hk
  have h3 : IntKind.i64.wrap (i.tmod n + n) = i.tmod n + n := IntWalk.i64_in _ (by omega)
  by_cases h4 : i.tmod n < 0
  · rw [if_pos h4] at hk
    have HK := Lib.hid hk
    have h5 : decide (i.tmod n < 0) = true := by simpa using h4
    clear hbd hk h4
    go_enter Try.func25, Try.ntmps25
    go_wp2
    go_ret
    exact ⟨ret_int HK.out, rfl⟩
  · rw [if_neg h4] at hk
    have HK := Lib.hid hk
    have h5 : decide (i.tmod n < 0) = false := by simpa using h4
    clear hbd hk h4
    go_enter Try.func25, Try.ntmps25
    go_wp2
    go_ret
    exact ⟨ret_int HK.out, rfl⟩
theorem rat_none (A : Option Addr) (c : Nat) (i : Int) (w : World) (hb : Blk w b #[.slice A 0 c] 29) :
    Calls Try.prog 25 #[.pointer (some ⟨b, 0, none⟩), .int .i64 i] w fun e w' => e = .returned (.int .i64 (-1)) ∧ w = w' := by
  have z0 : w.cell? ⟨b, 0, none⟩ = some (.slice A 0 c) := hb.cell 0
  go_enter Try.func25, Try.ntmps25
  go_wp2
  go_ret
  exact ⟨rfl, rfl⟩
theorem rcopy_none (h : Sep w W (tR b lv [] :: r)) (i : Int) :
    Calls Try.prog 16 #[.pointer (some ⟨b, 0, none⟩), .int .i64 i] W fun e W' => e = .returned (.bool false) ∧ Sep w W' (tR b lv [] :: r) := by
  obtain ⟨hb, A, c, rfl, _⟩ := h.box
  have HB := Lib.hid hb
  have HT := Lib.hid h
  clear h hb
  go_enter Try.func16, Try.ntmps16
  go_wp2_with (go_at_call 25; refine (rat_none A c i _ HB.out).mono ?_; rintro e w' ⟨rfl, rfl⟩)
  go_ret
  exact ⟨rfl, HT.out⟩
theorem rcopy_full (h : Sep w W (tR b lv l :: r)) (i : Int) (hn : 0 < l.length) (hn2 : l.length = 300) :
    Calls Try.prog 16 #[.pointer (some ⟨b, 0, none⟩), .int .i64 i] W fun e W' => e = .returned (.bool false) ∧ Sep w W' (tR b lv l :: r) := by
  obtain ⟨hb, A, c, rfl, _⟩ := h.box
  have HB := Lib.hid hb
  have z0 : W.cell? ⟨b, 0, none⟩ = some (.slice A l.length c) := hb.cell 0
  have HT := Lib.hid h
  have hk := atK_lt i hn
  generalize hkk : atK i l.length = k at *
  have HK := Lib.hid hkk
  have h5 : decide ((300 : Int) ≤ (l.length : Int)) = true := by simp; omega
  have h6 : decide ((k : Int) < 0) = false := by simp
  have HN := Lib.hid (show l.length ≤ 300 by omega)
  clear h hb hkk hn2
  go_enter Try.func16, Try.ntmps16
  go_wp2_with (go_at_call 25; refine (rat_some A l.length c i _ HB.out hn HN.out).mono ?_; rintro e w' ⟨rfl, rfl⟩; simp only [HK.out])
  go_ret
  exact ⟨rfl, HT.out⟩
set_option maxRecDepth 100000 in
set_option maxHeartbeats 4000000 in
theorem rcopy_ok (h : Sep w W (tR b lv l :: r)) (i : Int) (k : Nat) (x : Letter) (hk : atK i l.length = k) (hx : l[k]? = some x) (hn2 : l.length < 300) :
    Calls Try.prog 16 #[.pointer (some ⟨b, 0, none⟩), .int .i64 i] W fun e W' => e = .returned (.bool true) ∧ ∃ lv', Sep w W' (tR b lv' (l ++ [x]) :: r) := by
  obtain ⟨hkl, hx0⟩ := List.getElem?_eq_some_iff.1 hx
  have hn : 0 < l.length := by omega
  obtain ⟨hb, A, c, rfl, hlc, hA, hR⟩ := h.box
  obtain ⟨gb, go, rfl, u0, u1, u2⟩ := hR.let3 k x hx
  have z0 : W.cell? ⟨b, 0, none⟩ = some (.slice (some ⟨gb, go, none⟩) l.length c) := hb.cell 0
  have HB := Lib.hid hb
  have HT := Lib.hid h
  have HK := Lib.hid hk
  have i0 : (0 : Int) ≤ (k : Int) := by omega
  have i1 : (k : Int) < (l.length : Int) := by omega
  have h5 : decide ((300 : Int) ≤ (l.length : Int)) = false := by simp; omega
  have h6 : decide ((k : Int) < 0) = false := by simp
  have HN := Lib.hid (show l.length ≤ 300 by omega)
  have HL0 := Lib.hid (show (0 + l.length) * 32 ≤ 140737488355328 by omega)
  have HL1 := Lib.hid (show (0 + l.length + 1) * 32 ≤ 140737488355328 by omega)
  have HA := Lib.hid hA
  have HU := Lib.hid (And.intro u0 (And.intro u1 u2))
  obtain ⟨xf, xt, xd⟩ := x
  clear h hb hx hx0 hR hA hk u0 u1 u2
  go_enter Try.func16, Try.ntmps16
  go_upto_region 4 with (go_at_call 25; refine (rat_some _ l.length c i _ HB.out hn HN.out).mono ?_; rintro e w' ⟨rfl, rfl⟩; simp only [HK.out])
  clear h5 h6 z0
  obtain ⟨wc, hwc⟩ : ∃ x : World, x = W := ⟨_, rfl⟩
  rw [← hwc] at HB HT HU
  rw [← hwc]
  clear hwc
  have HBB := Lib.hid (HT.out.box.1)
  have HR := Lib.hid (HT.out.boxOwn.rd)
  have HS : Hid (∀ w', Below wc.heap.size wc w' → w'.cell? ⟨gb, go + k * 3, none⟩ = some (.int .i64 xf) ∧ w'.cell? ⟨gb, go + k * 3 + 1, none⟩ = some (.int .i64 xt) ∧ w'.cell? ⟨gb, go + k * 3 + 2, none⟩ = some (.string xd) ∧ w'.cell? ⟨b, 0, none⟩ = some (.slice (some ⟨gb, go, none⟩) l.length c)) := Lib.hid (fun w' h => by
    have h2 := HBB.out.upd (Upd.of_below (S := fun _ => False) h) (fun h => h)
    obtain ⟨u0, u1, u2⟩ := HU.out
    exact ⟨(h.cell (World.block_lt_of_cell? wc _ u0)).trans u0, (h.cell (World.block_lt_of_cell? wc _ u1)).trans u1, (h.cell (World.block_lt_of_cell? wc _ u2)).trans u2, h2.cell 0⟩)
  have HQ := Lib.hid ((Sep.nil wc).drew)
  refine wp_region_L (fun w' => w'.cell? ⟨gb, go + k * 3, none⟩ = some (.int .i64 xf) ∧ w'.cell? ⟨gb, go + k * 3 + 1, none⟩ = some (.int .i64 xt) ∧ w'.cell? ⟨gb, go + k * 3 + 2, none⟩ = some (.string xd) ∧ w'.cell? ⟨b, 0, none⟩ = some (.slice (some ⟨gb, go, none⟩) l.length c)) 18 (by kernel_rfl) (HS.out _ HQ.out.bel) (fun hHeld => ?_)
  refine reg_take (i := 0) (d := 19) (v := ?_) [] rfl rfl (by kernel_rfl) (by kernel_rfl) (fun _ _ _ h => h) (Or.inl ⟨by rfl, ?_⟩) (by assumption) ?_
  rotate_left
  · (intro w hSw; (try dsimp only at hSw); go_simp; first | done | with_reducible rfl)
  try simp only [List.setIfInBounds_toArray, List.set_cons_zero, List.set_cons_succ]
  refine reg_take (i := 2) (d := 21) (v := ?_) [] rfl rfl (by kernel_rfl) (by kernel_rfl) (fun _ _ _ h => h) (Or.inl ⟨by rfl, ?_⟩) (by assumption) ?_
  rotate_left
  · (intro w hSw; (try dsimp only at hSw); go_simp; first | done | with_reducible rfl)
  try simp only [List.setIfInBounds_toArray, List.set_cons_zero, List.set_cons_succ]
  refine reg_take (i := 3) (d := 22) (v := ?_) [] rfl rfl (by kernel_rfl) (by kernel_rfl) (fun _ _ _ h => h) (Or.inl ⟨by rfl, ?_⟩) (by assumption) ?_
  rotate_left
  · (intro w hSw; (try dsimp only at hSw); go_simp; first | done | with_reducible rfl)
  try simp only [List.setIfInBounds_toArray, List.set_cons_zero, List.set_cons_succ]
  refine reg_take (i := 4) (d := 23) (v := ?_) [] rfl rfl (by kernel_rfl) (by kernel_rfl) (fun _ _ _ h => h) (Or.inl ⟨by rfl, ?_⟩) (by assumption) ?_
  rotate_left
  · (intro w hSw; (try dsimp only at hSw); go_simp; first | done | with_reducible rfl)
  try simp only [List.setIfInBounds_toArray, List.set_cons_zero, List.set_cons_succ]
  refine reg_take (i := 5) (d := 24) (v := ?_) [] rfl rfl (by kernel_rfl) (by kernel_rfl) (fun _ _ _ h => h) (Or.inl ⟨by rfl, ?_⟩) (by assumption) ?_
  rotate_left
  · (intro w hSw; (try dsimp only at hSw); go_simp; first | done | with_reducible rfl)
  try simp only [List.setIfInBounds_toArray, List.set_cons_zero, List.set_cons_succ]
  refine reg_take (i := 7) (d := 26) (v := ?_) [] rfl rfl (by kernel_rfl) (by kernel_rfl) (fun _ _ _ h => h) (Or.inl ⟨by rfl, ?_⟩) (by assumption) ?_
  rotate_left
  · (intro w hSw; (try dsimp only at hSw); go_simp; first | done | with_reducible rfl)
  try simp only [List.setIfInBounds_toArray, List.set_cons_zero, List.set_cons_succ]
  refine reg_take (i := 8) (d := 27) (v := ?_) [] rfl rfl (by kernel_rfl) (by kernel_rfl) (fun _ _ _ h => h) (Or.inl ⟨by rfl, ?_⟩) (by assumption) ?_
  rotate_left
  · (intro w hSw; (try dsimp only at hSw); go_simp; first | done | with_reducible rfl)
  try simp only [List.setIfInBounds_toArray, List.set_cons_zero, List.set_cons_succ]
  refine reg_take (i := 9) (d := 28) (v := ?_) [] rfl rfl (by kernel_rfl) (by kernel_rfl) (fun _ _ _ h => h) (Or.inl ⟨by rfl, ?_⟩) (by assumption) ?_
  rotate_left
  · (intro w hSw; (try dsimp only at hSw); go_simp; first | done | with_reducible rfl)
  try simp only [List.setIfInBounds_toArray, List.set_cons_zero, List.set_cons_succ]
  refine reg_take (i := 10) (d := 29) (v := ?_) [] rfl rfl (by kernel_rfl) (by kernel_rfl) (fun _ _ _ h => h) (Or.inl ⟨by rfl, ?_⟩) (by assumption) ?_
  rotate_left
  · (intro w hSw; (try dsimp only at hSw); go_simp; first | done | with_reducible rfl)
  try simp only [List.setIfInBounds_toArray, List.set_cons_zero, List.set_cons_succ]
  refine reg_take (i := 11) (d := 30) (v := ?_) [] rfl rfl (by kernel_rfl) (by kernel_rfl) (fun _ _ _ h => h) (Or.inl ⟨by rfl, ?_⟩) (by assumption) ?_
  rotate_left
  · (intro w hSw; (try dsimp only at hSw); go_simp; first | done | with_reducible rfl)
  try simp only [List.setIfInBounds_toArray, List.set_cons_zero, List.set_cons_succ]
  refine reg_take (i := 12) (d := 31) (v := ?_) [] rfl rfl (by kernel_rfl) (by kernel_rfl) (fun _ _ _ h => h) (Or.inl ⟨by rfl, ?_⟩) (by assumption) ?_
  rotate_left
  · (intro w hSw; (try dsimp only at hSw); go_simp; first | done | with_reducible rfl)
  try simp only [List.setIfInBounds_toArray, List.set_cons_zero, List.set_cons_succ]
  refine reg_take (i := 13) (d := 32) (v := ?_) [] rfl rfl (by kernel_rfl) (by kernel_rfl) (fun _ _ _ h => h) (Or.inl ⟨by rfl, ?_⟩) (by assumption) ?_
  rotate_left
  · (intro w hSw; (try dsimp only at hSw); go_simp; first | done | with_reducible rfl)
  try simp only [List.setIfInBounds_toArray, List.set_cons_zero, List.set_cons_succ]
  refine wpAnyL_ready (rs := [1, 14]) (by kernel_rfl) rfl ?_
  refine (AllL.cons rfl (fun K hK => ?_) (AllL.cons rfl (fun K hK => ?_) AllL.nil))
  · go_simp
    have HQ := Lib.hid (HQ.out.newRow tL 3 (g := wc.heap.size) (by simp))
    refine hK.out _ _ (HS.out _ HQ.out.bel) (fun hHeld => ?_)
    try simp only [List.setIfInBounds_toArray, List.set_cons_zero, List.set_cons_succ]
    refine wpAnyL_ready (rs := [6, 14]) (by kernel_rfl) rfl ?_
    refine (AllL.cons rfl (fun K hK => ?_) (AllL.cons rfl (fun K hK => ?_) AllL.nil))
    · refine stepA 27 tL (.agg #[.int .i64 0, .int .i64 0, .string ByteArray.empty]) 3 32 (eLet.fl l) l.length HQ.out.own HL0.out Try.underlying27 Try.infoL rfl (by decide) (by decide) (Enc.length l) (Enc.ones l) (some ⟨gb, go, none⟩) c (HR.out.below HQ.out.bel) HA.out (.tmp 20) (.tmp 24) rfl rfl rfl rfl ?_
      intro v1 w1 ho1 hg1 hat1
      have HQ := Lib.hid (HQ.out.app ho1 hg1 hat1)
      clear ho1 hg1 hat1
      refine hK.out _ _ (HS.out _ HQ.out.bel) (fun hHeld => ?_)
      try simp only [List.setIfInBounds_toArray, List.set_cons_zero, List.set_cons_succ]
      refine wpAnyL_ready (rs := [14]) (by kernel_rfl) rfl ?_
      refine (AllL.cons rfl (fun K hK => ?_) AllL.nil)
      go_simp
      have HQ := Lib.hid ((HQ.out.newBlk #[.int .i64 xf, .int .i64 xt, .string xd] tL (g := w1.heap.size) (by simp)).sw)
      refine hK.out _ _ (HS.out _ HQ.out.bel) (fun hHeld => ?_)
      try simp only [List.setIfInBounds_toArray, List.set_cons_zero, List.set_cons_succ]
      refine wpAnyL_ready (rs := [15]) (by kernel_rfl) rfl ?_
      refine (AllL.cons rfl (fun K hK => ?_) AllL.nil)
      refine stepA 27 tL (.agg #[.int .i64 0, .int .i64 0, .string ByteArray.empty]) 3 32 [.int .i64 xf, .int .i64 xt, .string xd] 1 HQ.out.own HL1.out Try.underlying27 Try.infoL rfl (by decide) (by decide) rfl (let_one ⟨xf, xt, xd⟩) _ _ (show Rd _ (some ⟨_, 0, none⟩) _ from (show Blk _ _ #[.int .i64 xf, .int .i64 xt, .string xd] tL from HQ.out.h2).rd) (fun e => nomatch e) (.tmp 25) (.tmp 33) rfl rfl rfl rfl ?_
      intro v2 w2 ho2 hg2 hat2
      obtain ⟨A2, c2, rfl, _⟩ := ho2.form
      have HQ := Lib.hid (HQ.out.app ho2 hg2 hat2)
      clear ho2 hg2 hat2
      refine hK.out _ _ (HS.out _ HQ.out.bel) (fun hHeld => ?_)
      try simp only [List.setIfInBounds_toArray, List.set_cons_zero, List.set_cons_succ]
      refine reg_take (i := 16) (d := 35) (v := ?_) [17] rfl rfl (by kernel_rfl) (by kernel_rfl) (fun _ _ _ h => h) (Or.inl ⟨by rfl, ?_⟩) (by assumption) ?_
      rotate_left
      · (intro w hSw; (try dsimp only at hSw); go_simp; first | done | with_reducible rfl)
      try simp only [List.setIfInBounds_toArray, List.set_cons_zero, List.set_cons_succ]
      refine reg_take (i := 17) (d := 36) (v := ?_) [] rfl rfl (by kernel_rfl) (by kernel_rfl) (fun _ _ _ h => h) (Or.inl ⟨by rfl, ?_⟩) (by assumption) ?_
      rotate_left
      · (intro w hSw; (try dsimp only at hSw); go_simp; first | done | with_reducible rfl)
      try simp only [List.setIfInBounds_toArray, List.set_cons_zero, List.set_cons_succ]
      refine wpAnyL_ready (rs := [18]) (by kernel_rfl) rfl ?_
      refine (AllL.consJ rfl (by kernel_rfl) (fun K hK => ?_) AllL.nil)
      have z9 := (HBB.out.upd (Upd.of_below (S := fun _ => False) HQ.out.bel) (fun h => h)).cell 0
      have fz := (HBB.out.upd (Upd.of_below (S := fun _ => False) HQ.out.bel) (fun h => h)).frozen 0
      simp at z9
      go_simp
      refine hK.out _ _ ?_
      try simp only [List.setIfInBounds_toArray, List.set_cons_zero, List.set_cons_succ]
      refine wpAnyL_done (by kernel_rfl) ?_ _
      have hf := (HT.out.boxSet (l2 := l ++ [⟨xf, xt, xd⟩]) (HQ.out.as (t' := tOwn tL 3 (.slice A2 (0 + l.length + 1) c2) (0 + l.length + 1) (eLet.fl (l ++ [⟨xf, xt, xd⟩]))) (by rw [Enc.snoc]; exact HQ.out.own) (fun _ h => h)) (by simp))
      simp only [Nat.zero_add] at hf
      have HF := Lib.hid hf
      clear HQ hHeld z9 fz hf
      go_wp2
      go_ret
      exact ⟨rfl, _, HF.out⟩
    · go_simp
      have HQ := Lib.hid ((HQ.out.newBlk #[.int .i64 xf, .int .i64 xt, .string xd] tL (g := wc.heap.size + 1) (by simp)).sw)
      refine hK.out _ _ (HS.out _ HQ.out.bel) (fun hHeld => ?_)
      try simp only [List.setIfInBounds_toArray, List.set_cons_zero, List.set_cons_succ]
      refine wpAnyL_ready (rs := [6]) (by kernel_rfl) rfl ?_
      refine (AllL.cons rfl (fun K hK => ?_) AllL.nil)
      refine stepA 27 tL (.agg #[.int .i64 0, .int .i64 0, .string ByteArray.empty]) 3 32 (eLet.fl l) l.length HQ.out.own HL0.out Try.underlying27 Try.infoL rfl (by decide) (by decide) (Enc.length l) (Enc.ones l) (some ⟨gb, go, none⟩) c (HR.out.below HQ.out.bel) HA.out (.tmp 20) (.tmp 24) rfl rfl rfl rfl ?_
      intro v1 w1 ho1 hg1 hat1
      have HQ := Lib.hid (HQ.out.app ho1 hg1 hat1)
      clear ho1 hg1 hat1
      refine hK.out _ _ (HS.out _ HQ.out.bel) (fun hHeld => ?_)
      try simp only [List.setIfInBounds_toArray, List.set_cons_zero, List.set_cons_succ]
      refine wpAnyL_ready (rs := [15]) (by kernel_rfl) rfl ?_
      refine (AllL.cons rfl (fun K hK => ?_) AllL.nil)
      refine stepA 27 tL (.agg #[.int .i64 0, .int .i64 0, .string ByteArray.empty]) 3 32 [.int .i64 xf, .int .i64 xt, .string xd] 1 HQ.out.own HL1.out Try.underlying27 Try.infoL rfl (by decide) (by decide) rfl (let_one ⟨xf, xt, xd⟩) _ _ (show Rd _ (some ⟨_, 0, none⟩) _ from (show Blk _ _ #[.int .i64 xf, .int .i64 xt, .string xd] tL from HQ.out.h2).rd) (fun e => nomatch e) (.tmp 25) (.tmp 33) rfl rfl rfl rfl ?_
      intro v2 w2 ho2 hg2 hat2
      obtain ⟨A2, c2, rfl, _⟩ := ho2.form
      have HQ := Lib.hid (HQ.out.app ho2 hg2 hat2)
      clear ho2 hg2 hat2
      refine hK.out _ _ (HS.out _ HQ.out.bel) (fun hHeld => ?_)
      try simp only [List.setIfInBounds_toArray, List.set_cons_zero, List.set_cons_succ]
      refine reg_take (i := 16) (d := 35) (v := ?_) [17] rfl rfl (by kernel_rfl) (by kernel_rfl) (fun _ _ _ h => h) (Or.inl ⟨by rfl, ?_⟩) (by assumption) ?_
      rotate_left
      · (intro w hSw; (try dsimp only at hSw); go_simp; first | done | with_reducible rfl)
      try simp only [List.setIfInBounds_toArray, List.set_cons_zero, List.set_cons_succ]
      refine reg_take (i := 17) (d := 36) (v := ?_) [] rfl rfl (by kernel_rfl) (by kernel_rfl) (fun _ _ _ h => h) (Or.inl ⟨by rfl, ?_⟩) (by assumption) ?_
      rotate_left
      · (intro w hSw; (try dsimp only at hSw); go_simp; first | done | with_reducible rfl)
      try simp only [List.setIfInBounds_toArray, List.set_cons_zero, List.set_cons_succ]
      refine wpAnyL_ready (rs := [18]) (by kernel_rfl) rfl ?_
      refine (AllL.consJ rfl (by kernel_rfl) (fun K hK => ?_) AllL.nil)
      have z9 := (HBB.out.upd (Upd.of_below (S := fun _ => False) HQ.out.bel) (fun h => h)).cell 0
      have fz := (HBB.out.upd (Upd.of_below (S := fun _ => False) HQ.out.bel) (fun h => h)).frozen 0
      simp at z9
      go_simp
      refine hK.out _ _ ?_
      try simp only [List.setIfInBounds_toArray, List.set_cons_zero, List.set_cons_succ]
      refine wpAnyL_done (by kernel_rfl) ?_ _
      have hf := (HT.out.boxSet (l2 := l ++ [⟨xf, xt, xd⟩]) (HQ.out.as (t' := tOwn tL 3 (.slice A2 (0 + l.length + 1) c2) (0 + l.length + 1) (eLet.fl (l ++ [⟨xf, xt, xd⟩]))) (by rw [Enc.snoc]; exact HQ.out.own) (fun _ h => h)) (by simp))
      simp only [Nat.zero_add] at hf
      have HF := Lib.hid hf
      clear HQ hHeld z9 fz hf
      go_wp2
      go_ret
      exact ⟨rfl, _, HF.out⟩
  · go_simp
    have HQ := Lib.hid ((HQ.out.newBlk #[.int .i64 xf, .int .i64 xt, .string xd] tL (g := wc.heap.size) (by simp)))
    refine hK.out _ _ (HS.out _ HQ.out.bel) (fun hHeld => ?_)
    try simp only [List.setIfInBounds_toArray, List.set_cons_zero, List.set_cons_succ]
    refine wpAnyL_ready (rs := [1]) (by kernel_rfl) rfl ?_
    refine (AllL.cons rfl (fun K hK => ?_) AllL.nil)
    go_simp
    have HQ := Lib.hid (HQ.out.newRow tL 3 (g := wc.heap.size + 1) (by simp))
    refine hK.out _ _ (HS.out _ HQ.out.bel) (fun hHeld => ?_)
    try simp only [List.setIfInBounds_toArray, List.set_cons_zero, List.set_cons_succ]
    refine wpAnyL_ready (rs := [6]) (by kernel_rfl) rfl ?_
    refine (AllL.cons rfl (fun K hK => ?_) AllL.nil)
    refine stepA 27 tL (.agg #[.int .i64 0, .int .i64 0, .string ByteArray.empty]) 3 32 (eLet.fl l) l.length HQ.out.own HL0.out Try.underlying27 Try.infoL rfl (by decide) (by decide) (Enc.length l) (Enc.ones l) (some ⟨gb, go, none⟩) c (HR.out.below HQ.out.bel) HA.out (.tmp 20) (.tmp 24) rfl rfl rfl rfl ?_
    intro v1 w1 ho1 hg1 hat1
    have HQ := Lib.hid (HQ.out.app ho1 hg1 hat1)
    clear ho1 hg1 hat1
    refine hK.out _ _ (HS.out _ HQ.out.bel) (fun hHeld => ?_)
    try simp only [List.setIfInBounds_toArray, List.set_cons_zero, List.set_cons_succ]
    refine wpAnyL_ready (rs := [15]) (by kernel_rfl) rfl ?_
    refine (AllL.cons rfl (fun K hK => ?_) AllL.nil)
    refine stepA 27 tL (.agg #[.int .i64 0, .int .i64 0, .string ByteArray.empty]) 3 32 [.int .i64 xf, .int .i64 xt, .string xd] 1 HQ.out.own HL1.out Try.underlying27 Try.infoL rfl (by decide) (by decide) rfl (let_one ⟨xf, xt, xd⟩) _ _ (show Rd _ (some ⟨_, 0, none⟩) _ from (show Blk _ _ #[.int .i64 xf, .int .i64 xt, .string xd] tL from HQ.out.h2).rd) (fun e => nomatch e) (.tmp 25) (.tmp 33) rfl rfl rfl rfl ?_
    intro v2 w2 ho2 hg2 hat2
    obtain ⟨A2, c2, rfl, _⟩ := ho2.form
    have HQ := Lib.hid (HQ.out.app ho2 hg2 hat2)
    clear ho2 hg2 hat2
    refine hK.out _ _ (HS.out _ HQ.out.bel) (fun hHeld => ?_)
    try simp only [List.setIfInBounds_toArray, List.set_cons_zero, List.set_cons_succ]
    refine reg_take (i := 16) (d := 35) (v := ?_) [17] rfl rfl (by kernel_rfl) (by kernel_rfl) (fun _ _ _ h => h) (Or.inl ⟨by rfl, ?_⟩) (by assumption) ?_
    rotate_left
    · (intro w hSw; (try dsimp only at hSw); go_simp; first | done | with_reducible rfl)
    try simp only [List.setIfInBounds_toArray, List.set_cons_zero, List.set_cons_succ]
    refine reg_take (i := 17) (d := 36) (v := ?_) [] rfl rfl (by kernel_rfl) (by kernel_rfl) (fun _ _ _ h => h) (Or.inl ⟨by rfl, ?_⟩) (by assumption) ?_
    rotate_left
    · (intro w hSw; (try dsimp only at hSw); go_simp; first | done | with_reducible rfl)
    try simp only [List.setIfInBounds_toArray, List.set_cons_zero, List.set_cons_succ]
    refine wpAnyL_ready (rs := [18]) (by kernel_rfl) rfl ?_
    refine (AllL.consJ rfl (by kernel_rfl) (fun K hK => ?_) AllL.nil)
    have z9 := (HBB.out.upd (Upd.of_below (S := fun _ => False) HQ.out.bel) (fun h => h)).cell 0
    have fz := (HBB.out.upd (Upd.of_below (S := fun _ => False) HQ.out.bel) (fun h => h)).frozen 0
    simp at z9
    go_simp
    refine hK.out _ _ ?_
    try simp only [List.setIfInBounds_toArray, List.set_cons_zero, List.set_cons_succ]
    refine wpAnyL_done (by kernel_rfl) ?_ _
    have hf := (HT.out.boxSet (l2 := l ++ [⟨xf, xt, xd⟩]) (HQ.out.as (t' := tOwn tL 3 (.slice A2 (0 + l.length + 1) c2) (0 + l.length + 1) (eLet.fl (l ++ [⟨xf, xt, xd⟩]))) (by rw [Enc.snoc]; exact HQ.out.own) (fun _ h => h)) (by simp))
    simp only [Nat.zero_add] at hf
    have HF := Lib.hid hf
    clear HQ hHeld z9 fz hf
    go_wp2
    go_ret
    exact ⟨rfl, _, HF.out⟩
end
end Go.Proofs.Ytofljgnfbakhoaa
