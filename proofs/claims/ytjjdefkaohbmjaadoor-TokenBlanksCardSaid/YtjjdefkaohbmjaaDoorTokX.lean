/- The walk of same. Condition: rows of a length that a machine has. -/
import Derived.Test.YtjjdefkaohbmjaaDoorTokN
import Derived.Test.YtjjdefkaohbmjaaDoorTokU
import Derived.Test.YtjjdefkaohbmjaaDoorReg
set_option linter.unusedVariables false
set_option linter.unusedSimpArgs false
namespace Go.Proofs.YtjjdefkaohbmjaaDoor
open Go.RowKit Go.Lib
set_option maxHeartbeats 8000000 in
set_option maxRecDepth 1000000 in
theorem same_any (xs ys : List Bs) (A B : Option Addr) (n c m d : Nat) (w : World) (hx : xs.length = n) (hy : ys.length = m) (hn : n ≤ 100000) (hm : m ≤ 100000) (hra : Rd w A (eStr.fl (xs.map ba))) (hrb : Rd w B (eStr.fl (ys.map ba))) :
    Calls Tryd.prog 15 #[.slice A n c, .slice B m d] w fun e w' => e = .returned (.bool (decide (xs = ys))) ∧ Below w.heap.size w w' := by
  have HX := Lib.hid hx
  have HY := Lib.hid hy
  have HA := Lib.hid hra
  have HB := Lib.hid hrb
  clear hx hy hra hrb
  go_enter Tryd.func15, Tryd.ntmps15
  by_cases hnm : n = m
  case neg =>
    as_aux_lemma =>
      have e1 : ((n : Int) != (m : Int)) = true := by simp [bne]; omega
      have HR := Lib.hid (show decide (xs = ys) = false from decide_eq_false fun h => hnm (by rw [← HX.out, ← HY.out, h]))
      clear hnm
      go_wp2_with fail
      go_ret
      exact ⟨by rw [HR.out]; rfl, Below.refl _ _⟩
  subst hnm
  have e1 : ((n : Int) != (n : Int)) = false := by simp
  go_wp2_with fail
  clear e1
  go_loopg [13] n (fun gk s13 wr => ∃ (k : Nat), s13 = .int .i64 (k : Int) ∧ k ≤ n ∧ gk = n - k ∧ xs.take k = ys.take k ∧ Below w.heap.size w wr)
  case atStart => exact ⟨0, rfl, by omega, by omega, by simp, Below.refl _ _⟩
  case round =>
  obtain ⟨k, rfl, hk, hgk, htk, hB⟩ := hrel
  have HT := Lib.hid ((Sep.nil w).step hB)
  have HTK := Lib.hid htk
  clear htk hB
  by_cases hkn : k < n
  case neg =>
    as_aux_lemma =>
      have q1 : decide ((k : Int) < (n : Int)) = false := by simp; omega
      have q2 : ¬ (k : Int) < (n : Int) := by omega
      have HR := Lib.hid (show decide (xs = ys) = true from decide_eq_true (by
        have := HTK.out
        rwa [List.take_of_length_le (by rw [HX.out]; omega), List.take_of_length_le (by rw [HY.out]; omega)] at this))
      go_wp2_with fail
      go_ret
      exact ⟨by rw [HR.out]; rfl, HT.out.bel⟩
  have q1 : decide ((k : Int) < (n : Int)) = true := by simp; omega
  have q2 : (k : Int) < (n : Int) := by omega
  have q3 : (0 : Int) ≤ (k : Int) := by omega
  have hwk : IntKind.i64.wrap ((k : Int) + 1) = (k : Int) + 1 := IntWalk.i64_in _ (by omega)
  have HX1 := Lib.hid (List.getElem?_eq_getElem (l := xs) (i := k) (by rw [HX.out]; exact hkn))
  have HY1 := Lib.hid (List.getElem?_eq_getElem (l := ys) (i := k) (by rw [HY.out]; exact hkn))
  generalize xs[k]'(by rw [HX.out]; exact hkn) = x at *
  generalize ys[k]'(by rw [HY.out]; exact hkn) = y at *
  obtain ⟨ga, oa, rfl, _⟩ := strs_at HA.out k x HX1.out
  obtain ⟨gb, ob, rfl, _⟩ := strs_at HB.out k y HY1.out
  have HU : Hid (∀ W' l, Sep w W' l → W'.cell? ⟨ga, oa + k, none⟩ = some (.string (ba x)) ∧ W'.cell? ⟨gb, ob + k, none⟩ = some (.string (ba y))) := Lib.hid (fun W' l h => by
    obtain ⟨b1, o1, e1, h1⟩ := strs_at (HA.out.below h.bel) k x HX1.out
    cases e1
    obtain ⟨b2, o2, e2, h2⟩ := strs_at (HB.out.below h.bel) k y HY1.out
    cases e2
    exact ⟨h1, h2⟩)
  have HEQ := Lib.hid (show ((ba x).toList == (ba y).toList) = decide (x = y) by rw [str_beq]; by_cases h : x = y <;> simp [h])
  obtain ⟨sx, hsx⟩ : ∃ s, ba x = s := ⟨_, rfl⟩
  obtain ⟨sy, hsy⟩ : ∃ s, ba y = s := ⟨_, rfl⟩
  rw [hsx, hsy] at HU HEQ
  clear hsx hsy
  go_upto_region 6 with fail
  by_cases hxy : x = y
  · have e2 : (sx.toList == sy.toList) = true := by rw [HEQ.out, decide_eq_true hxy]
    have HT2 := Lib.hid (show xs.take (k + 1) = ys.take (k + 1) by rw [List.take_add_one, List.take_add_one, HTK.out, HX1.out, HY1.out, hxy])
    clear hxy
    have HT := Lib.hid HT.out.drew
    refine wp_region_L (fun w' => w'.cell? ⟨ga, oa + k, none⟩ = some (.string sx) ∧ w'.cell? ⟨gb, ob + k, none⟩ = some (.string sy)) 9 (by kernel_rfl) (HU.out _ _ HT.out) (fun hHeld => ?_)
    refine reg_take (i := 0) (d := 16) (v := ?_) [] rfl rfl (by kernel_rfl) (by kernel_rfl) (fun _ _ _ h => h) (Or.inl ⟨by rfl, ?_⟩) (by assumption) ?_
    rotate_left
    · (intro w hSw; (try dsimp only at hSw); go_simp; first | done | with_reducible rfl)
    try simp only [List.setIfInBounds_toArray, List.set_cons_zero, List.set_cons_succ]
    refine reg_take (i := 1) (d := 17) (v := ?_) [] rfl rfl (by kernel_rfl) (by kernel_rfl) (fun _ _ _ h => h) (Or.inl ⟨by rfl, ?_⟩) (by assumption) ?_
    rotate_left
    · (intro w hSw; (try dsimp only at hSw); go_simp; first | done | with_reducible rfl)
    try simp only [List.setIfInBounds_toArray, List.set_cons_zero, List.set_cons_succ]
    refine reg_take (i := 2) (d := 18) (v := ?_) [] rfl rfl (by kernel_rfl) (by kernel_rfl) (fun _ _ _ h => h) (Or.inl ⟨by rfl, ?_⟩) (by assumption) ?_
    rotate_left
    · (intro w hSw; (try dsimp only at hSw); go_simp; first | done | with_reducible rfl)
    try simp only [List.setIfInBounds_toArray, List.set_cons_zero, List.set_cons_succ]
    refine reg_take (i := 3) (d := 19) (v := ?_) [] rfl rfl (by kernel_rfl) (by kernel_rfl) (fun _ _ _ h => h) (Or.inl ⟨by rfl, ?_⟩) (by assumption) ?_
    rotate_left
    · (intro w hSw; (try dsimp only at hSw); go_simp; first | done | with_reducible rfl)
    try simp only [List.setIfInBounds_toArray, List.set_cons_zero, List.set_cons_succ]
    refine reg_take (i := 4) (d := 20) (v := ?_) [] rfl rfl (by kernel_rfl) (by kernel_rfl) (fun _ _ _ h => h) (Or.inl ⟨by rfl, ?_⟩) (by assumption) ?_
    rotate_left
    · (intro w hSw; (try dsimp only at hSw); go_simp; first | done | with_reducible rfl)
    try simp only [List.setIfInBounds_toArray, List.set_cons_zero, List.set_cons_succ]
    refine reg_take (i := 5) (d := 21) (v := ?_) [] rfl rfl (by kernel_rfl) (by kernel_rfl) (fun _ _ _ h => h) (Or.inl ⟨by rfl, ?_⟩) (by assumption) ?_
    rotate_left
    · (intro w hSw; (try dsimp only at hSw); go_simp; first | done | with_reducible rfl)
    try simp only [List.setIfInBounds_toArray, List.set_cons_zero, List.set_cons_succ]
    refine reg_take (i := 6) (d := 22) (v := ?_) [] rfl rfl (by kernel_rfl) (by kernel_rfl) (fun _ _ _ h => h) (Or.inl ⟨by rfl, ?_⟩) (by assumption) ?_
    rotate_left
    · (intro w hSw; (try dsimp only at hSw); go_simp; first | done | with_reducible rfl)
    try simp only [List.setIfInBounds_toArray, List.set_cons_zero, List.set_cons_succ]
    refine reg_take (i := 7) (d := 23) (v := ?_) [] rfl rfl (by kernel_rfl) (by kernel_rfl) (fun _ _ _ h => h) (Or.inl ⟨by rfl, ?_⟩) (by assumption) ?_
    rotate_left
    · (intro w hSw; (try dsimp only at hSw); go_simp; first | done | with_reducible rfl)
    try simp only [List.setIfInBounds_toArray, List.set_cons_zero, List.set_cons_succ]
    refine reg_take (i := 8) (d := 24) (v := ?_) [] rfl rfl (by kernel_rfl) (by kernel_rfl) (fun _ _ _ h => h) (Or.inl ⟨by rfl, ?_⟩) (by assumption) ?_
    rotate_left
    · (intro w hSw; (try dsimp only at hSw); go_simp; first | done | with_reducible rfl)
    try simp only [List.setIfInBounds_toArray, List.set_cons_zero, List.set_cons_succ]
    refine wpAnyL_done (by kernel_rfl) ?_ _
    go_wp2_with fail
    go_roundg (n - (k + 1))
    case measure => omega
    case rel => exact ⟨k + 1, by push_cast; rfl, by omega, rfl, HT2.out, HT.out.bel⟩
  · have e2 : (sx.toList == sy.toList) = false := by rw [HEQ.out, decide_eq_false hxy]
    have HR := Lib.hid (show decide (xs = ys) = false from decide_eq_false fun h => hxy (by
      have h1 := HX1.out
      rw [h, HY1.out] at h1
      exact (Option.some.inj h1).symm))
    clear hxy
    have HT := Lib.hid HT.out.drew
    refine wp_region_L (fun w' => w'.cell? ⟨ga, oa + k, none⟩ = some (.string sx) ∧ w'.cell? ⟨gb, ob + k, none⟩ = some (.string sy)) 9 (by kernel_rfl) (HU.out _ _ HT.out) (fun hHeld => ?_)
    refine reg_take (i := 0) (d := 16) (v := ?_) [] rfl rfl (by kernel_rfl) (by kernel_rfl) (fun _ _ _ h => h) (Or.inl ⟨by rfl, ?_⟩) (by assumption) ?_
    rotate_left
    · (intro w hSw; (try dsimp only at hSw); go_simp; first | done | with_reducible rfl)
    try simp only [List.setIfInBounds_toArray, List.set_cons_zero, List.set_cons_succ]
    refine reg_take (i := 1) (d := 17) (v := ?_) [] rfl rfl (by kernel_rfl) (by kernel_rfl) (fun _ _ _ h => h) (Or.inl ⟨by rfl, ?_⟩) (by assumption) ?_
    rotate_left
    · (intro w hSw; (try dsimp only at hSw); go_simp; first | done | with_reducible rfl)
    try simp only [List.setIfInBounds_toArray, List.set_cons_zero, List.set_cons_succ]
    refine reg_take (i := 2) (d := 18) (v := ?_) [] rfl rfl (by kernel_rfl) (by kernel_rfl) (fun _ _ _ h => h) (Or.inl ⟨by rfl, ?_⟩) (by assumption) ?_
    rotate_left
    · (intro w hSw; (try dsimp only at hSw); go_simp; first | done | with_reducible rfl)
    try simp only [List.setIfInBounds_toArray, List.set_cons_zero, List.set_cons_succ]
    refine reg_take (i := 3) (d := 19) (v := ?_) [] rfl rfl (by kernel_rfl) (by kernel_rfl) (fun _ _ _ h => h) (Or.inl ⟨by rfl, ?_⟩) (by assumption) ?_
    rotate_left
    · (intro w hSw; (try dsimp only at hSw); go_simp; first | done | with_reducible rfl)
    try simp only [List.setIfInBounds_toArray, List.set_cons_zero, List.set_cons_succ]
    refine reg_take (i := 4) (d := 20) (v := ?_) [] rfl rfl (by kernel_rfl) (by kernel_rfl) (fun _ _ _ h => h) (Or.inl ⟨by rfl, ?_⟩) (by assumption) ?_
    rotate_left
    · (intro w hSw; (try dsimp only at hSw); go_simp; first | done | with_reducible rfl)
    try simp only [List.setIfInBounds_toArray, List.set_cons_zero, List.set_cons_succ]
    refine reg_take (i := 5) (d := 21) (v := ?_) [] rfl rfl (by kernel_rfl) (by kernel_rfl) (fun _ _ _ h => h) (Or.inl ⟨by rfl, ?_⟩) (by assumption) ?_
    rotate_left
    · (intro w hSw; (try dsimp only at hSw); go_simp; first | done | with_reducible rfl)
    try simp only [List.setIfInBounds_toArray, List.set_cons_zero, List.set_cons_succ]
    refine reg_take (i := 6) (d := 22) (v := ?_) [] rfl rfl (by kernel_rfl) (by kernel_rfl) (fun _ _ _ h => h) (Or.inl ⟨by rfl, ?_⟩) (by assumption) ?_
    rotate_left
    · (intro w hSw; (try dsimp only at hSw); go_simp; first | done | with_reducible rfl)
    try simp only [List.setIfInBounds_toArray, List.set_cons_zero, List.set_cons_succ]
    refine reg_take (i := 7) (d := 23) (v := ?_) [] rfl rfl (by kernel_rfl) (by kernel_rfl) (fun _ _ _ h => h) (Or.inl ⟨by rfl, ?_⟩) (by assumption) ?_
    rotate_left
    · (intro w hSw; (try dsimp only at hSw); go_simp; first | done | with_reducible rfl)
    try simp only [List.setIfInBounds_toArray, List.set_cons_zero, List.set_cons_succ]
    refine reg_take (i := 8) (d := 24) (v := ?_) [] rfl rfl (by kernel_rfl) (by kernel_rfl) (fun _ _ _ h => h) (Or.inl ⟨by rfl, ?_⟩) (by assumption) ?_
    rotate_left
    · (intro w hSw; (try dsimp only at hSw); go_simp; first | done | with_reducible rfl)
    try simp only [List.setIfInBounds_toArray, List.set_cons_zero, List.set_cons_succ]
    refine wpAnyL_done (by kernel_rfl) ?_ _
    go_wp2_with fail
    go_ret
    exact ⟨by rw [HR.out]; rfl, HT.out.bel⟩
end Go.Proofs.YtjjdefkaohbmjaaDoor
