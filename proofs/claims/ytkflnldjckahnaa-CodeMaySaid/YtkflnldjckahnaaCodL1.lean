/- The walk of the law CodeMay: it returns true. No condition but the row's own. -/
import Derived.Test.YtkflnldjckahnaaCodI
import Derived.Deep.OwnRows
set_option linter.unusedVariables false
set_option linter.unusedSimpArgs false
namespace Go.Proofs.Ytkflnldjckahnaa
open Go.RowKit
theorem may_take {k : Int} {ns : List Int} {ts : List ByteArray} (h : mayB ⟨k, ns, ts⟩ = true) (i j : Nat) : mayB ⟨k, ns.take i, ts.take j⟩ = true := by
  rw [mayB_iff] at h ⊢
  obtain ⟨⟨h1, h2, h3, h4⟩, h5⟩ := h
  refine ⟨⟨h1, h2, ?_, ?_⟩, fun s hs => h5 s (List.mem_of_mem_take hs)⟩
  · simp only [List.length_take] at h3 ⊢; omega
  · simp only [List.length_take] at h4 ⊢; omega
theorem RecAt.take {W : World} {k : Int} {ns : List Int} {ts : List ByteArray} {An At : Option Addr} {n t cn ct : Nat} (h : RecAt W ⟨k, ns, ts⟩ An At n t cn ct) (i j cn' ct' : Nat) (hi : i ≤ n) (hj : j ≤ t) : RecAt W ⟨k, ns.take i, ts.take j⟩ An At i j cn' ct' := by
  refine ⟨?_, ?_, ?_, ?_, Nat.le_trans hi h.bn, Nat.le_trans hj h.bt⟩
  · have := h.hn; simp only at this ⊢; rw [List.length_take]; omega
  · have := h.ht; simp only at this ⊢; rw [List.length_take]; omega
  · rw [Enc.take]; exact h.rn.take _
  · rw [Enc.take]; exact h.rt.take _
set_option maxRecDepth 100000 in
set_option maxHeartbeats 4000000 in
theorem w_CodeMay (a0 : Array Value) (w : World) (b0 : Sh.Is w (.pair (.int .i64) (.pair (.slice 8 (.int .i64)) (.pair (.slice 16 .str) .unit))) a0.toList) :
    Calls Try.prog 10 #[.agg a0] w fun e w' => e = .returned (.bool true) ∧ Below w.heap.size w w' := by
  obtain ⟨k, ns, ts, An, At, n, t, cn, ct, hx, hR, _, _, _, ⟨hcn, hct⟩, _⟩ := is_rec b0
  obtain rfl : a0 = #[.int .i64 k, .slice An n cn, .slice At t ct] := by rw [← Array.toList_inj]; exact hx
  clear hx b0
  obtain ⟨g, hg⟩ : ∃ g, w.heap.size = g := ⟨_, rfl⟩
  have HS := Lib.hid ((Sep.nil w).newBlk #[.int .i64 k, .slice An n cn, .slice At t ct] tRec hg)
  have HR := Lib.hid (hR.below HS.out.bel)
  have HG := Lib.hid hg
  have hn1 : ns.length = n := hR.hn
  have ht1 : ts.length = t := hR.ht
  have HN := Lib.hid (And.intro hn1 ht1)
  clear hR hg hn1 ht1
  go_enter Try.func10, Try.ntmps10
  go_wp2_with fail
  rw [HG.out]
  refine (awake_any _).mono ?_
  rintro e w1 ⟨rfl, hB⟩
  have HS := Lib.hid (HS.out.step hB); have HR := Lib.hid (HR.out.below hB)
  clear hB HG
  have HC : Hid (∀ w', Blk w' g #[.int .i64 k, .slice An n cn, .slice At t ct] tRec → w'.cell? ⟨g, 0, none⟩ = some (.int .i64 k) ∧ w'.cell? ⟨g, 1, none⟩ = some (.slice An n cn) ∧ w'.cell? ⟨g, 2, none⟩ = some (.slice At t ct)) := Lib.hid (fun w' h => ⟨h.cell 0, h.cell 1, h.cell 2⟩)
  obtain ⟨y0, y1, y2⟩ := HC.out _ HS.out.hd
  go_wp2_with fail
  refine (largeB_any ⟨k, ns, ts⟩ An At n t cn ct _ HR.out).mono ?_
  rintro e w2 ⟨rfl, hw2⟩
  have hB : Below w1.heap.size w1 w2 := by rw [hw2]; exact (Below.refl _ _).alloc (Nat.le_refl _) _
  have HS := Lib.hid (HS.out.step hB); have HR := Lib.hid (HR.out.below hB)
  clear hB hw2 y0 y1 y2
  by_cases hl : 1000 < n ∨ 1000 < t
  · rw [decide_eq_true hl]
    clear hl
    go_wp2_with fail
    go_ret
    exact ⟨rfl, HS.out.bel⟩
  rw [decide_eq_false hl]
  clear hl
  obtain ⟨y0, y1, y2⟩ := HC.out _ HS.out.hd
  go_wp2_with fail
  refine (may_any ⟨k, ns, ts⟩ An At n t cn ct _ HR.out).mono ?_
  rintro e w3 ⟨rfl, hB⟩
  have HS := Lib.hid (HS.out.step hB); have HR := Lib.hid (HR.out.below hB)
  clear hB y0 y1 y2
  cases hm : mayB ⟨k, ns, ts⟩
  · clear hm
    go_wp2_with fail
    go_ret
    exact ⟨rfl, HS.out.bel⟩
  have HM := Lib.hid hm
  have hb := ((mayB_iff _).1 hm).1
  simp only [HN.out.1, HN.out.2] at hb
  obtain ⟨k0, k255, hn16, ht4⟩ := hb
  clear hm
  obtain ⟨y0, y1, y2⟩ := HC.out _ HS.out.hd
  go_upto_region 6 with fail
  clear y0 y1 y2
  go_cut [32] from 17 to 32 (fun s32 wx => s32 = .bool false ∧ Sep w wx [tBlk g #[.int .i64 k, .slice An n cn, .slice At t ct] tRec] ∧ RecAt wx ⟨k, ns, ts⟩ An At n t cn ct)
  case first =>
    by_cases hn : 0 < n
    · have e1 : (0 : Int) < (n : Int) := by omega
      have e2 : decide ((0 : Int) < (n : Int)) = true := by simp; omega
      obtain ⟨m, rfl⟩ : ∃ m, n = m + 1 := ⟨n - 1, by omega⟩
      have e3 : ((m + 1 : Nat) : Int) - 1 = (m : Int) := by omega
      have e4 : (m : Int) ≤ (cn : Int) := by omega
      have e5 : (0 : Int) ≤ (m : Int) := by omega
      have e6 : IntKind.i64.wrap (m : Int) = (m : Int) := IntWalk.i64_in _ (by omega)
      have h0 := HR.out.below (Below.drew (Below.refl _ _))
      have HR6 := Lib.hid (show RecAt w3.drew ⟨k, ns.take m, ts⟩ An At m t cn ct by
        have h := (h0.take m t cn ct (by omega) (Nat.le_refl _))
        rwa [show ts.take t = ts from List.take_of_length_le (by rw [HN.out.2]; exact Nat.le_refl _)] at h)
      have HM6 := Lib.hid (show mayB ⟨k, ns.take m, ts⟩ = true by
        have h := may_take HM.out m t
        rwa [show ts.take t = ts from List.take_of_length_le (by rw [HN.out.2]; exact Nat.le_refl _)] at h)
      clear h0
      refine wp_region_L (fun w' => w'.cell? ⟨g, 0, none⟩ = some (.int .i64 k) ∧ w'.cell? ⟨g, 1, none⟩ = some (.slice An (m + 1) cn) ∧ w'.cell? ⟨g, 2, none⟩ = some (.slice At t ct)) 16 (by kernel_rfl) (HC.out _ (HS.out.drewN 1).hd) (fun hHeld => ?_)
      refine reg_take (i := 0) (d := 17) (v := ?_) [] rfl rfl (by kernel_rfl) (by kernel_rfl) (fun _ _ _ h => h) (Or.inl ⟨by rfl, ?_⟩) (by assumption) ?_
      rotate_left
      · (intro w hSw; (try dsimp only at hSw); go_simp; first | done | with_reducible rfl)
      try simp only [List.setIfInBounds_toArray, List.set_cons_zero, List.set_cons_succ]
      refine reg_take (i := 1) (d := 18) (v := ?_) [] rfl rfl (by kernel_rfl) (by kernel_rfl) (fun _ _ _ h => h) (Or.inl ⟨by rfl, ?_⟩) (by assumption) ?_
      rotate_left
      · (intro w hSw; (try dsimp only at hSw); go_simp; first | done | with_reducible rfl)
      try simp only [List.setIfInBounds_toArray, List.set_cons_zero, List.set_cons_succ]
      refine reg_take (i := 2) (d := 19) (v := ?_) [] rfl rfl (by kernel_rfl) (by kernel_rfl) (fun _ _ _ h => h) (Or.inl ⟨by rfl, ?_⟩) (by assumption) ?_
      rotate_left
      · (intro w hSw; (try dsimp only at hSw); go_simp; first | done | with_reducible rfl)
      try simp only [List.setIfInBounds_toArray, List.set_cons_zero, List.set_cons_succ]
      refine reg_take (i := 3) (d := 20) (v := ?_) [] rfl rfl (by kernel_rfl) (by kernel_rfl) (fun _ _ _ h => h) (Or.inl ⟨by rfl, ?_⟩) (by assumption) ?_
      rotate_left
      · (intro w hSw; (try dsimp only at hSw); go_simp; first | done | with_reducible rfl)
      try simp only [List.setIfInBounds_toArray, List.set_cons_zero, List.set_cons_succ]
      refine reg_take (i := 4) (d := 21) (v := ?_) [] rfl rfl (by kernel_rfl) (by kernel_rfl) (fun _ _ _ h => h) (Or.inl ⟨by rfl, ?_⟩) (by assumption) ?_
      rotate_left
      · (intro w hSw; (try dsimp only at hSw); go_simp; first | done | with_reducible rfl)
      try simp only [List.setIfInBounds_toArray, List.set_cons_zero, List.set_cons_succ]
      refine reg_take (i := 5) (d := 22) (v := ?_) [] rfl rfl (by kernel_rfl) (by kernel_rfl) (fun _ _ _ h => h) (Or.inl ⟨by rfl, ?_⟩) (by assumption) ?_
      rotate_left
      · (intro w hSw; (try dsimp only at hSw); go_simp; first | done | with_reducible rfl)
      try simp only [List.setIfInBounds_toArray, List.set_cons_zero, List.set_cons_succ]
      refine reg_take (i := 6) (d := 23) (v := ?_) [] rfl rfl (by kernel_rfl) (by kernel_rfl) (fun _ _ _ h => h) (Or.inl ⟨by rfl, ?_⟩) (by assumption) ?_
      rotate_left
      · (intro w hSw; (try dsimp only at hSw); go_simp; first | done | with_reducible rfl)
      try simp only [List.setIfInBounds_toArray, List.set_cons_zero, List.set_cons_succ]
      refine reg_take (i := 7) (d := 24) (v := ?_) [] rfl rfl (by kernel_rfl) (by kernel_rfl) (fun _ _ _ h => h) (Or.inl ⟨by rfl, ?_⟩) (by assumption) ?_
      rotate_left
      · (intro w hSw; (try dsimp only at hSw); go_simp; first | done | with_reducible rfl)
      try simp only [List.setIfInBounds_toArray, List.set_cons_zero, List.set_cons_succ]
      refine reg_take (i := 8) (d := 25) (v := ?_) [] rfl rfl (by kernel_rfl) (by kernel_rfl) (fun _ _ _ h => h) (Or.inl ⟨by rfl, ?_⟩) (by assumption) ?_
      rotate_left
      · (intro w hSw; (try dsimp only at hSw); go_simp; first | done | with_reducible rfl)
      try simp only [List.setIfInBounds_toArray, List.set_cons_zero, List.set_cons_succ]
      refine reg_take (i := 9) (d := 26) (v := ?_) [] rfl rfl (by kernel_rfl) (by kernel_rfl) (fun _ _ _ h => h) (Or.inl ⟨by rfl, ?_⟩) (by assumption) ?_
      rotate_left
      · (intro w hSw; (try dsimp only at hSw); go_simp; first | done | with_reducible rfl)
      try simp only [List.setIfInBounds_toArray, List.set_cons_zero, List.set_cons_succ]
      refine reg_take (i := 10) (d := 27) (v := ?_) [] rfl rfl (by kernel_rfl) (by kernel_rfl) (fun _ _ _ h => h) (Or.inl ⟨by rfl, ?_⟩) (by assumption) ?_
      rotate_left
      · (intro w hSw; (try dsimp only at hSw); go_simp; first | done | with_reducible rfl)
      try simp only [List.setIfInBounds_toArray, List.set_cons_zero, List.set_cons_succ]
      refine reg_take (i := 11) (d := 28) (v := ?_) [] rfl rfl (by kernel_rfl) (by kernel_rfl) (fun _ _ _ h => h) (Or.inl ⟨by rfl, ?_⟩) (by assumption) ?_
      rotate_left
      · (intro w hSw; (try dsimp only at hSw); go_simp; first | done | with_reducible rfl)
      try simp only [List.setIfInBounds_toArray, List.set_cons_zero, List.set_cons_succ]
      refine reg_take (i := 12) (d := 29) (v := ?_) [] rfl rfl (by kernel_rfl) (by kernel_rfl) (fun _ _ _ h => h) (Or.inl ⟨by rfl, ?_⟩) (by assumption) ?_
      rotate_left
      · (intro w hSw; (try dsimp only at hSw); go_simp; first | done | with_reducible rfl)
      try simp only [List.setIfInBounds_toArray, List.set_cons_zero, List.set_cons_succ]
      refine wpAnyL_ready (rs := [13]) (by kernel_rfl) rfl ?_
      refine (AllL.cons rfl (fun K hK => ?_) AllL.nil)
      go_simp
      go_at_call 16
      refine (may_any ⟨k, ns.take m, ts⟩ An At m t cn ct _ HR6.out).mono ?_
      rw [HM6.out]
      rintro e4 w4 ⟨rfl, hB4⟩
      have HB4 := Lib.hid hB4
      clear hB4
      go_simp
      refine hK.out _ _ (HC.out _ (HS.out.drewN 1 |>.step HB4.out).hd) (fun hHeld => ?_)
      try simp only [List.setIfInBounds_toArray, List.set_cons_zero, List.set_cons_succ]
      refine reg_take (i := 14) (d := 31) (v := ?_) [] rfl rfl (by kernel_rfl) (by kernel_rfl) (fun _ _ _ h => h) (Or.inl ⟨by rfl, ?_⟩) (by assumption) ?_
      rotate_left
      · (intro w hSw; (try dsimp only at hSw); go_simp; first | done | with_reducible rfl)
      try simp only [List.setIfInBounds_toArray, List.set_cons_zero, List.set_cons_succ]
      refine reg_take (i := 15) (d := 32) (v := ?_) [] rfl rfl (by kernel_rfl) (by kernel_rfl) (fun _ _ _ h => h) (Or.inl ⟨by rfl, ?_⟩) (by assumption) ?_
      rotate_left
      · (intro w hSw; (try dsimp only at hSw); go_simp; first | done | with_reducible rfl)
      try simp only [List.setIfInBounds_toArray, List.set_cons_zero, List.set_cons_succ]
      refine wpAnyL_done (by kernel_rfl) ?_ _
      go_wp2
      go_meet
      exact ⟨rfl, (HS.out.drewN 1).step HB4.out, (HR.out.below (Below.drew (Below.refl _ _))).below HB4.out⟩
    · have e1 : ¬ (0 : Int) < (n : Int) := by omega
      have e2 : decide ((0 : Int) < (n : Int)) = false := by simp; omega
      go_quiet (fail)
      go_wp2
      go_meet
      exact ⟨rfl, HS.out.drewN _, HR.out.below ⟨rfl, rfl, rfl, Nat.le_refl _, fun _ _ => rfl⟩⟩
  case rest =>
  obtain ⟨rfl, hS, hR⟩ := hcut
  have HS := Lib.hid hS; have HR := Lib.hid hR
  clear hS hR
  have y0 := (HC.out _ HS.out.hd).1; have y1 := (HC.out _ HS.out.hd).2.1; have y2 := (HC.out _ HS.out.hd).2.2
  go_upto_region 9 with fail
  clear y0 y1 y2
  generalize hw4 : wc = w4 at *
  clear hw4
  go_cut [51] from 36 to 51 (fun s51 wx => s51 = .bool false ∧ Sep w wx [tBlk g #[.int .i64 k, .slice An n cn, .slice At t ct] tRec] ∧ RecAt wx ⟨k, ns, ts⟩ An At n t cn ct)
  case first =>
    by_cases hn : 0 < t
    · have e1 : (0 : Int) < (t : Int) := by omega
      have e2 : decide ((0 : Int) < (t : Int)) = true := by simp; omega
      obtain ⟨m, rfl⟩ : ∃ m, t = m + 1 := ⟨t - 1, by omega⟩
      have e3 : ((m + 1 : Nat) : Int) - 1 = (m : Int) := by omega
      have e4 : (m : Int) ≤ (ct : Int) := by omega
      have e5 : (0 : Int) ≤ (m : Int) := by omega
      have e6 : IntKind.i64.wrap (m : Int) = (m : Int) := IntWalk.i64_in _ (by omega)
      have h0 := HR.out.below (Below.drew (Below.refl _ _))
      have HR6 := Lib.hid (show RecAt w4.drew ⟨k, ns, ts.take m⟩ An At n m cn ct by
        have h := (h0.take n m cn ct (Nat.le_refl _) (by omega))
        rwa [show ns.take n = ns from List.take_of_length_le (by rw [HN.out.1]; exact Nat.le_refl _)] at h)
      have HM6 := Lib.hid (show mayB ⟨k, ns, ts.take m⟩ = true by
        have h := may_take HM.out n m
        rwa [show ns.take n = ns from List.take_of_length_le (by rw [HN.out.1]; exact Nat.le_refl _)] at h)
      clear h0
      refine wp_region_L (fun w' => w'.cell? ⟨g, 0, none⟩ = some (.int .i64 k) ∧ w'.cell? ⟨g, 1, none⟩ = some (.slice An n cn) ∧ w'.cell? ⟨g, 2, none⟩ = some (.slice At (m + 1) ct)) 16 (by kernel_rfl) (HC.out _ (HS.out.drewN 1).hd) (fun hHeld => ?_)
      refine reg_take (i := 0) (d := 36) (v := ?_) [] rfl rfl (by kernel_rfl) (by kernel_rfl) (fun _ _ _ h => h) (Or.inl ⟨by rfl, ?_⟩) (by assumption) ?_
      rotate_left
      · (intro w hSw; (try dsimp only at hSw); go_simp; first | done | with_reducible rfl)
      try simp only [List.setIfInBounds_toArray, List.set_cons_zero, List.set_cons_succ]
      refine reg_take (i := 1) (d := 37) (v := ?_) [] rfl rfl (by kernel_rfl) (by kernel_rfl) (fun _ _ _ h => h) (Or.inl ⟨by rfl, ?_⟩) (by assumption) ?_
      rotate_left
      · (intro w hSw; (try dsimp only at hSw); go_simp; first | done | with_reducible rfl)
      try simp only [List.setIfInBounds_toArray, List.set_cons_zero, List.set_cons_succ]
      refine reg_take (i := 2) (d := 38) (v := ?_) [] rfl rfl (by kernel_rfl) (by kernel_rfl) (fun _ _ _ h => h) (Or.inl ⟨by rfl, ?_⟩) (by assumption) ?_
      rotate_left
      · (intro w hSw; (try dsimp only at hSw); go_simp; first | done | with_reducible rfl)
      try simp only [List.setIfInBounds_toArray, List.set_cons_zero, List.set_cons_succ]
      refine reg_take (i := 3) (d := 39) (v := ?_) [] rfl rfl (by kernel_rfl) (by kernel_rfl) (fun _ _ _ h => h) (Or.inl ⟨by rfl, ?_⟩) (by assumption) ?_
      rotate_left
      · (intro w hSw; (try dsimp only at hSw); go_simp; first | done | with_reducible rfl)
      try simp only [List.setIfInBounds_toArray, List.set_cons_zero, List.set_cons_succ]
      refine reg_take (i := 4) (d := 40) (v := ?_) [] rfl rfl (by kernel_rfl) (by kernel_rfl) (fun _ _ _ h => h) (Or.inl ⟨by rfl, ?_⟩) (by assumption) ?_
      rotate_left
      · (intro w hSw; (try dsimp only at hSw); go_simp; first | done | with_reducible rfl)
      try simp only [List.setIfInBounds_toArray, List.set_cons_zero, List.set_cons_succ]
      refine reg_take (i := 5) (d := 41) (v := ?_) [] rfl rfl (by kernel_rfl) (by kernel_rfl) (fun _ _ _ h => h) (Or.inl ⟨by rfl, ?_⟩) (by assumption) ?_
      rotate_left
      · (intro w hSw; (try dsimp only at hSw); go_simp; first | done | with_reducible rfl)
      try simp only [List.setIfInBounds_toArray, List.set_cons_zero, List.set_cons_succ]
      refine reg_take (i := 6) (d := 42) (v := ?_) [] rfl rfl (by kernel_rfl) (by kernel_rfl) (fun _ _ _ h => h) (Or.inl ⟨by rfl, ?_⟩) (by assumption) ?_
      rotate_left
      · (intro w hSw; (try dsimp only at hSw); go_simp; first | done | with_reducible rfl)
      try simp only [List.setIfInBounds_toArray, List.set_cons_zero, List.set_cons_succ]
      refine reg_take (i := 7) (d := 43) (v := ?_) [] rfl rfl (by kernel_rfl) (by kernel_rfl) (fun _ _ _ h => h) (Or.inl ⟨by rfl, ?_⟩) (by assumption) ?_
      rotate_left
      · (intro w hSw; (try dsimp only at hSw); go_simp; first | done | with_reducible rfl)
      try simp only [List.setIfInBounds_toArray, List.set_cons_zero, List.set_cons_succ]
      refine reg_take (i := 8) (d := 44) (v := ?_) [] rfl rfl (by kernel_rfl) (by kernel_rfl) (fun _ _ _ h => h) (Or.inl ⟨by rfl, ?_⟩) (by assumption) ?_
      rotate_left
      · (intro w hSw; (try dsimp only at hSw); go_simp; first | done | with_reducible rfl)
      try simp only [List.setIfInBounds_toArray, List.set_cons_zero, List.set_cons_succ]
      refine reg_take (i := 9) (d := 45) (v := ?_) [] rfl rfl (by kernel_rfl) (by kernel_rfl) (fun _ _ _ h => h) (Or.inl ⟨by rfl, ?_⟩) (by assumption) ?_
      rotate_left
      · (intro w hSw; (try dsimp only at hSw); go_simp; first | done | with_reducible rfl)
      try simp only [List.setIfInBounds_toArray, List.set_cons_zero, List.set_cons_succ]
      refine reg_take (i := 10) (d := 46) (v := ?_) [] rfl rfl (by kernel_rfl) (by kernel_rfl) (fun _ _ _ h => h) (Or.inl ⟨by rfl, ?_⟩) (by assumption) ?_
      rotate_left
      · (intro w hSw; (try dsimp only at hSw); go_simp; first | done | with_reducible rfl)
      try simp only [List.setIfInBounds_toArray, List.set_cons_zero, List.set_cons_succ]
      refine reg_take (i := 11) (d := 47) (v := ?_) [] rfl rfl (by kernel_rfl) (by kernel_rfl) (fun _ _ _ h => h) (Or.inl ⟨by rfl, ?_⟩) (by assumption) ?_
      rotate_left
      · (intro w hSw; (try dsimp only at hSw); go_simp; first | done | with_reducible rfl)
      try simp only [List.setIfInBounds_toArray, List.set_cons_zero, List.set_cons_succ]
      refine reg_take (i := 12) (d := 48) (v := ?_) [] rfl rfl (by kernel_rfl) (by kernel_rfl) (fun _ _ _ h => h) (Or.inl ⟨by rfl, ?_⟩) (by assumption) ?_
      rotate_left
      · (intro w hSw; (try dsimp only at hSw); go_simp; first | done | with_reducible rfl)
      try simp only [List.setIfInBounds_toArray, List.set_cons_zero, List.set_cons_succ]
      refine wpAnyL_ready (rs := [13]) (by kernel_rfl) rfl ?_
      refine (AllL.cons rfl (fun K hK => ?_) AllL.nil)
      go_simp
      go_at_call 16
      refine (may_any ⟨k, ns, ts.take m⟩ An At n m cn ct _ HR6.out).mono ?_
      rw [HM6.out]
      rintro e4 w4 ⟨rfl, hB4⟩
      have HB4 := Lib.hid hB4
      clear hB4
      go_simp
      refine hK.out _ _ (HC.out _ (HS.out.drewN 1 |>.step HB4.out).hd) (fun hHeld => ?_)
      try simp only [List.setIfInBounds_toArray, List.set_cons_zero, List.set_cons_succ]
      refine reg_take (i := 14) (d := 50) (v := ?_) [] rfl rfl (by kernel_rfl) (by kernel_rfl) (fun _ _ _ h => h) (Or.inl ⟨by rfl, ?_⟩) (by assumption) ?_
      rotate_left
      · (intro w hSw; (try dsimp only at hSw); go_simp; first | done | with_reducible rfl)
      try simp only [List.setIfInBounds_toArray, List.set_cons_zero, List.set_cons_succ]
      refine reg_take (i := 15) (d := 51) (v := ?_) [] rfl rfl (by kernel_rfl) (by kernel_rfl) (fun _ _ _ h => h) (Or.inl ⟨by rfl, ?_⟩) (by assumption) ?_
      rotate_left
      · (intro w hSw; (try dsimp only at hSw); go_simp; first | done | with_reducible rfl)
      try simp only [List.setIfInBounds_toArray, List.set_cons_zero, List.set_cons_succ]
      refine wpAnyL_done (by kernel_rfl) ?_ _
      go_wp2
      go_meet
      exact ⟨rfl, (HS.out.drewN 1).step HB4.out, (HR.out.below (Below.drew (Below.refl _ _))).below HB4.out⟩
    · have e1 : ¬ (0 : Int) < (t : Int) := by omega
      have e2 : decide ((0 : Int) < (t : Int)) = false := by simp; omega
      go_quiet (fail)
      go_wp2
      go_meet
      exact ⟨rfl, HS.out.drewN _, HR.out.below ⟨rfl, rfl, rfl, Nat.le_refl _, fun _ _ => rfl⟩⟩
  case rest =>
  obtain ⟨rfl, hS, hR⟩ := hcut
  have HS := Lib.hid hS; have HR := Lib.hid hR
  clear hS hR
  obtain ⟨Z1, hz1⟩ : ∃ Z, madeCells #[Value.int .i64 0] 17 = Z := ⟨_, rfl⟩
  obtain ⟨Z2, hz2⟩ : ∃ Z, madeCells #[Value.string ByteArray.empty] 5 = Z := ⟨_, rfl⟩
  have hm1 : ∀ W : World, (Instr.makeSlice 22 (.int .i64 17) (.int .i64 17)).run Try.prog W = .ok (.slice (some ⟨W.heap.size, 0, none⟩) 17 17) (W.alloc (.cells Z1 tI)) := fun W => by
    rw [← hz1]; exact run_make_row' 22 tI (.int .i64 0) 8 Try.underlying22 Try.infoI rfl .i64 .i64 17 (by decide) (by decide) W
  have hm2 : ∀ W : World, (Instr.makeSlice 23 (.int .i64 5) (.int .i64 5)).run Try.prog W = .ok (.slice (some ⟨W.heap.size, 0, none⟩) 5 5) (W.alloc (.cells Z2 tS)) := fun W => by
    rw [← hz2]; exact run_make_row' 23 tS (.string ByteArray.empty) 16 Try.underlying23 Try.infoS rfl .i64 .i64 5 (by decide) (by decide) W
  have HZ1 := Lib.hid (show Z1.toList = eI64.fl (List.replicate 17 0) by rw [← hz1]; kernel_rfl)
  have HZ2 := Lib.hid (show Z2.toList = eStr.fl (List.replicate 5 ByteArray.empty) by rw [← hz2]; kernel_rfl)
  have HM1 := Lib.hid (show mayB ⟨k, List.replicate 17 0, []⟩ = false from may_no (.inr (.inr (.inl (by simp)))))
  have HM2 := Lib.hid (show mayB ⟨k, [], List.replicate 5 ByteArray.empty⟩ = false from may_no (.inr (.inr (.inr (by simp)))))
  clear hz1 hz2
  go_upto_region 11 with fail
  generalize wc = w5 at *
  have HQ := Lib.hid HS.out.drew
  refine wp_region_L (fun w' => w'.cell? ⟨g, 0, none⟩ = some (.int .i64 k) ∧ w'.cell? ⟨g, 1, none⟩ = some (.slice An n cn) ∧ w'.cell? ⟨g, 2, none⟩ = some (.slice At t ct)) 15 (by kernel_rfl) (HC.out _ HQ.out.hd) (fun hHeld => ?_)
  refine reg_take (i := 0) (d := 52) (v := ?_) [] rfl rfl (by kernel_rfl) (by kernel_rfl) (fun _ _ _ h => h) (Or.inl ⟨by rfl, ?_⟩) (by assumption) ?_
  rotate_left
  · (intro w hSw; (try dsimp only at hSw); go_simp; first | done | with_reducible rfl)
  try simp only [List.setIfInBounds_toArray, List.set_cons_zero, List.set_cons_succ]
  refine reg_take (i := 1) (d := 53) (v := ?_) [] rfl rfl (by kernel_rfl) (by kernel_rfl) (fun _ _ _ h => h) (Or.inl ⟨by rfl, ?_⟩) (by assumption) ?_
  rotate_left
  · (intro w hSw; (try dsimp only at hSw); go_simp; first | done | with_reducible rfl)
  try simp only [List.setIfInBounds_toArray, List.set_cons_zero, List.set_cons_succ]
  refine wpAnyL_ready (rs := [2]) (by kernel_rfl) rfl ?_
  refine (AllL.cons rfl (fun K hK => ?_) AllL.nil)
  go_simp
  have HX := Lib.hid (Blk.new w5.drew Z1 tI)
  have HQ := Lib.hid (HQ.out.alloc (.cells Z1 tI))
  refine hK.out _ _ (HC.out _ HQ.out.hd) (fun hHeld => ?_)
  try simp only [List.setIfInBounds_toArray, List.set_cons_zero, List.set_cons_succ]
  refine reg_take (i := 3) (d := 55) (v := ?_) [] rfl rfl (by kernel_rfl) (by kernel_rfl) (fun _ _ _ h => h) (Or.inl ⟨by rfl, ?_⟩) (by assumption) ?_
  rotate_left
  · (intro w hSw; (try dsimp only at hSw); go_simp; first | done | with_reducible rfl)
  try simp only [List.setIfInBounds_toArray, List.set_cons_zero, List.set_cons_succ]
  refine wpAnyL_ready (rs := [4]) (by kernel_rfl) rfl ?_
  refine (AllL.cons rfl (fun K hK => ?_) AllL.nil)
  go_simp
  go_at_call 16
  refine (may_any ⟨k, List.replicate 17 0, []⟩ (some ⟨_, 0, none⟩) none 17 0 17 0 _ ⟨by simp, rfl, (by rw [← HZ1.out]; exact HX.out.rd), Rd.nil _ _, by decide, by decide⟩).mono ?_
  rw [HM1.out]
  rintro e5 w6 ⟨rfl, hB⟩
  have HQ := Lib.hid (HQ.out.step hB)
  clear hB
  go_simp
  refine hK.out _ _ (HC.out _ HQ.out.hd) (fun hHeld => ?_)
  try simp only [List.setIfInBounds_toArray, List.set_cons_zero, List.set_cons_succ]
  refine reg_take (i := 5) (d := 57) (v := ?_) [] rfl rfl (by kernel_rfl) (by kernel_rfl) (fun _ _ _ h => h) (Or.inl ⟨by rfl, ?_⟩) (by assumption) ?_
  rotate_left
  · (intro w hSw; (try dsimp only at hSw); go_simp; first | done | with_reducible rfl)
  try simp only [List.setIfInBounds_toArray, List.set_cons_zero, List.set_cons_succ]
  refine reg_take (i := 6) (d := 58) (v := ?_) [] rfl rfl (by kernel_rfl) (by kernel_rfl) (fun _ _ _ h => h) (Or.inl ⟨by rfl, ?_⟩) (by assumption) ?_
  rotate_left
  · (intro w hSw; (try dsimp only at hSw); go_simp; first | done | with_reducible rfl)
  try simp only [List.setIfInBounds_toArray, List.set_cons_zero, List.set_cons_succ]
  refine reg_take (i := 7) (d := 59) (v := ?_) [] rfl rfl (by kernel_rfl) (by kernel_rfl) (fun _ _ _ h => h) (Or.inl ⟨by rfl, ?_⟩) (by assumption) ?_
  rotate_left
  · (intro w hSw; (try dsimp only at hSw); go_simp; first | done | with_reducible rfl)
  try simp only [List.setIfInBounds_toArray, List.set_cons_zero, List.set_cons_succ]
  refine reg_take (i := 8) (d := 60) (v := ?_) [] rfl rfl (by kernel_rfl) (by kernel_rfl) (fun _ _ _ h => h) (Or.inl ⟨by rfl, ?_⟩) (by assumption) ?_
  rotate_left
  · (intro w hSw; (try dsimp only at hSw); go_simp; first | done | with_reducible rfl)
  try simp only [List.setIfInBounds_toArray, List.set_cons_zero, List.set_cons_succ]
  refine wpAnyL_ready (rs := [9]) (by kernel_rfl) rfl ?_
  refine (AllL.cons rfl (fun K hK => ?_) AllL.nil)
  go_simp
  have HX := Lib.hid (Blk.new w6 Z2 tS)
  have HQ := Lib.hid (HQ.out.alloc (.cells Z2 tS))
  refine hK.out _ _ (HC.out _ HQ.out.hd) (fun hHeld => ?_)
  try simp only [List.setIfInBounds_toArray, List.set_cons_zero, List.set_cons_succ]
  refine reg_take (i := 10) (d := 62) (v := ?_) [] rfl rfl (by kernel_rfl) (by kernel_rfl) (fun _ _ _ h => h) (Or.inl ⟨by rfl, ?_⟩) (by assumption) ?_
  rotate_left
  · (intro w hSw; (try dsimp only at hSw); go_simp; first | done | with_reducible rfl)
  try simp only [List.setIfInBounds_toArray, List.set_cons_zero, List.set_cons_succ]
  refine wpAnyL_ready (rs := [11]) (by kernel_rfl) rfl ?_
  refine (AllL.cons rfl (fun K hK => ?_) AllL.nil)
  go_simp
  go_at_call 16
  refine (may_any ⟨k, [], List.replicate 5 ByteArray.empty⟩ none (some ⟨_, 0, none⟩) 0 5 0 5 _ ⟨rfl, by simp, Rd.nil _ _, (by rw [← HZ2.out]; exact HX.out.rd), by decide, by decide⟩).mono ?_
  rw [HM2.out]
  rintro e5 w7 ⟨rfl, hB⟩
  have HQ := Lib.hid (HQ.out.step hB)
  clear hB
  go_simp
  refine hK.out _ _ (HC.out _ HQ.out.hd) (fun hHeld => ?_)
  try simp only [List.setIfInBounds_toArray, List.set_cons_zero, List.set_cons_succ]
  refine reg_take (i := 12) (d := 64) (v := ?_) [] rfl rfl (by kernel_rfl) (by kernel_rfl) (fun _ _ _ h => h) (Or.inl ⟨by rfl, ?_⟩) (by assumption) ?_
  rotate_left
  · (intro w hSw; (try dsimp only at hSw); go_simp; first | done | with_reducible rfl)
  try simp only [List.setIfInBounds_toArray, List.set_cons_zero, List.set_cons_succ]
  refine reg_take (i := 13) (d := 65) (v := ?_) [] rfl rfl (by kernel_rfl) (by kernel_rfl) (fun _ _ _ h => h) (Or.inl ⟨by rfl, ?_⟩) (by assumption) ?_
  rotate_left
  · (intro w hSw; (try dsimp only at hSw); go_simp; first | done | with_reducible rfl)
  try simp only [List.setIfInBounds_toArray, List.set_cons_zero, List.set_cons_succ]
  refine reg_take (i := 14) (d := 2) (v := ?_) [] rfl rfl (by kernel_rfl) (by kernel_rfl) (fun _ _ _ h => h) (Or.inl ⟨by rfl, ?_⟩) (by assumption) ?_
  rotate_left
  · (intro w hSw; (try dsimp only at hSw); go_simp; first | done | with_reducible rfl)
  try simp only [List.setIfInBounds_toArray, List.set_cons_zero, List.set_cons_succ]
  refine wpAnyL_done (by kernel_rfl) ?_ _
  go_wp2_with fail
  go_ret
  exact ⟨rfl, HQ.out.bel⟩
end Go.Proofs.Ytkflnldjckahnaa
