/- The walks of package client and of the document's: how many calls are left, the present call's message. Conditions: sizes. -/
import Derived.Test.YtodjmeodcmbdoaaCliV
import Derived.Test.YtodjmeodcmbdoaaFill
import Derived.Test.YtodjmeodcmbdoaaReg
import Derived.Deep.QuietTactic
set_option linter.unusedVariables false
set_option linter.unusedSimpArgs false
namespace Go.Proofs.Ytodjmeodcmbdoaa
open Go.RowKit
theorem infoC3 : (Try.prog.info? tCa).map (·.size) = some 3 := by kernel_rfl
section
variable {w W : World} {l : List Th} {b : Nat} {cv rv : Value} {c : Cst}
theorem left_sep (h : Sep w W (tCli tCl b cv rv c :: l)) (g : Good c) :
    Calls Try.prog 20 #[.pointer (some ⟨b, 0, none⟩)] W fun e W' => e = .returned (.int .i64 ((c.calls.length : Int) - (c.rs.length : Int))) ∧ Sep w W' (tCli tCl b cv rv c :: l) := by
  obtain ⟨⟨A, n', rfl, _⟩, ⟨A2, m', rfl, _⟩⟩ := h.cliForm
  obtain ⟨_, z1, z2, _⟩ := h.cliCells
  have hn1 := g.n
  have hm1 := g.m
  have HS := Lib.hid h
  clear h g
  generalize c.calls.length = n at *
  generalize c.rs.length = m at *
  have hw : IntKind.i64.wrap ((n : Int) - (m : Int)) = (n : Int) - (m : Int) := IntWalk.i64_in _ (by omega)
  go_enter Try.func20, Try.ntmps20
  have HW : Hid (W.drew.cell? ⟨b, 1, none⟩ = some (.slice A n n') ∧ W.drew.cell? ⟨b, 2, none⟩ = some (.slice A2 m m')) := Lib.hid ⟨z1, z2⟩
  go_upto_region 1 with fail
  refine wp_region_L (fun w' => w'.cell? ⟨b, 1, none⟩ = some (.slice A n n') ∧ w'.cell? ⟨b, 2, none⟩ = some (.slice A2 m m')) 12 (by kernel_rfl) HW.out (fun hHeld => ?_)
  refine reg_take (i := 0) (d := 3) (v := ?_) [] rfl rfl (by kernel_rfl) (by kernel_rfl) (fun _ _ _ h => h) (Or.inl ⟨by rfl, ?_⟩) (by assumption) ?_
  rotate_left
  · (intro w hSw; (try dsimp only at hSw); go_simp; first | done | with_reducible rfl)
  try simp only [List.setIfInBounds_toArray, List.set_cons_zero, List.set_cons_succ]
  refine reg_take (i := 1) (d := 4) (v := ?_) [] rfl rfl (by kernel_rfl) (by kernel_rfl) (fun _ _ _ h => h) (Or.inl ⟨by rfl, ?_⟩) (by assumption) ?_
  rotate_left
  · (intro w hSw; (try dsimp only at hSw); go_simp; first | done | with_reducible rfl)
  try simp only [List.setIfInBounds_toArray, List.set_cons_zero, List.set_cons_succ]
  refine reg_take (i := 2) (d := 5) (v := ?_) [] rfl rfl (by kernel_rfl) (by kernel_rfl) (fun _ _ _ h => h) (Or.inl ⟨by rfl, ?_⟩) (by assumption) ?_
  rotate_left
  · (intro w hSw; (try dsimp only at hSw); go_simp; first | done | with_reducible rfl)
  try simp only [List.setIfInBounds_toArray, List.set_cons_zero, List.set_cons_succ]
  refine reg_take (i := 3) (d := 6) (v := ?_) [] rfl rfl (by kernel_rfl) (by kernel_rfl) (fun _ _ _ h => h) (Or.inl ⟨by rfl, ?_⟩) (by assumption) ?_
  rotate_left
  · (intro w hSw; (try dsimp only at hSw); go_simp; first | done | with_reducible rfl)
  try simp only [List.setIfInBounds_toArray, List.set_cons_zero, List.set_cons_succ]
  refine reg_take (i := 4) (d := 7) (v := ?_) [] rfl rfl (by kernel_rfl) (by kernel_rfl) (fun _ _ _ h => h) (Or.inl ⟨by rfl, ?_⟩) (by assumption) ?_
  rotate_left
  · (intro w hSw; (try dsimp only at hSw); go_simp; first | done | with_reducible rfl)
  try simp only [List.setIfInBounds_toArray, List.set_cons_zero, List.set_cons_succ]
  refine reg_take (i := 5) (d := 8) (v := ?_) [] rfl rfl (by kernel_rfl) (by kernel_rfl) (fun _ _ _ h => h) (Or.inl ⟨by rfl, ?_⟩) (by assumption) ?_
  rotate_left
  · (intro w hSw; (try dsimp only at hSw); go_simp; first | done | with_reducible rfl)
  try simp only [List.setIfInBounds_toArray, List.set_cons_zero, List.set_cons_succ]
  refine reg_take (i := 6) (d := 9) (v := ?_) [] rfl rfl (by kernel_rfl) (by kernel_rfl) (fun _ _ _ h => h) (Or.inl ⟨by rfl, ?_⟩) (by assumption) ?_
  rotate_left
  · (intro w hSw; (try dsimp only at hSw); go_simp; first | done | with_reducible rfl)
  try simp only [List.setIfInBounds_toArray, List.set_cons_zero, List.set_cons_succ]
  refine reg_take (i := 7) (d := 10) (v := ?_) [] rfl rfl (by kernel_rfl) (by kernel_rfl) (fun _ _ _ h => h) (Or.inl ⟨by rfl, ?_⟩) (by assumption) ?_
  rotate_left
  · (intro w hSw; (try dsimp only at hSw); go_simp; first | done | with_reducible rfl)
  try simp only [List.setIfInBounds_toArray, List.set_cons_zero, List.set_cons_succ]
  refine reg_take (i := 8) (d := 11) (v := ?_) [] rfl rfl (by kernel_rfl) (by kernel_rfl) (fun _ _ _ h => h) (Or.inl ⟨by rfl, ?_⟩) (by assumption) ?_
  rotate_left
  · (intro w hSw; (try dsimp only at hSw); go_simp; first | done | with_reducible rfl)
  try simp only [List.setIfInBounds_toArray, List.set_cons_zero, List.set_cons_succ]
  refine reg_take (i := 9) (d := 12) (v := ?_) [] rfl rfl (by kernel_rfl) (by kernel_rfl) (fun _ _ _ h => h) (Or.inl ⟨by rfl, ?_⟩) (by assumption) ?_
  rotate_left
  · (intro w hSw; (try dsimp only at hSw); go_simp; first | done | with_reducible rfl)
  try simp only [List.setIfInBounds_toArray, List.set_cons_zero, List.set_cons_succ]
  refine reg_take (i := 10) (d := 13) (v := ?_) [] rfl rfl (by kernel_rfl) (by kernel_rfl) (fun _ _ _ h => h) (Or.inl ⟨by rfl, ?_⟩) (by assumption) ?_
  rotate_left
  · (intro w hSw; (try dsimp only at hSw); go_simp; first | done | with_reducible rfl)
  try simp only [List.setIfInBounds_toArray, List.set_cons_zero, List.set_cons_succ]
  refine reg_take (i := 11) (d := 2) (v := ?_) [] rfl rfl (by kernel_rfl) (by kernel_rfl) (fun _ _ _ h => h) (Or.inl ⟨by rfl, ?_⟩) (by assumption) ?_
  rotate_left
  · (intro w hSw; (try dsimp only at hSw); go_simp; first | done | with_reducible rfl)
  try simp only [List.setIfInBounds_toArray, List.set_cons_zero, List.set_cons_succ]
  refine wpAnyL_done (by kernel_rfl) ?_ _
  go_wp2
  go_ret
  exact ⟨rfl, HS.out.drew⟩
theorem rleft_sep (h : Sep w W (tCli tRc b cv rv c :: l)) (g : Good c) :
    Calls Try.prog 21 #[.pointer (some ⟨b, 0, none⟩)] W fun e W' => e = .returned (.int .i64 ((c.calls.length : Int) - (c.rs.length : Int))) ∧ Sep w W' (tCli tRc b cv rv c :: l) := by
  obtain ⟨⟨A, n', rfl, _⟩, ⟨A2, m', rfl, _⟩⟩ := h.cliForm
  obtain ⟨_, z1, z2, _⟩ := h.cliCells
  have hn1 := g.n
  have hm1 := g.m
  have HS := Lib.hid h
  clear h g
  generalize c.calls.length = n at *
  generalize c.rs.length = m at *
  have hw : IntKind.i64.wrap ((n : Int) - (m : Int)) = (n : Int) - (m : Int) := IntWalk.i64_in _ (by omega)
  go_enter Try.func21, Try.ntmps21
  have HW : Hid (W.drew.cell? ⟨b, 1, none⟩ = some (.slice A n n') ∧ W.drew.cell? ⟨b, 2, none⟩ = some (.slice A2 m m')) := Lib.hid ⟨z1, z2⟩
  go_upto_region 1 with fail
  refine wp_region_L (fun w' => w'.cell? ⟨b, 1, none⟩ = some (.slice A n n') ∧ w'.cell? ⟨b, 2, none⟩ = some (.slice A2 m m')) 12 (by kernel_rfl) HW.out (fun hHeld => ?_)
  refine reg_take (i := 0) (d := 3) (v := ?_) [] rfl rfl (by kernel_rfl) (by kernel_rfl) (fun _ _ _ h => h) (Or.inl ⟨by rfl, ?_⟩) (by assumption) ?_
  rotate_left
  · (intro w hSw; (try dsimp only at hSw); go_simp; first | done | with_reducible rfl)
  try simp only [List.setIfInBounds_toArray, List.set_cons_zero, List.set_cons_succ]
  refine reg_take (i := 1) (d := 4) (v := ?_) [] rfl rfl (by kernel_rfl) (by kernel_rfl) (fun _ _ _ h => h) (Or.inl ⟨by rfl, ?_⟩) (by assumption) ?_
  rotate_left
  · (intro w hSw; (try dsimp only at hSw); go_simp; first | done | with_reducible rfl)
  try simp only [List.setIfInBounds_toArray, List.set_cons_zero, List.set_cons_succ]
  refine reg_take (i := 2) (d := 5) (v := ?_) [] rfl rfl (by kernel_rfl) (by kernel_rfl) (fun _ _ _ h => h) (Or.inl ⟨by rfl, ?_⟩) (by assumption) ?_
  rotate_left
  · (intro w hSw; (try dsimp only at hSw); go_simp; first | done | with_reducible rfl)
  try simp only [List.setIfInBounds_toArray, List.set_cons_zero, List.set_cons_succ]
  refine reg_take (i := 3) (d := 6) (v := ?_) [] rfl rfl (by kernel_rfl) (by kernel_rfl) (fun _ _ _ h => h) (Or.inl ⟨by rfl, ?_⟩) (by assumption) ?_
  rotate_left
  · (intro w hSw; (try dsimp only at hSw); go_simp; first | done | with_reducible rfl)
  try simp only [List.setIfInBounds_toArray, List.set_cons_zero, List.set_cons_succ]
  refine reg_take (i := 4) (d := 7) (v := ?_) [] rfl rfl (by kernel_rfl) (by kernel_rfl) (fun _ _ _ h => h) (Or.inl ⟨by rfl, ?_⟩) (by assumption) ?_
  rotate_left
  · (intro w hSw; (try dsimp only at hSw); go_simp; first | done | with_reducible rfl)
  try simp only [List.setIfInBounds_toArray, List.set_cons_zero, List.set_cons_succ]
  refine reg_take (i := 5) (d := 8) (v := ?_) [] rfl rfl (by kernel_rfl) (by kernel_rfl) (fun _ _ _ h => h) (Or.inl ⟨by rfl, ?_⟩) (by assumption) ?_
  rotate_left
  · (intro w hSw; (try dsimp only at hSw); go_simp; first | done | with_reducible rfl)
  try simp only [List.setIfInBounds_toArray, List.set_cons_zero, List.set_cons_succ]
  refine reg_take (i := 6) (d := 9) (v := ?_) [] rfl rfl (by kernel_rfl) (by kernel_rfl) (fun _ _ _ h => h) (Or.inl ⟨by rfl, ?_⟩) (by assumption) ?_
  rotate_left
  · (intro w hSw; (try dsimp only at hSw); go_simp; first | done | with_reducible rfl)
  try simp only [List.setIfInBounds_toArray, List.set_cons_zero, List.set_cons_succ]
  refine reg_take (i := 7) (d := 10) (v := ?_) [] rfl rfl (by kernel_rfl) (by kernel_rfl) (fun _ _ _ h => h) (Or.inl ⟨by rfl, ?_⟩) (by assumption) ?_
  rotate_left
  · (intro w hSw; (try dsimp only at hSw); go_simp; first | done | with_reducible rfl)
  try simp only [List.setIfInBounds_toArray, List.set_cons_zero, List.set_cons_succ]
  refine reg_take (i := 8) (d := 11) (v := ?_) [] rfl rfl (by kernel_rfl) (by kernel_rfl) (fun _ _ _ h => h) (Or.inl ⟨by rfl, ?_⟩) (by assumption) ?_
  rotate_left
  · (intro w hSw; (try dsimp only at hSw); go_simp; first | done | with_reducible rfl)
  try simp only [List.setIfInBounds_toArray, List.set_cons_zero, List.set_cons_succ]
  refine reg_take (i := 9) (d := 12) (v := ?_) [] rfl rfl (by kernel_rfl) (by kernel_rfl) (fun _ _ _ h => h) (Or.inl ⟨by rfl, ?_⟩) (by assumption) ?_
  rotate_left
  · (intro w hSw; (try dsimp only at hSw); go_simp; first | done | with_reducible rfl)
  try simp only [List.setIfInBounds_toArray, List.set_cons_zero, List.set_cons_succ]
  refine reg_take (i := 10) (d := 13) (v := ?_) [] rfl rfl (by kernel_rfl) (by kernel_rfl) (fun _ _ _ h => h) (Or.inl ⟨by rfl, ?_⟩) (by assumption) ?_
  rotate_left
  · (intro w hSw; (try dsimp only at hSw); go_simp; first | done | with_reducible rfl)
  try simp only [List.setIfInBounds_toArray, List.set_cons_zero, List.set_cons_succ]
  refine reg_take (i := 11) (d := 2) (v := ?_) [] rfl rfl (by kernel_rfl) (by kernel_rfl) (fun _ _ _ h => h) (Or.inl ⟨by rfl, ?_⟩) (by assumption) ?_
  rotate_left
  · (intro w hSw; (try dsimp only at hSw); go_simp; first | done | with_reducible rfl)
  try simp only [List.setIfInBounds_toArray, List.set_cons_zero, List.set_cons_succ]
  refine wpAnyL_done (by kernel_rfl) ?_ _
  go_wp2
  go_ret
  exact ⟨rfl, HS.out.drew⟩
theorem node_sep (h : Sep w W (tCli tCl b cv rv c :: l)) :
    Calls Try.prog 22 #[.pointer (some ⟨b, 0, none⟩)] W fun e W' => e = .returned (.int .i64 c.node) ∧ W' = W := by
  obtain ⟨_, _, _, z3⟩ := h.cliCells
  clear h
  go_enter Try.func22, Try.ntmps22
  go_wp2
  go_ret
  exact ⟨rfl, rfl⟩
theorem turn_sep (h : Sep w W (tCli tCl b cv rv c :: l)) (g : Good c) :
    Calls Try.prog 17 #[.pointer (some ⟨b, 0, none⟩)] W fun e W' => e = .returned (.tuple #[]) ∧ Sep w W' (tCli tCl b cv rv c.turn :: l) := by
  obtain ⟨_, _, _, z3⟩ := h.cliCells
  have f3 := h.cli.1.frozen 3
  have HT := Lib.hid h.cliTurn
  have hn := g.node
  have hw : IntKind.i64.wrap (1 - c.node) = 1 - c.node := IntWalk.i64_in _ (by omega)
  clear h g hn
  go_enter Try.func17, Try.ntmps17
  go_wp2
  go_end0
  exact ⟨rfl, HT.out⟩
set_option maxRecDepth 100000 in
theorem msg_sep (h : Sep w W (tCli tCl b cv rv c :: l)) (g : Good c) (hlt : c.rs.length < c.calls.length) :
    Calls Try.prog 32 #[.pointer (some ⟨b, 0, none⟩)] W fun e W' => e = .returned (.agg c.msg.cs) ∧ Sep w W' (tCli tCl b cv rv c :: l) := by
  obtain ⟨⟨A, n', rfl, hn', _, hR⟩, ⟨A2, m', rfl, _⟩⟩ := h.cliForm
  obtain ⟨x, hx⟩ : ∃ x, c.calls[c.rs.length]? = some x := ⟨_, List.getElem?_eq_getElem hlt⟩
  have HM := Lib.hid (show c.msg = cMsg c.rs.length x by unfold Cst.msg Cst.now; rw [hx]; rfl)
  have HX := Lib.hid hx
  have HR := Lib.hid hR
  have hn1 := g.n
  obtain ⟨gM, hgM⟩ : ∃ k, W.heap.size = k := ⟨_, rfl⟩
  have HS := Lib.hid (h.newBlk zM.cs tMsg hgM)
  have HG := Lib.hid hgM
  have HR := Lib.hid (hR.below (show Below W.heap.size W (W.alloc (.cells zM.cs tMsg)) from (Below.refl _ _).alloc (Nat.le_refl _) _))
  clear h g hx hR hgM
  unfold zM Msg.cs at HS HR
  simp only at HS HR
  go_enter Try.func32, Try.ntmps32
  go_upto_region 1 with fail
  rw [HG.out]
  generalize W.alloc (.cells #[.int .i64 0, .int .i64 0, .int .i64 0, .int .i64 0, .int .i64 0, .int .i64 0, .int .i64 0, .int .i64 0, .int .i64 0, .int .i64 0, .int .i64 0, .string { data := #[] }, .string { data := #[] }] tMsg) = W1 at *
  obtain ⟨_, z1, z2, _⟩ := HS.out.sw.cliCells
  obtain ⟨gb, go, rfl, u0, u1, u2⟩ := HR.out.cal _ _ HX.out
  obtain ⟨n, hn⟩ : ∃ n, c.calls.length = n := ⟨_, rfl⟩
  obtain ⟨m, hm⟩ : ∃ m, c.rs.length = m := ⟨_, rfl⟩
  obtain ⟨op, bk, s⟩ := x
  simp only at u0 u1 u2
  have HN := Lib.hid (And.intro hn hm)
  rw [hn, hm] at hlt
  rw [hn] at z1 hn1 hn'
  rw [hm] at z2 u0 u1 u2
  clear hn hm
  have k1 : (m : Int) < (n : Int) := by omega
  have k0 : (0 : Int) ≤ (m : Int) := by omega
  have hw : IntKind.i64.wrap ((m : Int) + 1) = (m : Int) + 1 := IntWalk.i64_in _ (by omega)
  have HS := Lib.hid (HS.out.newBlk #[.int .i64 op, .int .i64 bk, .string s] tCa (g := W1.heap.size) rfl)
  go_upto_region 3 with fail
  generalize W1.alloc (.cells #[.int .i64 op, .int .i64 bk, .string s] tCa) = W2 at *
  generalize W1.heap.size = gC at *
  clear u0 u1 u2 z1 z2
  have hz := (show Blk W2 gC #[.int .i64 op, .int .i64 bk, .string s] tCa from HS.out.hd)
  have y0 := hz.cell 0; have y1 := hz.cell 1; have y2 := hz.cell 2
  simp at y0 y1 y2
  clear hz
  have hbm : ∀ (w : World), (Instr.build tMsg #[(0, .int .i64 14), (3, .int .i64 ((m : Int) + 1)), (2, .int .i64 op), (4, .int .i64 bk), (5, .int .i64 (-1)), (8, .string s)]).run Try.prog w = .ok (.agg (cMsg m ⟨op, bk, s⟩).cs) w := fun w => run_build w tMsg _ _ (by kernel_rfl)
  refine wp_region_lit (l := [_, _, _, _, _, _, _, _, _, _]) ?_
  iterate 9 (refine wpList_plain rfl fun _ hK => ?_; go_simp; refine hK _ _ ?_)
  refine storeR (cMsg m ⟨op, bk, s⟩).cs (show Blk W2 gM _ tMsg from HS.out.h2) rfl infoM (msg1 _) rfl (.tmp 2) (.tmp 25) rfl rfl rfl ?_
  intro W3 hb3 hu3
  have HB3 := Lib.hid hb3
  have HS3 := Lib.hid (HS.out.tail.put hb3 hu3).tail
  clear hb3 hu3
  go_wp2_with fail
  refine ret_cell (k := 2) (by kernel_rfl) rfl rfl HB3.out (by kernel_rfl) infoM ⟨?_, HS3.out⟩
  rw [HM.out, HN.out.2]
set_option maxRecDepth 100000 in
theorem rmsg_sep (h : Sep w W (tCli tRc b cv rv c :: l)) (g : Good c) (hlt : c.rs.length < c.calls.length) :
    Calls Try.prog 33 #[.pointer (some ⟨b, 0, none⟩)] W fun e W' => e = .returned (.agg c.msg.cs) ∧ Sep w W' (tCli tRc b cv rv c :: l) := by
  obtain ⟨⟨A, n', rfl, hn', _, hR⟩, ⟨A2, m', rfl, _⟩⟩ := h.cliForm
  obtain ⟨x, hx⟩ : ∃ x, c.calls[c.rs.length]? = some x := ⟨_, List.getElem?_eq_getElem hlt⟩
  have HM := Lib.hid (show c.msg = cMsg c.rs.length x by unfold Cst.msg Cst.now; rw [hx]; rfl)
  have HX := Lib.hid hx
  have hn1 := g.n
  obtain ⟨gM, hgM⟩ : ∃ k, W.heap.size = k := ⟨_, rfl⟩
  have HS := Lib.hid (h.newBlk zM.cs tMsg hgM)
  have HG := Lib.hid hgM
  have HR := Lib.hid (hR.below (show Below W.heap.size W (W.alloc (.cells zM.cs tMsg)) from (Below.refl _ _).alloc (Nat.le_refl _) _))
  clear h g hx hR hgM
  unfold zM Msg.cs at HS HR
  simp only at HS HR
  go_enter Try.func33, Try.ntmps33
  go_upto_region 1 with fail
  rw [HG.out]
  generalize W.alloc (.cells #[.int .i64 0, .int .i64 0, .int .i64 0, .int .i64 0, .int .i64 0, .int .i64 0, .int .i64 0, .int .i64 0, .int .i64 0, .int .i64 0, .int .i64 0, .string { data := #[] }, .string { data := #[] }] tMsg) = W1 at *
  obtain ⟨_, z1, z2, _⟩ := HS.out.sw.cliCells
  obtain ⟨gb, go, rfl, u0, u1, u2⟩ := HR.out.cal _ _ HX.out
  obtain ⟨n, hn⟩ : ∃ n, c.calls.length = n := ⟨_, rfl⟩
  obtain ⟨m, hm⟩ : ∃ m, c.rs.length = m := ⟨_, rfl⟩
  obtain ⟨op, bk, s⟩ := x
  simp only at u0 u1 u2
  have HN := Lib.hid (And.intro hn hm)
  rw [hn, hm] at hlt
  rw [hn] at z1 hn1 hn'
  rw [hm] at z2 u0 u1 u2
  clear hn hm
  have k1 : (m : Int) < (n : Int) := by omega
  have k0 : (0 : Int) ≤ (m : Int) := by omega
  have hw : IntKind.i64.wrap ((m : Int) + 1) = (m : Int) + 1 := IntWalk.i64_in _ (by omega)
  have HC : Hid (∀ w', Below W1.heap.size W1 w' → w'.cell? ⟨b, 1, none⟩ = some (.slice (some ⟨gb, go, none⟩) n n') ∧ w'.cell? ⟨b, 2, none⟩ = some (.slice A2 m m') ∧ w'.cell? ⟨gb, go + m * 3, none⟩ = some (.int .i64 op) ∧ w'.cell? ⟨gb, go + m * 3 + 1, none⟩ = some (.int .i64 bk) ∧ w'.cell? ⟨gb, go + m * 3 + 2, none⟩ = some (.string s)) := Lib.hid (fun w' h => by
    refine ⟨?_, ?_, ?_, ?_, ?_⟩
    · rw [h.cell (World.block_lt_of_cell? _ _ z1)]; exact z1
    · rw [h.cell (World.block_lt_of_cell? _ _ z2)]; exact z2
    · rw [h.cell (World.block_lt_of_cell? _ _ u0)]; exact u0
    · rw [h.cell (World.block_lt_of_cell? _ _ u1)]; exact u1
    · rw [h.cell (World.block_lt_of_cell? _ _ u2)]; exact u2)
  clear z1 z2 u0 u1 u2
  have HQ := Lib.hid ((Sep.nil W1).drew)
  refine wp_region_L (fun w' => w'.cell? ⟨b, 1, none⟩ = some (.slice (some ⟨gb, go, none⟩) n n') ∧ w'.cell? ⟨b, 2, none⟩ = some (.slice A2 m m') ∧ w'.cell? ⟨gb, go + m * 3, none⟩ = some (.int .i64 op) ∧ w'.cell? ⟨gb, go + m * 3 + 1, none⟩ = some (.int .i64 bk) ∧ w'.cell? ⟨gb, go + m * 3 + 2, none⟩ = some (.string s)) 12 (by kernel_rfl) (HC.out _ HQ.out.bel) (fun hHeld => ?_)
  refine reg_take (i := 0) (d := 4) (v := ?_) [] rfl rfl (by kernel_rfl) (by kernel_rfl) (fun _ _ _ h => h) (Or.inl ⟨by rfl, ?_⟩) (by assumption) ?_
  rotate_left
  · (intro w hSw; (try dsimp only at hSw); go_simp; first | done | with_reducible rfl)
  try simp only [List.setIfInBounds_toArray, List.set_cons_zero, List.set_cons_succ]
  refine reg_take (i := 1) (d := 5) (v := ?_) [] rfl rfl (by kernel_rfl) (by kernel_rfl) (fun _ _ _ h => h) (Or.inl ⟨by rfl, ?_⟩) (by assumption) ?_
  rotate_left
  · (intro w hSw; (try dsimp only at hSw); go_simp; first | done | with_reducible rfl)
  try simp only [List.setIfInBounds_toArray, List.set_cons_zero, List.set_cons_succ]
  refine reg_take (i := 2) (d := 6) (v := ?_) [] rfl rfl (by kernel_rfl) (by kernel_rfl) (fun _ _ _ h => h) (Or.inl ⟨by rfl, ?_⟩) (by assumption) ?_
  rotate_left
  · (intro w hSw; (try dsimp only at hSw); go_simp; first | done | with_reducible rfl)
  try simp only [List.setIfInBounds_toArray, List.set_cons_zero, List.set_cons_succ]
  refine reg_take (i := 3) (d := 7) (v := ?_) [] rfl rfl (by kernel_rfl) (by kernel_rfl) (fun _ _ _ h => h) (Or.inl ⟨by rfl, ?_⟩) (by assumption) ?_
  rotate_left
  · (intro w hSw; (try dsimp only at hSw); go_simp; first | done | with_reducible rfl)
  try simp only [List.setIfInBounds_toArray, List.set_cons_zero, List.set_cons_succ]
  refine reg_take (i := 4) (d := 8) (v := ?_) [] rfl rfl (by kernel_rfl) (by kernel_rfl) (fun _ _ _ h => h) (Or.inl ⟨by rfl, ?_⟩) (by assumption) ?_
  rotate_left
  · (intro w hSw; (try dsimp only at hSw); go_simp; first | done | with_reducible rfl)
  try simp only [List.setIfInBounds_toArray, List.set_cons_zero, List.set_cons_succ]
  refine reg_take (i := 5) (d := 9) (v := ?_) [] rfl rfl (by kernel_rfl) (by kernel_rfl) (fun _ _ _ h => h) (Or.inl ⟨by rfl, ?_⟩) (by assumption) ?_
  rotate_left
  · (intro w hSw; (try dsimp only at hSw); go_simp; first | done | with_reducible rfl)
  try simp only [List.setIfInBounds_toArray, List.set_cons_zero, List.set_cons_succ]
  refine reg_take (i := 6) (d := 10) (v := ?_) [] rfl rfl (by kernel_rfl) (by kernel_rfl) (fun _ _ _ h => h) (Or.inl ⟨by rfl, ?_⟩) (by assumption) ?_
  rotate_left
  · (intro w hSw; (try dsimp only at hSw); go_simp; first | done | with_reducible rfl)
  try simp only [List.setIfInBounds_toArray, List.set_cons_zero, List.set_cons_succ]
  refine reg_take (i := 7) (d := 11) (v := ?_) [] rfl rfl (by kernel_rfl) (by kernel_rfl) (fun _ _ _ h => h) (Or.inl ⟨by rfl, ?_⟩) (by assumption) ?_
  rotate_left
  · (intro w hSw; (try dsimp only at hSw); go_simp; first | done | with_reducible rfl)
  try simp only [List.setIfInBounds_toArray, List.set_cons_zero, List.set_cons_succ]
  refine reg_take (i := 8) (d := 12) (v := ?_) [] rfl rfl (by kernel_rfl) (by kernel_rfl) (fun _ _ _ h => h) (Or.inl ⟨by rfl, ?_⟩) (by assumption) ?_
  rotate_left
  · (intro w hSw; (try dsimp only at hSw); go_simp; first | done | with_reducible rfl)
  try simp only [List.setIfInBounds_toArray, List.set_cons_zero, List.set_cons_succ]
  refine reg_take (i := 9) (d := 13) (v := ?_) [] rfl rfl (by kernel_rfl) (by kernel_rfl) (fun _ _ _ h => h) (Or.inl ⟨by rfl, ?_⟩) (by assumption) ?_
  rotate_left
  · (intro w hSw; (try dsimp only at hSw); go_simp; first | done | with_reducible rfl)
  try simp only [List.setIfInBounds_toArray, List.set_cons_zero, List.set_cons_succ]
  refine reg_take (i := 10) (d := 14) (v := ?_) [] rfl rfl (by kernel_rfl) (by kernel_rfl) (fun _ _ _ h => h) (Or.inl ⟨by rfl, ?_⟩) (by assumption) ?_
  rotate_left
  · (intro w hSw; (try dsimp only at hSw); go_simp; first | done | with_reducible rfl)
  try simp only [List.setIfInBounds_toArray, List.set_cons_zero, List.set_cons_succ]
  refine wpAnyL_ready (rs := [11]) (by kernel_rfl) rfl ?_
  refine (AllL.cons rfl (fun K hK => ?_) AllL.nil)
  go_simp
  have HQ := Lib.hid (HQ.out.newBlk #[.int .i64 0, .int .i64 0, .string { data := #[] }] tCa (g := W1.heap.size) (by simp))
  refine hK.out _ _ (HC.out _ HQ.out.bel) (fun hHeld => ?_)
  try simp only [List.setIfInBounds_toArray, List.set_cons_zero, List.set_cons_succ]
  refine wpAnyL_ready (rs := [12]) (by kernel_rfl) rfl ?_
  refine (AllL.consJ rfl (by kernel_rfl) (fun K hK => ?_) AllL.nil)
  refine stepStoreR #[.int .i64 op, .int .i64 bk, .string s] (show Blk _ W1.heap.size #[.int .i64 0, .int .i64 0, .string { data := #[] }] tCa from HQ.out.hd) rfl infoC3 (by simp [Value.oneCell']) rfl (.tmp 3) (.tmp 14) rfl rfl rfl ?_
  intro W2 hb2 hu2
  have HQ := Lib.hid (HQ.out.put hb2 hu2)
  clear hb2 hu2
  refine hK.out _ _ ?_
  try simp only [List.setIfInBounds_toArray, List.set_cons_zero, List.set_cons_succ]
  refine wpAnyL_done (by kernel_rfl) ?_ _
  have HS := Lib.hid (HS.out.join HQ.out)
  have HC2 : Hid (∀ w', Below W2.heap.size W2 w' → w'.cell? ⟨b, 2, none⟩ = some (.slice A2 m m') ∧ w'.cell? ⟨W1.heap.size, 0, none⟩ = some (.int .i64 op) ∧ w'.cell? ⟨W1.heap.size, 1, none⟩ = some (.int .i64 bk) ∧ w'.cell? ⟨W1.heap.size, 2, none⟩ = some (.string s)) := Lib.hid (fun w' h => by
    have hz := (show Blk W2 W1.heap.size #[.int .i64 op, .int .i64 bk, .string s] tCa from HS.out.hd).bel h
    exact ⟨(HC.out w' (HQ.out.bel.trans (h.mono HQ.out.size))).2.1, hz.cell 0, hz.cell 1, hz.cell 2⟩)
  go_upto_region 2 with fail
  have hbm : ∀ (w : World), (Instr.build tMsg #[(0, .int .i64 14), (3, .int .i64 ((m : Int) + 1)), (2, .int .i64 op), (4, .int .i64 bk), (5, .int .i64 (-1)), (8, .string s)]).run Try.prog w = .ok (.agg (cMsg m ⟨op, bk, s⟩).cs) w := fun w => run_build w tMsg _ _ (by kernel_rfl)
  have HB2 := Lib.hid (show Below W2.heap.size W2 W2.drew from (Below.refl _ _).drew)
  refine wp_region_L (fun w' => w'.cell? ⟨b, 2, none⟩ = some (.slice A2 m m') ∧ w'.cell? ⟨W1.heap.size, 0, none⟩ = some (.int .i64 op) ∧ w'.cell? ⟨W1.heap.size, 1, none⟩ = some (.int .i64 bk) ∧ w'.cell? ⟨W1.heap.size, 2, none⟩ = some (.string s)) 13 (by kernel_rfl) (HC2.out _ HB2.out) (fun hHeld => ?_)
  refine reg_take (i := 0) (d := 15) (v := ?_) [] rfl rfl (by kernel_rfl) (by kernel_rfl) (fun _ _ _ h => h) (Or.inl ⟨by rfl, ?_⟩) (by assumption) ?_
  rotate_left
  · (intro w hSw; (try dsimp only at hSw); go_simp; first | done | with_reducible rfl)
  try simp only [List.setIfInBounds_toArray, List.set_cons_zero, List.set_cons_succ]
  refine reg_take (i := 1) (d := 16) (v := ?_) [] rfl rfl (by kernel_rfl) (by kernel_rfl) (fun _ _ _ h => h) (Or.inl ⟨by rfl, ?_⟩) (by assumption) ?_
  rotate_left
  · (intro w hSw; (try dsimp only at hSw); go_simp; first | done | with_reducible rfl)
  try simp only [List.setIfInBounds_toArray, List.set_cons_zero, List.set_cons_succ]
  refine reg_take (i := 2) (d := 17) (v := ?_) [] rfl rfl (by kernel_rfl) (by kernel_rfl) (fun _ _ _ h => h) (Or.inl ⟨by rfl, ?_⟩) (by assumption) ?_
  rotate_left
  · (intro w hSw; (try dsimp only at hSw); go_simp; first | done | with_reducible rfl)
  try simp only [List.setIfInBounds_toArray, List.set_cons_zero, List.set_cons_succ]
  refine reg_take (i := 3) (d := 18) (v := ?_) [] rfl rfl (by kernel_rfl) (by kernel_rfl) (fun _ _ _ h => h) (Or.inl ⟨by rfl, ?_⟩) (by assumption) ?_
  rotate_left
  · (intro w hSw; (try dsimp only at hSw); go_simp; first | done | with_reducible rfl)
  try simp only [List.setIfInBounds_toArray, List.set_cons_zero, List.set_cons_succ]
  refine reg_take (i := 4) (d := 19) (v := ?_) [] rfl rfl (by kernel_rfl) (by kernel_rfl) (fun _ _ _ h => h) (Or.inl ⟨by rfl, ?_⟩) (by assumption) ?_
  rotate_left
  · (intro w hSw; (try dsimp only at hSw); go_simp; first | done | with_reducible rfl)
  try simp only [List.setIfInBounds_toArray, List.set_cons_zero, List.set_cons_succ]
  refine reg_take (i := 5) (d := 20) (v := ?_) [] rfl rfl (by kernel_rfl) (by kernel_rfl) (fun _ _ _ h => h) (Or.inl ⟨by rfl, ?_⟩) (by assumption) ?_
  rotate_left
  · (intro w hSw; (try dsimp only at hSw); go_simp; first | done | with_reducible rfl)
  try simp only [List.setIfInBounds_toArray, List.set_cons_zero, List.set_cons_succ]
  refine reg_take (i := 6) (d := 21) (v := ?_) [] rfl rfl (by kernel_rfl) (by kernel_rfl) (fun _ _ _ h => h) (Or.inl ⟨by rfl, ?_⟩) (by assumption) ?_
  rotate_left
  · (intro w hSw; (try dsimp only at hSw); go_simp; first | done | with_reducible rfl)
  try simp only [List.setIfInBounds_toArray, List.set_cons_zero, List.set_cons_succ]
  refine reg_take (i := 7) (d := 22) (v := ?_) [] rfl rfl (by kernel_rfl) (by kernel_rfl) (fun _ _ _ h => h) (Or.inl ⟨by rfl, ?_⟩) (by assumption) ?_
  rotate_left
  · (intro w hSw; (try dsimp only at hSw); go_simp; first | done | with_reducible rfl)
  try simp only [List.setIfInBounds_toArray, List.set_cons_zero, List.set_cons_succ]
  refine reg_take (i := 8) (d := 23) (v := ?_) [] rfl rfl (by kernel_rfl) (by kernel_rfl) (fun _ _ _ h => h) (Or.inl ⟨by rfl, ?_⟩) (by assumption) ?_
  rotate_left
  · (intro w hSw; (try dsimp only at hSw); go_simp; first | done | with_reducible rfl)
  try simp only [List.setIfInBounds_toArray, List.set_cons_zero, List.set_cons_succ]
  refine reg_take (i := 9) (d := 24) (v := ?_) [] rfl rfl (by kernel_rfl) (by kernel_rfl) (fun _ _ _ h => h) (Or.inl ⟨by rfl, ?_⟩) (by assumption) ?_
  rotate_left
  · (intro w hSw; (try dsimp only at hSw); go_simp; first | done | with_reducible rfl)
  try simp only [List.setIfInBounds_toArray, List.set_cons_zero, List.set_cons_succ]
  refine reg_take (i := 10) (d := 25) (v := ?_) [] rfl rfl (by kernel_rfl) (by kernel_rfl) (fun _ _ _ h => h) (Or.inl ⟨by rfl, ?_⟩) (by assumption) ?_
  rotate_left
  · (intro w hSw; (try dsimp only at hSw); go_simp; first | done | with_reducible rfl)
  try simp only [List.setIfInBounds_toArray, List.set_cons_zero, List.set_cons_succ]
  refine reg_take (i := 11) (d := 26) (v := ?_) [] rfl rfl (by kernel_rfl) (by kernel_rfl) (fun _ _ _ h => h) (Or.inl ⟨by rfl, ?_⟩) (by assumption) ?_
  rotate_left
  · (intro w hSw; (try dsimp only at hSw); go_simp; first | done | with_reducible rfl)
  try simp only [List.setIfInBounds_toArray, List.set_cons_zero, List.set_cons_succ]
  refine reg_take (i := 12) (d := 27) (v := ?_) [] rfl rfl (by kernel_rfl) (by kernel_rfl) (fun _ _ _ h => h) (Or.inl ⟨by rfl, ?_⟩) (by assumption) ?_
  rotate_left
  · (intro w hSw; (try dsimp only at hSw); go_simp; first | done | with_reducible rfl)
  try simp only [List.setIfInBounds_toArray, List.set_cons_zero, List.set_cons_succ]
  refine wpAnyL_ready (rs := [13]) (by kernel_rfl) rfl ?_
  refine (AllL.consJ rfl (by kernel_rfl) (fun K hK => ?_) AllL.nil)
  refine stepStoreR (cMsg m ⟨op, bk, s⟩).cs (show Blk _ gM _ tMsg from HS.out.drew.h2) rfl infoM (msg1 _) rfl (.tmp 2) (.tmp 27) rfl rfl rfl ?_
  intro W3 hb3 hu3
  have HB3 := Lib.hid hb3
  have HS3 := Lib.hid (HS.out.drew.tail.put hb3 hu3).tail
  clear hb3 hu3
  refine hK.out _ _ ?_
  try simp only [List.setIfInBounds_toArray, List.set_cons_zero, List.set_cons_succ]
  refine wpAnyL_done (by kernel_rfl) ?_ _
  go_wp2_with fail
  refine ret_cell (k := 2) (by kernel_rfl) rfl rfl HB3.out (by kernel_rfl) infoM ⟨?_, HS3.out⟩
  rw [HM.out, HN.out.2]
end
end Go.Proofs.Ytodjmeodcmbdoaa
