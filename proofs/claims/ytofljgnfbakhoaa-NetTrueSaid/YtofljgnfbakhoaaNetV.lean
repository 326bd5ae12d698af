/- The walks of package net, what goes and what is told. Conditions: at most 300 letters are under way. -/
import Derived.Test.YtofljgnfbakhoaaNetW
import Derived.Test.YtofljgnfbakhoaaRet
import Derived.Deep.LoopGhost
set_option linter.unusedVariables false
set_option linter.unusedSimpArgs false
namespace Go.Proofs.Ytofljgnfbakhoaa
open Go.RowKit
section
variable {w W : World} {r : List Th} {b : Nat} {lv : Value} {l : List Letter}
theorem at_some (A : Option Addr) (n c : Nat) (i : Int) (w : World) (hb : Blk w b #[.slice A n c] 51) (hn : 0 < n) (hn2 : n ≤ 300) :
    Calls Try.prog 24 #[.pointer (some ⟨b, 0, none⟩), .int .i64 i] w fun e w' => e = .returned (.tuple #[.int .i64 (atK i n : Nat), .bool true]) ∧ w = w' := by
  have z0 : w.cell? ⟨b, 0, none⟩ = some (.slice A n c) := hb.cell 0
  have h1 : ((n : Int) == 0) = false := by simp; omega
  have hbd := tmod_bd i hn
  have HK := Lib.hid (show (i.tmod n + n).tmod n = ((atK i n : Nat) : Int) by rw [tmod_emod i hn, atK_cast i hn])
  have h3 : IntKind.i64.wrap (i.tmod n + n) = i.tmod n + n := IntWalk.i64_in _ (by omega)
  clear hbd
  go_enter Try.func24, Try.ntmps24
  go_wp2
  go_ret2
  rw [HK.out]
  exact ⟨rfl, rfl⟩
theorem at_none (A : Option Addr) (c : Nat) (i : Int) (w : World) (hb : Blk w b #[.slice A 0 c] 51) :
    Calls Try.prog 24 #[.pointer (some ⟨b, 0, none⟩), .int .i64 i] w fun e w' => e = .returned (.tuple #[.int .i64 0, .bool false]) ∧ w = w' := by
  have z0 : w.cell? ⟨b, 0, none⟩ = some (.slice A 0 c) := hb.cell 0
  go_enter Try.func24, Try.ntmps24
  go_wp2
  go_ret2
  exact ⟨rfl, rfl⟩
theorem len_sep (h : Sep w W (tN b lv l :: r)) :
    Calls Try.prog 20 #[.pointer (some ⟨b, 0, none⟩)] W fun e W' => e = .returned (.int .i64 l.length) ∧ Sep w W' (tN b lv l :: r) := by
  obtain ⟨hb, A, c, rfl, _⟩ := h.box
  have z0 : W.cell? ⟨b, 0, none⟩ = some (.slice A l.length c) := hb.cell 0
  have HT := Lib.hid h
  clear h hb
  go_enter Try.func20, Try.ntmps20
  go_wp2
  go_ret
  exact ⟨rfl, HT.out⟩
theorem take_none (h : Sep w W (tN b lv [] :: r)) (i : Int) :
    Calls Try.prog 13 #[.pointer (some ⟨b, 0, none⟩), .int .i64 i] W fun e W' => e = .returned (.tuple #[.agg #[.int .i64 0, .int .i64 0, .string ByteArray.empty], .bool false]) ∧ Sep w W' (tN b lv [] :: r) := by
  obtain ⟨hb, A, c, rfl, _⟩ := h.box
  have HB := Lib.hid hb
  have HT := Lib.hid h
  clear h hb
  go_enter Try.func13, Try.ntmps13
  go_wp2_with (go_at_call 24; refine (at_none A c i _ (HB.out.alloc _)).mono ?_; rintro e w' ⟨rfl, rfl⟩)
  exact ret_cell_tmp (k := 4) (u := 5) (by kernel_rfl) rfl rfl (Blk.new W _ tL) (by kernel_rfl) (by kernel_rfl) ⟨rfl, HT.out.alloc _⟩
set_option maxRecDepth 100000 in
theorem take_some (h : Sep w W (tN b lv l :: r)) (i : Int) (k : Nat) (x : Letter) (hk : atK i l.length = k) (hx : l[k]? = some x) (hn2 : l.length ≤ 300) :
    Calls Try.prog 13 #[.pointer (some ⟨b, 0, none⟩), .int .i64 i] W fun e W' => e = .returned (.tuple #[x.agg, .bool true]) ∧ ∃ lv', Sep w W' (tN b lv' (takeL l k) :: r) := by
  obtain ⟨hkl, hx0⟩ := List.getElem?_eq_some_iff.1 hx
  have hn : 0 < l.length := by omega
  obtain ⟨hb, A, c, rfl, hlc, hA, hR⟩ := h.box
  obtain ⟨g, c', hv⟩ := h.boxOwn.pos hn
  simp only [Value.slice.injEq, true_and] at hv
  obtain ⟨rfl, rfl⟩ := hv
  obtain ⟨gb, go, he, u0, u1, u2⟩ := hR.let3 k x hx
  simp only [Option.some.injEq, Addr.mk.injEq, and_true] at he
  obtain ⟨rfl, rfl⟩ := he
  simp only [Nat.zero_add] at u0 u1 u2
  have HT4 := Lib.hid ((h.newBlk #[.int .i64 0, .int .i64 0, .string ByteArray.empty] tL rfl).sw)
  have HT8 := Lib.hid ((HT4.out.newBlk #[.int .i64 x.frm, .int .i64 x.to, .string x.body] tL rfl).sw)
  have hb4 := HT4.out.box.1
  have BB := (Below.refl W.heap.size W).alloc (Nat.le_refl _) (.cells #[.int .i64 0, .int .i64 0, .string ByteArray.empty] tL)
  have v0 := (BB.cell (World.block_lt_of_cell? W _ u0)).trans u0
  have v1 := (BB.cell (World.block_lt_of_cell? W _ u1)).trans u1
  have v2 := (BB.cell (World.block_lt_of_cell? W _ u2)).trans u2
  have z0 : (W.alloc (.cells #[.int .i64 0, .int .i64 0, .string ByteArray.empty] tL)).cell? ⟨b, 0, none⟩ = some (.slice (some ⟨g, 0, none⟩) l.length c) := hb4.cell 0
  have HB4 := Lib.hid hb4
  have i0 : (0 : Int) ≤ (k : Int) := by omega
  have i1 : (k : Int) < (l.length : Int) := by omega
  have HK := Lib.hid hk
  clear hb4 u0 u1 u2 BB hk hx hx0 hR hA h hb
  go_enter Try.func13, Try.ntmps13
  go_upto_region 5 with (go_at_call 24; refine (at_some _ l.length c i _ HB4.out hn hn2).mono ?_; rintro e w' ⟨rfl, rfl⟩; simp only [HK.out])
  clear v0 v1 v2 z0
  have HX8 := Lib.hid HT8.out.h2
  have HBB := Lib.hid HT8.out.box.1
  have HOO := Lib.hid HT8.out.boxOwn
  simp only [World.size_alloc] at HT8 HX8
  generalize hwc : (W.alloc (.cells #[.int .i64 0, .int .i64 0, .string ByteArray.empty] tL)).alloc (.cells #[.int .i64 x.frm, .int .i64 x.to, .string x.body] tL) = wc at *
  clear hwc
  generalize W.heap.size = g4 at *
  have hR2 : Rd wc (if c = k + 1 then some ⟨g, 0, none⟩ else some ⟨g, (k + 1) * 3, none⟩) (eLet.fl (l.drop (k + 1))) := by
    split
    · rename_i e
      rw [List.drop_of_length_le (by omega)]
      exact Rd.nil _ _
    · rw [Enc.drop]
      exact HOO.out.rd.dropAt ((k + 1) * 3)
  obtain ⟨A2, hA2⟩ : ∃ A2 : Addr, (if c = k + 1 then some ⟨g, 0, none⟩ else some ⟨g, (k + 1) * 3, none⟩) = some A2 := by split <;> exact ⟨_, rfl⟩
  rw [hA2] at hR2
  have HR2 := Lib.hid hR2
  have HL := Lib.hid (show (k + (l.length - (k + 1))) * 32 ≤ 140737488355328 by omega)
  have HOF := Lib.hid (HOO.out.front (k := k) (by omega))
  have w1 : IntKind.i64.wrap ((k : Int) + 1) = (k : Int) + 1 := IntWalk.i64_in _ (by omega)
  have i2 : (k : Int) + 1 ≤ (l.length : Int) := by omega
  have i3 : (0 : Int) ≤ (k : Int) + 1 := by omega
  have i4 : (k : Int) ≤ (c : Int) := by omega
  have i5 : ((k : Int) + 1).toNat = k + 1 := by omega
  clear hR2 HT4 HB4
  refine wp_region_L (fun w' => w'.cell? ⟨b, 0, none⟩ = some (.slice (some ⟨g, 0, none⟩) l.length c)) 18 (by kernel_rfl) (HBB.out.cell 0) (fun hHeld => ?_)
  refine reg_take (i := 0) (d := 25) (v := ?_) [] rfl rfl (by kernel_rfl) (by kernel_rfl) (fun _ _ _ h => h) (Or.inl ⟨by rfl, ?_⟩) (by assumption) ?_
  rotate_left
  · (intro w hSw; (try dsimp only at hSw); go_simp; first | done | with_reducible rfl)
  try simp only [List.setIfInBounds_toArray, List.set_cons_zero, List.set_cons_succ]
  refine reg_take (i := 1) (d := 26) (v := ?_) [] rfl rfl (by kernel_rfl) (by kernel_rfl) (fun _ _ _ h => h) (Or.inl ⟨by rfl, ?_⟩) (by assumption) ?_
  rotate_left
  · (intro w hSw; (try dsimp only at hSw); go_simp; first | done | with_reducible rfl)
  try simp only [List.setIfInBounds_toArray, List.set_cons_zero, List.set_cons_succ]
  refine reg_take (i := 2) (d := 27) (v := ?_) [] rfl rfl (by kernel_rfl) (by kernel_rfl) (fun _ _ _ h => h) (Or.inl ⟨by rfl, ?_⟩) (by assumption) ?_
  rotate_left
  · (intro w hSw; (try dsimp only at hSw); go_simp; first | done | with_reducible rfl)
  try simp only [List.setIfInBounds_toArray, List.set_cons_zero, List.set_cons_succ]
  refine reg_take (i := 3) (d := 28) (v := ?_) [] rfl rfl (by kernel_rfl) (by kernel_rfl) (fun _ _ _ h => h) (Or.inl ⟨by rfl, ?_⟩) (by assumption) ?_
  rotate_left
  · (intro w hSw; (try dsimp only at hSw); go_simp; first | done | with_reducible rfl)
  try simp only [List.setIfInBounds_toArray, List.set_cons_zero, List.set_cons_succ]
  refine reg_take (i := 4) (d := 29) (v := ?_) [] rfl rfl (by kernel_rfl) (by kernel_rfl) (fun _ _ _ h => h) (Or.inl ⟨by rfl, ?_⟩) (by assumption) ?_
  rotate_left
  · (intro w hSw; (try dsimp only at hSw); go_simp; first | done | with_reducible rfl)
  try simp only [List.setIfInBounds_toArray, List.set_cons_zero, List.set_cons_succ]
  refine reg_take (i := 5) (d := 30) (v := ?_) [] rfl rfl (by kernel_rfl) (by kernel_rfl) (fun _ _ _ h => h) (Or.inl ⟨by rfl, ?_⟩) (by assumption) ?_
  rotate_left
  · (intro w hSw; (try dsimp only at hSw); go_simp; first | done | with_reducible rfl)
  try simp only [List.setIfInBounds_toArray, List.set_cons_zero, List.set_cons_succ]
  refine reg_take (i := 6) (d := 31) (v := ?_) [] rfl rfl (by kernel_rfl) (by kernel_rfl) (fun _ _ _ h => h) (Or.inl ⟨by rfl, ?_⟩) (by assumption) ?_
  rotate_left
  · (intro w hSw; (try dsimp only at hSw); go_simp; first | done | with_reducible rfl)
  try simp only [List.setIfInBounds_toArray, List.set_cons_zero, List.set_cons_succ]
  refine reg_take (i := 7) (d := 32) (v := ?_) [] rfl rfl (by kernel_rfl) (by kernel_rfl) (fun _ _ _ h => h) (Or.inl ⟨by rfl, ?_⟩) (by assumption) ?_
  rotate_left
  · (intro w hSw; (try dsimp only at hSw); go_simp; first | done | with_reducible rfl)
  try simp only [List.setIfInBounds_toArray, List.set_cons_zero, List.set_cons_succ]
  refine reg_take (i := 8) (d := 33) (v := ?_) [] rfl rfl (by kernel_rfl) (by kernel_rfl) (fun _ _ _ h => h) (Or.inl ⟨by rfl, ?_⟩) (by assumption) ?_
  rotate_left
  · (intro w hSw; (try dsimp only at hSw); go_simp; first | done | with_reducible rfl)
  try simp only [List.setIfInBounds_toArray, List.set_cons_zero, List.set_cons_succ]
  refine reg_take (i := 9) (d := 34) (v := ?_) [] rfl rfl (by kernel_rfl) (by kernel_rfl) (fun _ _ _ h => h) (Or.inl ⟨by rfl, ?_⟩) (by assumption) ?_
  rotate_left
  · (intro w hSw; (try dsimp only at hSw); go_simp; first | done | with_reducible rfl)
  try simp only [List.setIfInBounds_toArray, List.set_cons_zero, List.set_cons_succ]
  refine reg_take (i := 10) (d := 35) (v := ?_) [] rfl rfl (by kernel_rfl) (by kernel_rfl) (fun _ _ _ h => h) (Or.inl ⟨by rfl, ?_⟩) (by assumption) ?_
  rotate_left
  · (intro w hSw; (try dsimp only at hSw); go_simp; first | done | with_reducible rfl)
  try simp only [List.setIfInBounds_toArray, List.set_cons_zero, List.set_cons_succ]
  refine reg_take (i := 11) (d := 36) (v := ?_) [] rfl rfl (by kernel_rfl) (by kernel_rfl) (fun _ _ _ h => h) (Or.inl ⟨by rfl, ?_⟩) (by assumption) ?_
  rotate_left
  · (intro w hSw; (try dsimp only at hSw); go_simp; first | done | with_reducible rfl)
  try simp only [List.setIfInBounds_toArray, List.set_cons_zero, List.set_cons_succ]
  refine reg_take (i := 12) (d := 37) (v := ?_) [] rfl rfl (by kernel_rfl) (by kernel_rfl) (fun _ _ _ h => h) (Or.inl ⟨by rfl, ?_⟩) (by assumption) ?_
  rotate_left
  · (intro w hSw; (try dsimp only at hSw); go_simp; first | done | with_reducible rfl)
  try simp only [List.setIfInBounds_toArray, List.set_cons_zero, List.set_cons_succ]
  refine reg_take (i := 13) (d := 38) (v := ?_) [] rfl rfl (by kernel_rfl) (by kernel_rfl) (fun _ _ _ h => h) (Or.inl ⟨by rfl, ?_⟩) (by assumption) ?_
  rotate_left
  · (intro w hSw; (try dsimp only at hSw); go_simp; first | done | with_reducible rfl)
  try simp only [List.setIfInBounds_toArray, List.set_cons_zero, List.set_cons_succ]
  refine reg_take (i := 14) (d := 39) (v := ?_) [] rfl rfl (by kernel_rfl) (by kernel_rfl) (fun _ _ _ h => h) (Or.inl ⟨by rfl, ?_⟩) (by assumption) ?_
  rotate_left
  · (intro w hSw; (try dsimp only at hSw); go_simp; first | done | with_reducible rfl)
  try simp only [List.setIfInBounds_toArray, List.set_cons_zero, List.set_cons_succ]
  refine wpAnyL_ready (rs := [15]) (by kernel_rfl) rfl ?_
  refine (AllL.cons rfl (fun K hK => ?_) AllL.nil)
  refine stepA 27 tL (.agg #[.int .i64 0, .int .i64 0, .string ByteArray.empty]) 3 32 (eLet.fl (l.drop (k + 1))) (l.length - (k + 1)) HOF.out.drew HL.out Try.underlying27 Try.infoL rfl (by decide) (by decide) (by rw [Enc.length, List.length_drop]; rfl) (Enc.ones _) (some A2) _ HR2.out (fun e => nomatch e) (.tmp 32) (.tmp 39) rfl rfl rfl rfl ?_
  intro v1 w1 ho1 hg1 hat1
  obtain ⟨A1, c1, rfl, _⟩ := ho1.form
  have HO1 := Lib.hid ho1; have HG1 := Lib.hid hg1; have HAT := Lib.hid hat1
  clear ho1 hg1 hat1
  have HB1 := Lib.hid (show Blk w1 b #[.slice (some ⟨g, 0, none⟩) l.length c] 51 from HBB.out.drew.upd (Upd.of_grown HG1.out) (fun e => HOO.out.ne HBB.out (by decide) e.symm))
  refine hK.out _ _ (HB1.out.cell 0) (fun hHeld => ?_)
  try simp only [List.setIfInBounds_toArray, List.set_cons_zero, List.set_cons_succ]
  refine reg_take (i := 16) (d := 41) (v := ?_) [17] rfl rfl (by kernel_rfl) (by kernel_rfl) (fun _ _ _ h => h) (Or.inl ⟨by rfl, ?_⟩) (by assumption) ?_
  rotate_left
  · (intro w hSw; (try dsimp only at hSw); go_simp; first | done | with_reducible rfl)
  try simp only [List.setIfInBounds_toArray, List.set_cons_zero, List.set_cons_succ]
  refine reg_take (i := 17) (d := 42) (v := ?_) [] rfl rfl (by kernel_rfl) (by kernel_rfl) (fun _ _ _ h => h) (Or.inl ⟨by rfl, ?_⟩) (by assumption) ?_
  rotate_left
  · (intro w hSw; (try dsimp only at hSw); go_simp; first | done | with_reducible rfl)
  try simp only [List.setIfInBounds_toArray, List.set_cons_zero, List.set_cons_succ]
  refine wpAnyL_ready (rs := [18]) (by kernel_rfl) rfl ?_
  refine (AllL.consJ rfl (by kernel_rfl) (fun K hK => ?_) AllL.nil)
  have y0 : w1.cell? ⟨b, 0, none⟩ = some (.slice (some ⟨g, 0, none⟩) l.length c) := HB1.out.cell 0
  have fz := HB1.out.frozen 0
  go_simp
  refine hK.out _ _ ?_
  try simp only [List.setIfInBounds_toArray, List.set_cons_zero, List.set_cons_succ]
  refine wpAnyL_done (by kernel_rfl) ?_ _
  have HS5 := Lib.hid (HT8.out.boxApp (l2 := takeL l k) ((Below.refl _ _).drew) (by unfold takeL; rw [Enc.app, Enc.take]; exact HO1.out) HG1.out HAT.out (by rw [takeL_len l k hkl]; omega))
  clear y0 fz hHeld HO1 HG1 HAT HB1 HT8 HX8 HBB HOO HOF HR2
  generalize w1.setCell ⟨b, 0, none⟩ (.slice A1 (k + (l.length - (k + 1))) c1) = W5 at *
  generalize Value.slice A1 (k + (l.length - (k + 1))) c1 = v5 at *
  have HX := Lib.hid (show Blk W5 (g4 + 1) #[.int .i64 x.frm, .int .i64 x.to, .string x.body] tL from HS5.out.h2)
  have HZ := Lib.hid (show Blk W5 g4 #[.int .i64 0, .int .i64 0, .string ByteArray.empty] tL from HS5.out.h3)
  have y0 := HX.out.cell 0; have y1 := HX.out.cell 1; have y2 := HX.out.cell 2
  have z0 := HZ.out.cell 0; have z1 := (HZ.out.set 0 (.int .i64 x.frm)).cell 1; have z2 := ((HZ.out.set 0 (.int .i64 x.frm)).set 1 (.int .i64 x.to)).cell 2
  have f0 := HZ.out.frozen 0; have f1 := (HZ.out.set 0 (.int .i64 x.frm)).frozen 1; have f2 := ((HZ.out.set 0 (.int .i64 x.frm)).set 1 (.int .i64 x.to)).frozen 2
  simp at y0 y1 y2 z0 z1 z2
  go_wp2
  have HQ := ((HZ.out.set 0 (.int .i64 x.frm)).set 1 (.int .i64 x.to)).set 2 (.string x.body)
  refine ret_cell_tmp (k := 4) (u := 5) (by kernel_rfl) rfl rfl HQ (by kernel_rfl) (by kernel_rfl) ⟨rfl, v5, ?_⟩
  exact (HS5.out.r3.opc (t' := tBlk g4 _ tL) (S := fun k => k = g4) HQ (Upd.setCell (S := fun k => k = g4) (p := ⟨g4, 2, none⟩) (Upd.setCell (S := fun k => k = g4) (p := ⟨g4, 1, none⟩) (Upd.setCell (S := fun k => k = g4) (p := ⟨g4, 0, none⟩) (Upd.refl _ W5) (.inr rfl) _) (.inr rfl) _) (.inr rfl) _) (fun _ _ h => h) (fun k hk => .inl hk)).tail.d2
theorem drop_none (h : Sep w W (tN b lv [] :: r)) (i : Int) :
    Calls Try.prog 17 #[.pointer (some ⟨b, 0, none⟩), .int .i64 i] W fun e W' => e = .returned (.bool false) ∧ Sep w W' (tN b lv [] :: r) := by
  have HT := Lib.hid h
  clear h
  go_enter Try.func17, Try.ntmps17
  go_wp2_with (go_at_call 13; refine (take_none HT.out i).mono ?_; rintro e w1 ⟨rfl, hs⟩; have HS := Lib.hid hs; clear hs)
  go_ret
  exact ⟨rfl, HS.out.alloc _⟩
theorem drop_some (h : Sep w W (tN b lv l :: r)) (i : Int) (k : Nat) (hk : atK i l.length = k) (hn : l ≠ []) (hn2 : l.length ≤ 300) :
    Calls Try.prog 17 #[.pointer (some ⟨b, 0, none⟩), .int .i64 i] W fun e W' => e = .returned (.bool true) ∧ ∃ lv', Sep w W' (tN b lv' (takeL l k) :: r) := by
  have h0 : 0 < l.length := List.length_pos_iff.2 hn
  have hkl : k < l.length := by rw [← hk]; exact atK_lt i h0
  have HT := Lib.hid h
  have HK := Lib.hid hk
  have HX := Lib.hid (List.getElem?_eq_getElem hkl)
  clear h hk hn
  generalize l[k] = x at *
  go_enter Try.func17, Try.ntmps17
  go_wp2_with (go_at_call 13; refine (take_some HT.out i k x HK.out HX.out hn2).mono ?_; rintro e w1 ⟨rfl, lv1, hs⟩; have HS := Lib.hid hs; clear hs)
  go_ret
  exact ⟨rfl, lv1, HS.out.alloc _⟩
theorem copy_none (h : Sep w W (tN b lv [] :: r)) (i : Int) :
    Calls Try.prog 15 #[.pointer (some ⟨b, 0, none⟩), .int .i64 i] W fun e W' => e = .returned (.bool false) ∧ Sep w W' (tN b lv [] :: r) := by
  obtain ⟨hb, A, c, rfl, _⟩ := h.box
  have HB := Lib.hid hb
  have HT := Lib.hid h
  clear h hb
  go_enter Try.func15, Try.ntmps15
  go_wp2_with (go_at_call 24; refine (at_none A c i _ HB.out).mono ?_; rintro e w' ⟨rfl, rfl⟩)
  go_ret
  exact ⟨rfl, HT.out⟩
theorem copy_some (h : Sep w W (tN b lv l :: r)) (i : Int) (k : Nat) (x : Letter) (hk : atK i l.length = k) (hx : l[k]? = some x) (hn2 : l.length ≤ 300) :
    Calls Try.prog 15 #[.pointer (some ⟨b, 0, none⟩), .int .i64 i] W fun e W' => e = .returned (.bool (sendE l x == 0)) ∧ ∃ lv', Sep w W' (tN b lv' (sendL l x) :: r) := by
  obtain ⟨hkl, hx0⟩ := List.getElem?_eq_some_iff.1 hx
  have hn : 0 < l.length := by omega
  obtain ⟨hb, A, c, rfl, hlc, hA, hR⟩ := h.box
  obtain ⟨gb, go, rfl, u0, u1, u2⟩ := hR.let3 k x hx
  have z0 : W.cell? ⟨b, 0, none⟩ = some (.slice (some ⟨gb, go, none⟩) l.length c) := hb.cell 0
  have HB := Lib.hid hb
  have HT := Lib.hid h
  have HK := Lib.hid hk
  have i0 : (0 : Int) ≤ (k : Int) := by omega
  have i1 : (k : Int) < (l.length : Int) := by omega
  clear h hb hx hx0 hR hA hk
  go_enter Try.func15, Try.ntmps15
  go_wp2_with (first
    | (go_at_call 24; with_reducible refine (at_some (some ⟨gb, go, none⟩) l.length c i _ HB.out hn hn2).mono ?_; rintro e w' ⟨rfl, rfl⟩; simp only [HK.out])
    | (go_at_call 11; with_reducible refine (send_sep HT.out x).mono ?_; rintro e w1 ⟨rfl, lv1, hs⟩; have HS := Lib.hid hs; clear hs))
  go_ret
  exact ⟨rfl, lv1, HS.out⟩
end
end Go.Proofs.Ytofljgnfbakhoaa
