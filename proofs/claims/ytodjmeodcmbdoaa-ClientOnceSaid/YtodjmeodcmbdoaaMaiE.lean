/- The walks of Encode, mail's and the document's. No condition. -/
import Derived.Test.YtodjmeodcmbdoaaMaiU
import Derived.Test.YtodjmeodcmbdoaaCodF
import Derived.Test.YtodjmeodcmbdoaaCodG
import Derived.Test.YtodjmeodcmbdoaaFill
set_option linter.unusedVariables false
set_option linter.unusedSimpArgs false
namespace Go.Proofs.Ytodjmeodcmbdoaa
open Go.RowKit
theorem infoM : (Try.prog.info? tMsg).map (·.size) = some 13 := by kernel_rfl
theorem Msg.size (m : Msg) : m.cs.size = 13 := rfl
theorem msgI {m : Msg} : (Try.prog.info? tMsg).map (·.size) = some m.cs.size := infoM
/-- A message's bytes and the error. -/
def mOut (m : Msg) : ByteArray := if mayM m = true then ⟨(encB m.rc).toArray⟩ else ByteArray.empty
def mEr (m : Msg) : Int := if mayM m = true then 0 else 4
abbrev MRun (f : Nat) (m : Msg) (w : World) : Prop := Calls Try.prog f #[.agg m.cs] w fun e w' => e = .returned (.tuple #[.string (mOut m), .int .i64 (mEr m)]) ∧ Below w.heap.size w w'
def pNums (m : Msg) : List Value := [.int .i64 m.p0, .int .i64 m.p1, .int .i64 m.p2, .int .i64 m.p3]
def aNums (m : Msg) : Array Value := #[.int .i64 m.a, .int .i64 m.b, .int .i64 m.c, .int .i64 m.d, .int .i64 m.e, .int .i64 m.er]
theorem Blk.pn {w : World} {g : Nat} {m : Msg} (h : Blk w g m.cs tMsg) : Rd w (some ⟨g, 7, none⟩) (pNums m) := (h.rd.dropAt 7).take 4
set_option maxRecDepth 100000 in
set_option maxHeartbeats 2000000 in
theorem mencode_any (m : Msg) (w : World) : MRun 31 m w := by
  obtain ⟨g, hg⟩ : ∃ g, w.heap.size = g := ⟨_, rfl⟩
  have HS := Lib.hid ((Sep.nil w).newBlk m.cs tMsg hg)
  have HG := Lib.hid hg
  clear hg
  go_enter Try.func31, Try.ntmps31
  go_upto_region 1 with fail
  rw [HG.out]
  generalize w.alloc (.cells m.cs tMsg) = w1 at *
  cases hm : mayM m
  · have HM := Lib.hid hm
    clear hm
    refine wp_region_lit (l := [_, _, _]) ?_
    refine wpList_load_row rfl tMsg (.tmp 1) rfl g rfl tMsg m.cs (0, 0) _ (show Blk w1 g m.cs tMsg from HS.out.hd) Try.underlying35 rfl msgI ?_
    go_wp2_with (go_at_call 36; with_reducible refine (mmay_any m _).mono ?_; rw [HM.out]; rintro e1 w2 ⟨rfl, hB⟩; have HS2 := Lib.hid (HS.out.step hB); clear hB)
    go_ret2
    unfold mOut mEr
    rw [HM.out]
    exact ⟨rfl, HS2.out.bel⟩
  · have HM := Lib.hid hm
    have HMR := Lib.hid (may_rec hm)
    clear hm
    refine wp_region_lit (l := [_, _, _]) ?_
    refine wpList_load_row rfl tMsg (.tmp 1) rfl g rfl tMsg m.cs (0, 0) _ (show Blk w1 g m.cs tMsg from HS.out.hd) Try.underlying35 rfl msgI ?_
    go_upto_region 3 with (go_at_call 36; with_reducible refine (mmay_any m _).mono ?_; rw [HM.out]; rintro e1 w2 ⟨rfl, hB⟩; have HS2 := Lib.hid (HS.out.step hB); clear hB)
    clear HS
    obtain ⟨k, a, b, c, d, e, er, p0, p1, p2, p3, s, t⟩ := m
    unfold Msg.cs at HS2
    simp only at HS2
    have HC : Hid (∀ w', Blk w' g #[.int .i64 k, .int .i64 a, .int .i64 b, .int .i64 c, .int .i64 d, .int .i64 e, .int .i64 er, .int .i64 p0, .int .i64 p1, .int .i64 p2, .int .i64 p3, .string s, .string t] tMsg → w'.cell? ⟨g, 1, none⟩ = some (.int .i64 a) ∧ w'.cell? ⟨g, 2, none⟩ = some (.int .i64 b) ∧ w'.cell? ⟨g, 3, none⟩ = some (.int .i64 c) ∧ w'.cell? ⟨g, 4, none⟩ = some (.int .i64 d) ∧ w'.cell? ⟨g, 5, none⟩ = some (.int .i64 e) ∧ w'.cell? ⟨g, 6, none⟩ = some (.int .i64 er)) := Lib.hid (fun w' h => ⟨h.cell 1, h.cell 2, h.cell 3, h.cell 4, h.cell 5, h.cell 6⟩)
    have HQ := Lib.hid HS2.out.drew
    refine wp_region_L (fun w' => w'.cell? ⟨g, 1, none⟩ = some (.int .i64 a) ∧ w'.cell? ⟨g, 2, none⟩ = some (.int .i64 b) ∧ w'.cell? ⟨g, 3, none⟩ = some (.int .i64 c) ∧ w'.cell? ⟨g, 4, none⟩ = some (.int .i64 d) ∧ w'.cell? ⟨g, 5, none⟩ = some (.int .i64 e) ∧ w'.cell? ⟨g, 6, none⟩ = some (.int .i64 er)) 17 (by kernel_rfl) (HC.out _ HQ.out.hd) (fun hHeld => ?_)
    refine reg_take (i := 0) (d := 10) (v := ?_) [] rfl rfl (by kernel_rfl) (by kernel_rfl) (fun _ _ _ h => h) (Or.inl ⟨by rfl, ?_⟩) (by assumption) ?_
    rotate_left
    · (intro w hSw; (try dsimp only at hSw); go_simp; first | done | with_reducible rfl)
    try simp only [List.setIfInBounds_toArray, List.set_cons_zero, List.set_cons_succ]
    refine reg_take (i := 1) (d := 11) (v := ?_) [] rfl rfl (by kernel_rfl) (by kernel_rfl) (fun _ _ _ h => h) (Or.inl ⟨by rfl, ?_⟩) (by assumption) ?_
    rotate_left
    · (intro w hSw; (try dsimp only at hSw); go_simp; first | done | with_reducible rfl)
    try simp only [List.setIfInBounds_toArray, List.set_cons_zero, List.set_cons_succ]
    refine reg_take (i := 2) (d := 12) (v := ?_) [] rfl rfl (by kernel_rfl) (by kernel_rfl) (fun _ _ _ h => h) (Or.inl ⟨by rfl, ?_⟩) (by assumption) ?_
    rotate_left
    · (intro w hSw; (try dsimp only at hSw); go_simp; first | done | with_reducible rfl)
    try simp only [List.setIfInBounds_toArray, List.set_cons_zero, List.set_cons_succ]
    refine reg_take (i := 3) (d := 13) (v := ?_) [] rfl rfl (by kernel_rfl) (by kernel_rfl) (fun _ _ _ h => h) (Or.inl ⟨by rfl, ?_⟩) (by assumption) ?_
    rotate_left
    · (intro w hSw; (try dsimp only at hSw); go_simp; first | done | with_reducible rfl)
    try simp only [List.setIfInBounds_toArray, List.set_cons_zero, List.set_cons_succ]
    refine reg_take (i := 4) (d := 14) (v := ?_) [] rfl rfl (by kernel_rfl) (by kernel_rfl) (fun _ _ _ h => h) (Or.inl ⟨by rfl, ?_⟩) (by assumption) ?_
    rotate_left
    · (intro w hSw; (try dsimp only at hSw); go_simp; first | done | with_reducible rfl)
    try simp only [List.setIfInBounds_toArray, List.set_cons_zero, List.set_cons_succ]
    refine reg_take (i := 5) (d := 15) (v := ?_) [] rfl rfl (by kernel_rfl) (by kernel_rfl) (fun _ _ _ h => h) (Or.inl ⟨by rfl, ?_⟩) (by assumption) ?_
    rotate_left
    · (intro w hSw; (try dsimp only at hSw); go_simp; first | done | with_reducible rfl)
    try simp only [List.setIfInBounds_toArray, List.set_cons_zero, List.set_cons_succ]
    refine reg_take (i := 6) (d := 16) (v := ?_) [] rfl rfl (by kernel_rfl) (by kernel_rfl) (fun _ _ _ h => h) (Or.inl ⟨by rfl, ?_⟩) (by assumption) ?_
    rotate_left
    · (intro w hSw; (try dsimp only at hSw); go_simp; first | done | with_reducible rfl)
    try simp only [List.setIfInBounds_toArray, List.set_cons_zero, List.set_cons_succ]
    refine reg_take (i := 7) (d := 17) (v := ?_) [] rfl rfl (by kernel_rfl) (by kernel_rfl) (fun _ _ _ h => h) (Or.inl ⟨by rfl, ?_⟩) (by assumption) ?_
    rotate_left
    · (intro w hSw; (try dsimp only at hSw); go_simp; first | done | with_reducible rfl)
    try simp only [List.setIfInBounds_toArray, List.set_cons_zero, List.set_cons_succ]
    refine reg_take (i := 8) (d := 18) (v := ?_) [] rfl rfl (by kernel_rfl) (by kernel_rfl) (fun _ _ _ h => h) (Or.inl ⟨by rfl, ?_⟩) (by assumption) ?_
    rotate_left
    · (intro w hSw; (try dsimp only at hSw); go_simp; first | done | with_reducible rfl)
    try simp only [List.setIfInBounds_toArray, List.set_cons_zero, List.set_cons_succ]
    refine reg_take (i := 9) (d := 19) (v := ?_) [] rfl rfl (by kernel_rfl) (by kernel_rfl) (fun _ _ _ h => h) (Or.inl ⟨by rfl, ?_⟩) (by assumption) ?_
    rotate_left
    · (intro w hSw; (try dsimp only at hSw); go_simp; first | done | with_reducible rfl)
    try simp only [List.setIfInBounds_toArray, List.set_cons_zero, List.set_cons_succ]
    refine reg_take (i := 10) (d := 20) (v := ?_) [] rfl rfl (by kernel_rfl) (by kernel_rfl) (fun _ _ _ h => h) (Or.inl ⟨by rfl, ?_⟩) (by assumption) ?_
    rotate_left
    · (intro w hSw; (try dsimp only at hSw); go_simp; first | done | with_reducible rfl)
    try simp only [List.setIfInBounds_toArray, List.set_cons_zero, List.set_cons_succ]
    refine reg_take (i := 11) (d := 21) (v := ?_) [] rfl rfl (by kernel_rfl) (by kernel_rfl) (fun _ _ _ h => h) (Or.inl ⟨by rfl, ?_⟩) (by assumption) ?_
    rotate_left
    · (intro w hSw; (try dsimp only at hSw); go_simp; first | done | with_reducible rfl)
    try simp only [List.setIfInBounds_toArray, List.set_cons_zero, List.set_cons_succ]
    refine reg_take (i := 13) (d := 23) (v := ?_) [] rfl rfl (by kernel_rfl) (by kernel_rfl) (fun _ _ _ h => h) (Or.inl ⟨by rfl, ?_⟩) (by assumption) ?_
    rotate_left
    · (intro w hSw; (try dsimp only at hSw); go_simp; first | done | with_reducible rfl)
    try simp only [List.setIfInBounds_toArray, List.set_cons_zero, List.set_cons_succ]
    refine reg_take (i := 14) (d := 24) (v := ?_) [] rfl rfl (by kernel_rfl) (by kernel_rfl) (fun _ _ _ h => h) (Or.inl ⟨by rfl, ?_⟩) (by assumption) ?_
    rotate_left
    · (intro w hSw; (try dsimp only at hSw); go_simp; first | done | with_reducible rfl)
    try simp only [List.setIfInBounds_toArray, List.set_cons_zero, List.set_cons_succ]
    refine wpAnyL_ready (rs := [12]) (by kernel_rfl) rfl ?_
    refine (AllL.cons rfl (fun K hK => ?_) AllL.nil)
    go_simp
    have HQ := Lib.hid (HQ.out.newOwn #[.int .i64 a, .int .i64 b, .int .i64 c, .int .i64 d, .int .i64 e, .int .i64 er] tI 6 (g := w2.heap.size) (by simp) rfl (by decide))
    refine hK.out _ _ (HC.out _ HQ.out.h2) (fun hHeld => ?_)
    try simp only [List.setIfInBounds_toArray, List.set_cons_zero, List.set_cons_succ]
    refine wpAnyL_ready (rs := [15]) (by kernel_rfl) rfl ?_
    refine (AllL.cons rfl (fun K hK => ?_) AllL.nil)
    refine stepA 70 tI (.int .i64 0) 1 8 [.int .i64 p0, .int .i64 p1, .int .i64 p2, .int .i64 p3] 4 HQ.out.own (by decide) Try.underlying70 Try.infoI rfl (by decide) (by decide) rfl (by intro u hu; simp only [List.mem_cons, List.not_mem_nil, or_false] at hu; rcases hu with rfl | rfl | rfl | rfl <;> rfl) (some ⟨g, 7, none⟩) 4 (Blk.pn (m := ⟨k, a, b, c, d, e, er, p0, p1, p2, p3, s, t⟩) HQ.out.h2) (fun e => nomatch e) (.tmp 22) (.tmp 24) rfl rfl rfl rfl ?_
    intro v6 w6 ho hg hat
    obtain ⟨A6, c6, rfl, _⟩ := ho.form
    have HQ := Lib.hid (HQ.out.app ho hg hat)
    clear ho hg hat
    refine hK.out _ _ (HC.out _ HQ.out.h2) (fun hHeld => ?_)
    try simp only [List.setIfInBounds_toArray, List.set_cons_zero, List.set_cons_succ]
    refine reg_take (i := 16) (d := 4) (v := ?_) [] rfl rfl (by kernel_rfl) (by kernel_rfl) (fun _ _ _ h => h) (Or.inl ⟨by rfl, ?_⟩) (by assumption) ?_
    rotate_left
    · (intro w hSw; (try dsimp only at hSw); go_simp; first | done | with_reducible rfl)
    try simp only [List.setIfInBounds_toArray, List.set_cons_zero, List.set_cons_succ]
    refine wpAnyL_done (by kernel_rfl) ?_ _
    have hz := (show Blk w6 g _ tMsg from HQ.out.h2)
    have z0 := hz.cell 0; have z11 := hz.cell 11; have z12 := hz.cell 12
    simp at z0 z11 z12
    have HT := Lib.hid ((HQ.out.newBlk #[.string s, .string t] tS (g := w6.heap.size) rfl).sw)
    clear hz HQ HS2
    obtain ⟨h, hh⟩ : ∃ h, w6.heap.size = h := ⟨_, rfl⟩
    rw [hh] at HT
    have HH := Lib.hid hh
    clear hh
    go_wp2_with fail
    simp only [HH.out]
    refine (encode_yes k [a, b, c, d, e, er, p0, p1, p2, p3] [s, t] A6 (some ⟨h, 0, none⟩) 10 2 c6 2 _ ⟨rfl, rfl, Own.rd HT.out.hd, (show Blk _ h #[.string s, .string t] tS from HT.out.h2).rd, by decide, by decide⟩ HMR.out.1 HMR.out.2).mono ?_
    rintro e1 w7 ⟨v7, rfl, hr⟩
    obtain ⟨A7, c7, rfl, _⟩ := hr.form
    have hcv := conv_str w7 A7 c7 _ (Own.rd hr.1) _ rfl
    have HB := Lib.hid (HT.out.step hr.2.1).bel
    obtain ⟨x, hx⟩ : ∃ x : ByteArray, ⟨(encB ⟨k, [a, b, c, d, e, er, p0, p1, p2, p3], [s, t]⟩).toArray⟩ = x := ⟨_, rfl⟩
    rw [hx] at hcv
    have HX := Lib.hid hx
    clear hr hx
    generalize (encB ⟨k, [a, b, c, d, e, er, p0, p1, p2, p3], [s, t]⟩).length = q at *
    go_wp2_with fail
    go_ret2
    unfold mOut mEr
    rw [HM.out, if_pos rfl, if_pos rfl]
    exact ⟨by rw [← HX.out]; rfl, HB.out⟩
set_option maxRecDepth 100000 in
set_option maxHeartbeats 2000000 in
theorem rmencode_any (m : Msg) (w : World) : MRun 25 m w := by
  obtain ⟨g, hg⟩ : ∃ g, w.heap.size = g := ⟨_, rfl⟩
  have HS := Lib.hid ((Sep.nil w).newBlk m.cs tMsg hg)
  have HG := Lib.hid hg
  clear hg
  go_enter Try.func25, Try.ntmps25
  go_upto_region 1 with fail
  rw [HG.out]
  generalize w.alloc (.cells m.cs tMsg) = w1 at *
  cases hm : mayM m
  · have HM := Lib.hid hm
    clear hm
    refine wp_region_lit (l := [_, _, _]) ?_
    refine wpList_load_row rfl tMsg (.tmp 1) rfl g rfl tMsg m.cs (0, 0) _ (show Blk w1 g m.cs tMsg from HS.out.hd) Try.underlying35 rfl msgI ?_
    go_wp2_with (go_at_call 26; with_reducible refine (rmmay_any m _).mono ?_; rw [HM.out]; rintro e1 w2 ⟨rfl, hB⟩; have HS2 := Lib.hid (HS.out.step hB); clear hB)
    go_ret2
    unfold mOut mEr
    rw [HM.out]
    exact ⟨rfl, HS2.out.bel⟩
  · have HM := Lib.hid hm
    have HMR := Lib.hid (may_rec hm)
    clear hm
    refine wp_region_lit (l := [_, _, _]) ?_
    refine wpList_load_row rfl tMsg (.tmp 1) rfl g rfl tMsg m.cs (0, 0) _ (show Blk w1 g m.cs tMsg from HS.out.hd) Try.underlying35 rfl msgI ?_
    go_upto_region 3 with (go_at_call 26; with_reducible refine (rmmay_any m _).mono ?_; rw [HM.out]; rintro e1 w2 ⟨rfl, hB⟩; have HS2 := Lib.hid (HS.out.step hB); clear hB)
    clear HS
    obtain ⟨k, a, b, c, d, e, er, p0, p1, p2, p3, s, t⟩ := m
    unfold Msg.cs at HS2
    simp only at HS2
    have hb := (show Blk w2 g _ tMsg from HS2.out.hd)
    have y1 := hb.cell 1; have y2 := hb.cell 2; have y3 := hb.cell 3; have y4 := hb.cell 4; have y5 := hb.cell 5; have y6 := hb.cell 6; have y7 := hb.cell 7; have y8 := hb.cell 8; have y9 := hb.cell 9; have y10 := hb.cell 10
    simp at y1 y2 y3 y4 y5 y6 y7 y8 y9 y10
    have HT := Lib.hid (HS2.out.newBlk #[.int .i64 a, .int .i64 b, .int .i64 c, .int .i64 d, .int .i64 e, .int .i64 er, .int .i64 p0, .int .i64 p1, .int .i64 p2, .int .i64 p3] tI (g := w2.heap.size) rfl)
    obtain ⟨f, hf⟩ : ∃ h, w2.heap.size = h := ⟨_, rfl⟩
    rw [hf] at HT
    have HF := Lib.hid hf
    clear hf hb HS2
    go_upto_region 4 with fail
    simp only [HF.out]
    generalize w2.alloc (.cells #[.int .i64 a, .int .i64 b, .int .i64 c, .int .i64 d, .int .i64 e, .int .i64 er, .int .i64 p0, .int .i64 p1, .int .i64 p2, .int .i64 p3] tI) = w6 at *
    clear y1 y2 y3 y4 y5 y6 y7 y8 y9 y10
    have hz := (show Blk w6 g _ tMsg from HT.out.h2)
    have z0 := hz.cell 0; have z11 := hz.cell 11; have z12 := hz.cell 12
    simp at z0 z11 z12
    have HT := Lib.hid ((HT.out.newBlk #[.string s, .string t] tS (g := w6.heap.size) rfl).sw)
    clear hz
    obtain ⟨h, hh⟩ : ∃ h, w6.heap.size = h := ⟨_, rfl⟩
    rw [hh] at HT
    have HH := Lib.hid hh
    clear hh
    go_wp2_with fail
    simp only [HH.out]
    refine (rencode_yes k [a, b, c, d, e, er, p0, p1, p2, p3] [s, t] (some ⟨f, 0, none⟩) (some ⟨h, 0, none⟩) 10 2 10 2 _ ⟨rfl, rfl, (show Blk _ f _ tI from HT.out.hd).rd, (show Blk _ h #[.string s, .string t] tS from HT.out.h2).rd, by decide, by decide⟩ HMR.out.1 HMR.out.2).mono ?_
    rintro e1 w7 ⟨v7, rfl, hr⟩
    obtain ⟨A7, c7, rfl, _⟩ := hr.form
    have hcv := conv_str w7 A7 c7 _ (Own.rd hr.1) _ rfl
    have HB := Lib.hid (HT.out.step hr.2.1).bel
    obtain ⟨x, hx⟩ : ∃ x : ByteArray, ⟨(encB ⟨k, [a, b, c, d, e, er, p0, p1, p2, p3], [s, t]⟩).toArray⟩ = x := ⟨_, rfl⟩
    rw [hx] at hcv
    have HX := Lib.hid hx
    clear hr hx
    generalize (encB ⟨k, [a, b, c, d, e, er, p0, p1, p2, p3], [s, t]⟩).length = q at *
    go_wp2_with fail
    go_ret2
    unfold mOut mEr
    rw [HM.out, if_pos rfl, if_pos rfl]
    exact ⟨by rw [← HX.out]; rfl, HB.out⟩
end Go.Proofs.Ytodjmeodcmbdoaa
