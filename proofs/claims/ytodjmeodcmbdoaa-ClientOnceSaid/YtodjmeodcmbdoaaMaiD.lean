/- The walks of Decode, mail's and the document's. Condition: up to 65536 bytes. -/
import Derived.Test.YtodjmeodcmbdoaaMaiE
import Derived.Test.YtodjmeodcmbdoaaCodP
import Derived.Test.YtodjmeodcmbdoaaFill
set_option linter.unusedVariables false
set_option linter.unusedSimpArgs false
namespace Go.Proofs.Ytodjmeodcmbdoaa
open Go.RowKit
def zM : Msg := ⟨0, 0, 0, 0, 0, 0, 0, 0, 0, 0, 0, { data := #[] }, { data := #[] }⟩
def dMsg (s : ByteArray) : Msg := (decM s.data.toList).getD zM
def dEr (s : ByteArray) : Int := if (decM s.data.toList).isSome = true then 0 else 4
abbrev DRun (f : Nat) (s : ByteArray) (w : World) : Prop := Calls Try.prog f #[.string s] w fun e w' => e = .returned (.tuple #[.agg (dMsg s).cs, .int .i64 (dEr s)]) ∧ Below w.heap.size w w'
theorem d_none {s : ByteArray} {l : List UInt8} (hl : s.data.toList = l) (h : decM l = none) : dMsg s = zM ∧ dEr s = 4 := by
  unfold dMsg dEr; rw [hl, h]; exact ⟨rfl, rfl⟩
theorem d_some {s : ByteArray} {l : List UInt8} {m : Msg} (hl : s.data.toList = l) (h : decM l = some m) : dMsg s = m ∧ dEr s = 0 := by
  unfold dMsg dEr; rw [hl, h]; exact ⟨rfl, rfl⟩
theorem decM_none {l : List UInt8} (h : decB l = none) : decM l = none := by unfold decM; rw [h]
theorem decM_len {l : List UInt8} {k : Int} {ns : List Int} {ts : List ByteArray} (h : decB l = some ⟨k, ns, ts⟩) (hn : ns.length ≠ 10 ∨ ts.length ≠ 2) : decM l = none := by
  unfold decM
  rw [h]
  cases ho : ofRec ⟨k, ns, ts⟩ with
  | none => simp only [ho]
  | some m =>
    have := ofRec_some ho
    simp only [Msg.rc, Rec.mk.injEq] at this
    obtain ⟨_, rfl, rfl⟩ := this
    simp at hn
theorem decM_if {l : List UInt8} {m : Msg} (h : decB l = some m.rc) : decM l = if mayM m = true then some m else none := by
  unfold decM
  rw [h]
  simp only [ofRec_rec]
theorem len10 {ns : List Int} (h : ns.length = 10) : ∃ a b c d e f p q r s, ns = [a, b, c, d, e, f, p, q, r, s] := by
  match ns, h with
  | [a, b, c, d, e, f, p, q, r, s], _ => exact ⟨a, b, c, d, e, f, p, q, r, s, rfl⟩
theorem len2 {ts : List ByteArray} (h : ts.length = 2) : ∃ s t, ts = [s, t] := by
  match ts, h with
  | [s, t], _ => exact ⟨s, t, rfl⟩
theorem built0 : Try.prog.built tMsg [] = some zM.cs := by kernel_rfl
theorem msg1 (m : Msg) : m.cs.all (·.oneCell') = true := by simp [Msg.cs, Value.oneCell']
theorem conv_bytes (s : ByteArray) (w : World) (hs : s.size ≤ 65536) {l : List UInt8} (hl : s.data.toList = l) :
    ∃ c w', (convert 9 75 (.string s)).run Try.prog w = .ok (.slice (some ⟨w.heap.size, 0, none⟩) s.size c) w' ∧ Below w.heap.size w w' ∧ s.size ≤ c ∧ c ≤ 9223372036854775807 ∧ Rd w' (some ⟨w.heap.size, 0, none⟩) (eB.fl l) ∧ l.length = s.size := by
  obtain ⟨c, w', h1, h2, h3, h4, h5, _⟩ := bytesW (P := Try.prog) 9 75 5 Try.underlying9 Try.underlying75 Try.underlying5 rfl s w (by simp only [maxLen]; omega)
  refine ⟨c, w', h1, h2, h3, by simpa [maxLen] using h4, ?_, by rw [← hl]; simp⟩
  rw [hl] at h5
  have e : eB.fl l = l.map fun b => Value.int .u8 (b.toNat : Int) := by
    clear h5 hl
    induction l with
    | nil => rfl
    | cons x l ih => rw [Enc.cons, ih]; rfl
  rw [e]; exact h5
set_option maxRecDepth 100000 in
set_option maxHeartbeats 4000000 in
theorem mdecode_any (s : ByteArray) (w : World) (hs : s.size ≤ 65536) : DRun 23 s w := by
  obtain ⟨g, hg⟩ : ∃ g, w.heap.size = g := ⟨_, rfl⟩
  have HS0 := Lib.hid ((Sep.nil w).newBlk zM.cs tMsg hg)
  have HG := Lib.hid hg
  obtain ⟨l, hl⟩ : ∃ l, s.data.toList = l := ⟨_, rfl⟩
  have HL := Lib.hid hl
  clear hg hl
  unfold zM Msg.cs at HS0
  simp only at HS0
  go_enter Try.func23, Try.ntmps23
  go_upto_region 1 with fail
  rw [HG.out]
  generalize w.alloc (.cells #[.int .i64 0, .int .i64 0, .int .i64 0, .int .i64 0, .int .i64 0, .int .i64 0, .int .i64 0, .int .i64 0, .int .i64 0, .int .i64 0, .int .i64 0, .string { data := #[] }, .string { data := #[] }] tMsg) = w1 at *
  obtain ⟨c, w2, hcv, hB2, hc1, hc2, hR, hlen⟩ := conv_bytes s w1 hs HL.out
  have HS := Lib.hid (HS0.out.step hB2)
  have HE := Lib.hid (decode_any (some ⟨w1.heap.size, 0, none⟩) l s.size c w2 hlen hR hc1 (fun e => nomatch e) hc2)
  clear HS0 hB2 hc1 hc2 hR hlen hs
  generalize w1.heap.size = q0 at *
  rcases hd : decB l with _ | ⟨k, ns, ts⟩
  · rw [hd] at HE
    have HP := Lib.hid (d_none HL.out (decM_none hd))
    clear hd
    go_upto_region 3 with (go_at_call 35; refine HE.out.mono ?_; rintro e1 w3 ⟨rfl, hB3⟩; have HS3 := Lib.hid ((HS.out.step hB3).alloc (.cells zRec tRec)); clear hB3 HE)
    generalize w3.alloc (.cells #[.int .i64 0, .slice none 0 0, .slice none 0 0] tRec) = w4 at *
    refine wp_region_lit (l := [_, _, _]) ?_
    refine buildR zM.cs #[] rfl rfl (by kernel_rfl) ?_
    refine storeR zM.cs (show Blk _ g zM.cs tMsg from HS3.out.hd) rfl infoM (msg1 zM) rfl (.tmp 2) (.tmp 28) rfl rfl rfl ?_
    intro w9 hb9 hu9
    have HB9 := Lib.hid hb9
    have HU9 := Lib.hid (HS3.out.bel.trans (hu9.below HS3.out.size (fun k hk => by rw [hk]; exact Nat.le_of_eq HG.out)))
    clear hb9 hu9
    go_wp2_with fail
    refine ret_cell_tmp (k := 2) (u := 3) (by kernel_rfl) rfl rfl HB9.out (by kernel_rfl) infoM ?_
    exact ⟨by rw [HP.out.1, HP.out.2]; rfl, HU9.out⟩
  rw [hd] at HE
  obtain ⟨n, hn⟩ : ∃ n, ns.length = n := ⟨_, rfl⟩
  obtain ⟨t, ht⟩ : ∃ n, ts.length = n := ⟨_, rfl⟩
  by_cases c1 : n = 10
  rotate_left
  · have f1 : ¬ ((n : Int) = 10) := by omega
    have f2 : decide ((n : Int) = 10) = false := decide_eq_false f1
    have f3 : decide ((n : Int) ≠ 10) = true := decide_eq_true f1
    have HP := Lib.hid (d_none HL.out (decM_len hd (.inl (by rw [hn]; exact c1))))
    have HN := Lib.hid (And.intro hn ht)
    clear hd hn ht c1
    go_upto_region 2 with (go_at_call 35; refine HE.out.mono ?_; rintro e1 w3 ⟨An, At, cn, ct, rfl, hs3⟩; simp only [HN.out.1, HN.out.2] at hs3 ⊢; have HS3 := Lib.hid ((HS.out.join hs3).newBlk #[.int .i64 k, .slice An n cn, .slice At t ct] tRec (g := w3.heap.size) rfl); clear hs3 HE)
    generalize w3.alloc (.cells #[.int .i64 k, .slice An n cn, .slice At t ct] tRec) = w4 at *
    generalize w3.heap.size = f at *
    have hz := (show Blk w4 f _ tRec from HS3.out.hd)
    have z1 := hz.cell 1; have z2 := hz.cell 2
    simp at z1 z2
    clear hz
    go_upto_region 3 with fail
    refine wp_region_lit (l := [_, _, _]) ?_
    refine buildR zM.cs #[] rfl rfl (by kernel_rfl) ?_
    refine storeR zM.cs (show Blk _ g zM.cs tMsg from HS3.out.h4) rfl infoM (msg1 zM) rfl (.tmp 2) (.tmp 28) rfl rfl rfl ?_
    intro w9 hb9 hu9
    have HB9 := Lib.hid hb9
    have HU9 := Lib.hid (HS3.out.bel.trans (hu9.below HS3.out.size (fun k hk => by rw [hk]; exact Nat.le_of_eq HG.out)))
    clear hb9 hu9
    go_wp2_with fail
    refine ret_cell_tmp (k := 2) (u := 3) (by kernel_rfl) rfl rfl HB9.out (by kernel_rfl) infoM ?_
    exact ⟨by rw [HP.out.1, HP.out.2]; rfl, HU9.out⟩
  subst c1
  by_cases c1 : t = 2
  rotate_left
  · have f1 : ¬ ((t : Int) = 2) := by omega
    have f2 : decide ((t : Int) = 2) = false := decide_eq_false f1
    have f3 : decide ((t : Int) ≠ 2) = true := decide_eq_true f1
    have HP := Lib.hid (d_none HL.out (decM_len hd (.inr (by rw [ht]; exact c1))))
    have HN := Lib.hid (And.intro hn ht)
    clear hd hn ht c1
    go_upto_region 2 with (go_at_call 35; refine HE.out.mono ?_; rintro e1 w3 ⟨An, At, cn, ct, rfl, hs3⟩; simp only [HN.out.1, HN.out.2] at hs3 ⊢; have HS3 := Lib.hid ((HS.out.join hs3).newBlk #[.int .i64 k, .slice An 10 cn, .slice At t ct] tRec (g := w3.heap.size) rfl); clear hs3 HE)
    generalize w3.alloc (.cells #[.int .i64 k, .slice An 10 cn, .slice At t ct] tRec) = w4 at *
    generalize w3.heap.size = f at *
    have hz := (show Blk w4 f _ tRec from HS3.out.hd)
    have z1 := hz.cell 1; have z2 := hz.cell 2
    simp at z1 z2
    clear hz
    go_upto_region 3 with fail
    refine wp_region_lit (l := [_, _, _]) ?_
    refine buildR zM.cs #[] rfl rfl (by kernel_rfl) ?_
    refine storeR zM.cs (show Blk _ g zM.cs tMsg from HS3.out.h4) rfl infoM (msg1 zM) rfl (.tmp 2) (.tmp 28) rfl rfl rfl ?_
    intro w9 hb9 hu9
    have HB9 := Lib.hid hb9
    have HU9 := Lib.hid (HS3.out.bel.trans (hu9.below HS3.out.size (fun k hk => by rw [hk]; exact Nat.le_of_eq HG.out)))
    clear hb9 hu9
    go_wp2_with fail
    refine ret_cell_tmp (k := 2) (u := 3) (by kernel_rfl) rfl rfl HB9.out (by kernel_rfl) infoM ?_
    exact ⟨by rw [HP.out.1, HP.out.2]; rfl, HU9.out⟩
  subst c1
  obtain ⟨a, b, c0, d, e, er, p0, p1, p2, p3, rfl⟩ := len10 hn
  obtain ⟨x, y, rfl⟩ := len2 ht
  have HD := Lib.hid hd
  have HN := Lib.hid (And.intro hn ht)
  clear hd hn ht
  go_upto_region 2 with (go_at_call 35; refine HE.out.mono ?_; rintro e1 w3 ⟨An, At, cn, ct, rfl, hs3⟩; simp only [HN.out.1, HN.out.2] at hs3 ⊢; have HS3 := Lib.hid ((HS.out.join hs3).newBlk #[.int .i64 k, .slice An 10 cn, .slice At 2 ct] tRec (g := w3.heap.size) rfl); clear hs3 HE)
  generalize w3.alloc (.cells #[.int .i64 k, .slice An 10 cn, .slice At 2 ct] tRec) = w4 at *
  generalize w3.heap.size = f at *
  have HS := HS3
  clear HS3
  -- ten numbers and two texts
  have HR := Lib.hid (decM_if (m := ⟨k, a, b, c0, d, e, er, p0, p1, p2, p3, x, y⟩) HD.out)
  obtain ⟨gn, cn', hgn⟩ := (show Own w4 tI 1 (.slice An 10 cn) 10 _ from HS.out.h2).pos (by decide)
  obtain ⟨gt, ct', hgt⟩ := (show Own w4 tS 1 (.slice At 2 ct) 2 _ from HS.out.h3).pos (by decide)
  cases hgn; cases hgt
  have HC : Hid (∀ w', Below w4.heap.size w4 w' → w'.cell? ⟨f, 0, none⟩ = some (.int .i64 k) ∧ w'.cell? ⟨f, 1, none⟩ = some (.slice (some ⟨gn, 0, none⟩) 10 cn) ∧ w'.cell? ⟨f, 2, none⟩ = some (.slice (some ⟨gt, 0, none⟩) 2 ct) ∧ w'.cell? ⟨gn, 0, none⟩ = some (.int .i64 a) ∧ w'.cell? ⟨gn, 1, none⟩ = some (.int .i64 b) ∧ w'.cell? ⟨gn, 2, none⟩ = some (.int .i64 c0) ∧ w'.cell? ⟨gn, 3, none⟩ = some (.int .i64 d) ∧ w'.cell? ⟨gn, 4, none⟩ = some (.int .i64 e) ∧ w'.cell? ⟨gn, 5, none⟩ = some (.int .i64 er) ∧ w'.cell? ⟨gt, 0, none⟩ = some (.string x) ∧ w'.cell? ⟨gt, 1, none⟩ = some (.string y)) := Lib.hid (fun w' h => by
    have h1 := (show Blk w4 f _ tRec from HS.out.hd)
    have h2 := (show Own w4 tI 1 (.slice (some ⟨gn, 0, none⟩) 10 cn) 10 _ from HS.out.h2)
    have h3 := (show Own w4 tS 1 (.slice (some ⟨gt, 0, none⟩) 2 ct) 2 _ from HS.out.h3)
    have h1 := h1.bel h; have h2 := h2.below h; have h3 := h3.below h
    refine ⟨h1.cell 0, h1.cell 1, h1.cell 2, ?_⟩
    exact ⟨h2.cell 0 _ rfl, h2.cell 1 _ rfl, h2.cell 2 _ rfl, h2.cell 3 _ rfl, h2.cell 4 _ rfl, h2.cell 5 _ rfl, h3.cell 0 _ rfl, h3.cell 1 _ rfl⟩)
  have hz := (show Blk w4 f _ tRec from HS.out.hd)
  have z0 := hz.cell 0; have z1 := hz.cell 1; have z2 := hz.cell 2
  simp at z0 z1 z2
  clear hz HD
  have hbm : ∀ (a0 a1 a2 a3 a4 a5 a6 : Int) (s0 s1 : ByteArray) (w : World), (Instr.build tMsg #[(0, .int .i64 a0), (1, .int .i64 a1), (2, .int .i64 a2), (3, .int .i64 a3), (4, .int .i64 a4), (5, .int .i64 a5), (6, .int .i64 a6), (8, .string s0), (9, .string s1)]).run Try.prog w = .ok (.agg #[.int .i64 a0, .int .i64 a1, .int .i64 a2, .int .i64 a3, .int .i64 a4, .int .i64 a5, .int .i64 a6, .int .i64 0, .int .i64 0, .int .i64 0, .int .i64 0, .string s0, .string s1]) w := fun _ _ _ _ _ _ _ _ _ w => run_build w tMsg _ _ (by kernel_rfl)
  go_upto_region 5 with fail
  clear z0 z1 z2
  have HQ := Lib.hid ((Sep.nil w4).drew)
  refine wp_region_L (fun w' => w'.cell? ⟨f, 0, none⟩ = some (.int .i64 k) ∧ w'.cell? ⟨f, 1, none⟩ = some (.slice (some ⟨gn, 0, none⟩) 10 cn) ∧ w'.cell? ⟨f, 2, none⟩ = some (.slice (some ⟨gt, 0, none⟩) 2 ct) ∧ w'.cell? ⟨gn, 0, none⟩ = some (.int .i64 a) ∧ w'.cell? ⟨gn, 1, none⟩ = some (.int .i64 b) ∧ w'.cell? ⟨gn, 2, none⟩ = some (.int .i64 c0) ∧ w'.cell? ⟨gn, 3, none⟩ = some (.int .i64 d) ∧ w'.cell? ⟨gn, 4, none⟩ = some (.int .i64 e) ∧ w'.cell? ⟨gn, 5, none⟩ = some (.int .i64 er) ∧ w'.cell? ⟨gt, 0, none⟩ = some (.string x) ∧ w'.cell? ⟨gt, 1, none⟩ = some (.string y)) 30 (by kernel_rfl) (HC.out _ HQ.out.bel) (fun hHeld => ?_)
  refine reg_take (i := 0) (d := 31) (v := ?_) [] rfl rfl (by kernel_rfl) (by kernel_rfl) (fun _ _ _ h => h) (Or.inl ⟨by rfl, ?_⟩) (by assumption) ?_
  rotate_left
  · (intro w hSw; (try dsimp only at hSw); go_simp; first | done | with_reducible rfl)
  try simp only [List.setIfInBounds_toArray, List.set_cons_zero, List.set_cons_succ]
  refine reg_take (i := 1) (d := 32) (v := ?_) [] rfl rfl (by kernel_rfl) (by kernel_rfl) (fun _ _ _ h => h) (Or.inl ⟨by rfl, ?_⟩) (by assumption) ?_
  rotate_left
  · (intro w hSw; (try dsimp only at hSw); go_simp; first | done | with_reducible rfl)
  try simp only [List.setIfInBounds_toArray, List.set_cons_zero, List.set_cons_succ]
  refine reg_take (i := 2) (d := 33) (v := ?_) [] rfl rfl (by kernel_rfl) (by kernel_rfl) (fun _ _ _ h => h) (Or.inl ⟨by rfl, ?_⟩) (by assumption) ?_
  rotate_left
  · (intro w hSw; (try dsimp only at hSw); go_simp; first | done | with_reducible rfl)
  try simp only [List.setIfInBounds_toArray, List.set_cons_zero, List.set_cons_succ]
  refine reg_take (i := 3) (d := 34) (v := ?_) [] rfl rfl (by kernel_rfl) (by kernel_rfl) (fun _ _ _ h => h) (Or.inl ⟨by rfl, ?_⟩) (by assumption) ?_
  rotate_left
  · (intro w hSw; (try dsimp only at hSw); go_simp; first | done | with_reducible rfl)
  try simp only [List.setIfInBounds_toArray, List.set_cons_zero, List.set_cons_succ]
  refine reg_take (i := 4) (d := 35) (v := ?_) [] rfl rfl (by kernel_rfl) (by kernel_rfl) (fun _ _ _ h => h) (Or.inl ⟨by rfl, ?_⟩) (by assumption) ?_
  rotate_left
  · (intro w hSw; (try dsimp only at hSw); go_simp; first | done | with_reducible rfl)
  try simp only [List.setIfInBounds_toArray, List.set_cons_zero, List.set_cons_succ]
  refine reg_take (i := 5) (d := 36) (v := ?_) [] rfl rfl (by kernel_rfl) (by kernel_rfl) (fun _ _ _ h => h) (Or.inl ⟨by rfl, ?_⟩) (by assumption) ?_
  rotate_left
  · (intro w hSw; (try dsimp only at hSw); go_simp; first | done | with_reducible rfl)
  try simp only [List.setIfInBounds_toArray, List.set_cons_zero, List.set_cons_succ]
  refine reg_take (i := 6) (d := 37) (v := ?_) [] rfl rfl (by kernel_rfl) (by kernel_rfl) (fun _ _ _ h => h) (Or.inl ⟨by rfl, ?_⟩) (by assumption) ?_
  rotate_left
  · (intro w hSw; (try dsimp only at hSw); go_simp; first | done | with_reducible rfl)
  try simp only [List.setIfInBounds_toArray, List.set_cons_zero, List.set_cons_succ]
  refine reg_take (i := 7) (d := 38) (v := ?_) [] rfl rfl (by kernel_rfl) (by kernel_rfl) (fun _ _ _ h => h) (Or.inl ⟨by rfl, ?_⟩) (by assumption) ?_
  rotate_left
  · (intro w hSw; (try dsimp only at hSw); go_simp; first | done | with_reducible rfl)
  try simp only [List.setIfInBounds_toArray, List.set_cons_zero, List.set_cons_succ]
  refine reg_take (i := 8) (d := 39) (v := ?_) [] rfl rfl (by kernel_rfl) (by kernel_rfl) (fun _ _ _ h => h) (Or.inl ⟨by rfl, ?_⟩) (by assumption) ?_
  rotate_left
  · (intro w hSw; (try dsimp only at hSw); go_simp; first | done | with_reducible rfl)
  try simp only [List.setIfInBounds_toArray, List.set_cons_zero, List.set_cons_succ]
  refine reg_take (i := 9) (d := 40) (v := ?_) [] rfl rfl (by kernel_rfl) (by kernel_rfl) (fun _ _ _ h => h) (Or.inl ⟨by rfl, ?_⟩) (by assumption) ?_
  rotate_left
  · (intro w hSw; (try dsimp only at hSw); go_simp; first | done | with_reducible rfl)
  try simp only [List.setIfInBounds_toArray, List.set_cons_zero, List.set_cons_succ]
  refine reg_take (i := 10) (d := 41) (v := ?_) [] rfl rfl (by kernel_rfl) (by kernel_rfl) (fun _ _ _ h => h) (Or.inl ⟨by rfl, ?_⟩) (by assumption) ?_
  rotate_left
  · (intro w hSw; (try dsimp only at hSw); go_simp; first | done | with_reducible rfl)
  try simp only [List.setIfInBounds_toArray, List.set_cons_zero, List.set_cons_succ]
  refine reg_take (i := 11) (d := 42) (v := ?_) [] rfl rfl (by kernel_rfl) (by kernel_rfl) (fun _ _ _ h => h) (Or.inl ⟨by rfl, ?_⟩) (by assumption) ?_
  rotate_left
  · (intro w hSw; (try dsimp only at hSw); go_simp; first | done | with_reducible rfl)
  try simp only [List.setIfInBounds_toArray, List.set_cons_zero, List.set_cons_succ]
  refine reg_take (i := 12) (d := 43) (v := ?_) [] rfl rfl (by kernel_rfl) (by kernel_rfl) (fun _ _ _ h => h) (Or.inl ⟨by rfl, ?_⟩) (by assumption) ?_
  rotate_left
  · (intro w hSw; (try dsimp only at hSw); go_simp; first | done | with_reducible rfl)
  try simp only [List.setIfInBounds_toArray, List.set_cons_zero, List.set_cons_succ]
  refine reg_take (i := 13) (d := 44) (v := ?_) [] rfl rfl (by kernel_rfl) (by kernel_rfl) (fun _ _ _ h => h) (Or.inl ⟨by rfl, ?_⟩) (by assumption) ?_
  rotate_left
  · (intro w hSw; (try dsimp only at hSw); go_simp; first | done | with_reducible rfl)
  try simp only [List.setIfInBounds_toArray, List.set_cons_zero, List.set_cons_succ]
  refine reg_take (i := 14) (d := 45) (v := ?_) [] rfl rfl (by kernel_rfl) (by kernel_rfl) (fun _ _ _ h => h) (Or.inl ⟨by rfl, ?_⟩) (by assumption) ?_
  rotate_left
  · (intro w hSw; (try dsimp only at hSw); go_simp; first | done | with_reducible rfl)
  try simp only [List.setIfInBounds_toArray, List.set_cons_zero, List.set_cons_succ]
  refine reg_take (i := 15) (d := 46) (v := ?_) [] rfl rfl (by kernel_rfl) (by kernel_rfl) (fun _ _ _ h => h) (Or.inl ⟨by rfl, ?_⟩) (by assumption) ?_
  rotate_left
  · (intro w hSw; (try dsimp only at hSw); go_simp; first | done | with_reducible rfl)
  try simp only [List.setIfInBounds_toArray, List.set_cons_zero, List.set_cons_succ]
  refine reg_take (i := 16) (d := 47) (v := ?_) [] rfl rfl (by kernel_rfl) (by kernel_rfl) (fun _ _ _ h => h) (Or.inl ⟨by rfl, ?_⟩) (by assumption) ?_
  rotate_left
  · (intro w hSw; (try dsimp only at hSw); go_simp; first | done | with_reducible rfl)
  try simp only [List.setIfInBounds_toArray, List.set_cons_zero, List.set_cons_succ]
  refine reg_take (i := 17) (d := 48) (v := ?_) [] rfl rfl (by kernel_rfl) (by kernel_rfl) (fun _ _ _ h => h) (Or.inl ⟨by rfl, ?_⟩) (by assumption) ?_
  rotate_left
  · (intro w hSw; (try dsimp only at hSw); go_simp; first | done | with_reducible rfl)
  try simp only [List.setIfInBounds_toArray, List.set_cons_zero, List.set_cons_succ]
  refine reg_take (i := 18) (d := 49) (v := ?_) [] rfl rfl (by kernel_rfl) (by kernel_rfl) (fun _ _ _ h => h) (Or.inl ⟨by rfl, ?_⟩) (by assumption) ?_
  rotate_left
  · (intro w hSw; (try dsimp only at hSw); go_simp; first | done | with_reducible rfl)
  try simp only [List.setIfInBounds_toArray, List.set_cons_zero, List.set_cons_succ]
  refine reg_take (i := 19) (d := 50) (v := ?_) [] rfl rfl (by kernel_rfl) (by kernel_rfl) (fun _ _ _ h => h) (Or.inl ⟨by rfl, ?_⟩) (by assumption) ?_
  rotate_left
  · (intro w hSw; (try dsimp only at hSw); go_simp; first | done | with_reducible rfl)
  try simp only [List.setIfInBounds_toArray, List.set_cons_zero, List.set_cons_succ]
  refine reg_take (i := 20) (d := 51) (v := ?_) [] rfl rfl (by kernel_rfl) (by kernel_rfl) (fun _ _ _ h => h) (Or.inl ⟨by rfl, ?_⟩) (by assumption) ?_
  rotate_left
  · (intro w hSw; (try dsimp only at hSw); go_simp; first | done | with_reducible rfl)
  try simp only [List.setIfInBounds_toArray, List.set_cons_zero, List.set_cons_succ]
  refine reg_take (i := 21) (d := 52) (v := ?_) [] rfl rfl (by kernel_rfl) (by kernel_rfl) (fun _ _ _ h => h) (Or.inl ⟨by rfl, ?_⟩) (by assumption) ?_
  rotate_left
  · (intro w hSw; (try dsimp only at hSw); go_simp; first | done | with_reducible rfl)
  try simp only [List.setIfInBounds_toArray, List.set_cons_zero, List.set_cons_succ]
  refine reg_take (i := 22) (d := 53) (v := ?_) [] rfl rfl (by kernel_rfl) (by kernel_rfl) (fun _ _ _ h => h) (Or.inl ⟨by rfl, ?_⟩) (by assumption) ?_
  rotate_left
  · (intro w hSw; (try dsimp only at hSw); go_simp; first | done | with_reducible rfl)
  try simp only [List.setIfInBounds_toArray, List.set_cons_zero, List.set_cons_succ]
  refine reg_take (i := 23) (d := 54) (v := ?_) [] rfl rfl (by kernel_rfl) (by kernel_rfl) (fun _ _ _ h => h) (Or.inl ⟨by rfl, ?_⟩) (by assumption) ?_
  rotate_left
  · (intro w hSw; (try dsimp only at hSw); go_simp; first | done | with_reducible rfl)
  try simp only [List.setIfInBounds_toArray, List.set_cons_zero, List.set_cons_succ]
  refine reg_take (i := 24) (d := 55) (v := ?_) [] rfl rfl (by kernel_rfl) (by kernel_rfl) (fun _ _ _ h => h) (Or.inl ⟨by rfl, ?_⟩) (by assumption) ?_
  rotate_left
  · (intro w hSw; (try dsimp only at hSw); go_simp; first | done | with_reducible rfl)
  try simp only [List.setIfInBounds_toArray, List.set_cons_zero, List.set_cons_succ]
  refine reg_take (i := 25) (d := 56) (v := ?_) [] rfl rfl (by kernel_rfl) (by kernel_rfl) (fun _ _ _ h => h) (Or.inl ⟨by rfl, ?_⟩) (by assumption) ?_
  rotate_left
  · (intro w hSw; (try dsimp only at hSw); go_simp; first | done | with_reducible rfl)
  try simp only [List.setIfInBounds_toArray, List.set_cons_zero, List.set_cons_succ]
  refine reg_take (i := 26) (d := 57) (v := ?_) [] rfl rfl (by kernel_rfl) (by kernel_rfl) (fun _ _ _ h => h) (Or.inl ⟨by rfl, ?_⟩) (by assumption) ?_
  rotate_left
  · (intro w hSw; (try dsimp only at hSw); go_simp; first | done | with_reducible rfl)
  try simp only [List.setIfInBounds_toArray, List.set_cons_zero, List.set_cons_succ]
  refine reg_take (i := 27) (d := 58) (v := ?_) [] rfl rfl (by kernel_rfl) (by kernel_rfl) (fun _ _ _ h => h) (Or.inl ⟨by rfl, ?_⟩) (by assumption) ?_
  rotate_left
  · (intro w hSw; (try dsimp only at hSw); go_simp; first | done | with_reducible rfl)
  try simp only [List.setIfInBounds_toArray, List.set_cons_zero, List.set_cons_succ]
  refine reg_take (i := 28) (d := 59) (v := ?_) [] rfl rfl (by kernel_rfl) (by kernel_rfl) (fun _ _ _ h => h) (Or.inl ⟨by rfl, ?_⟩) (by assumption) ?_
  rotate_left
  · (intro w hSw; (try dsimp only at hSw); go_simp; first | done | with_reducible rfl)
  try simp only [List.setIfInBounds_toArray, List.set_cons_zero, List.set_cons_succ]
  refine wpAnyL_ready (rs := [29]) (by kernel_rfl) rfl ?_
  refine (AllL.cons rfl (fun K hK => ?_) AllL.nil)
  go_simp
  have HQ := Lib.hid (HQ.out.newBlk zM.cs tMsg (g := w4.heap.size) (by simp))
  refine hK.out _ _ (HC.out _ HQ.out.bel) (fun hHeld => ?_)
  try simp only [List.setIfInBounds_toArray, List.set_cons_zero, List.set_cons_succ]
  refine wpAnyL_ready (rs := [30]) (by kernel_rfl) rfl ?_
  refine (AllL.consJ rfl (by kernel_rfl) (fun K hK => ?_) AllL.nil)
  refine stepStoreR #[.int .i64 k, .int .i64 a, .int .i64 b, .int .i64 c0, .int .i64 d, .int .i64 e, .int .i64 er, .int .i64 0, .int .i64 0, .int .i64 0, .int .i64 0, .string x, .string y] (show Blk _ w4.heap.size zM.cs tMsg from HQ.out.hd) rfl infoM (msg1 ⟨k, a, b, c0, d, e, er, 0, 0, 0, 0, x, y⟩) rfl (.tmp 7) (.tmp 59) rfl rfl rfl ?_
  intro w7 hb7 hu7
  have HQ := Lib.hid (HQ.out.put hb7 hu7)
  clear hb7 hu7
  refine hK.out _ _ ?_
  try simp only [List.setIfInBounds_toArray, List.set_cons_zero, List.set_cons_succ]
  refine wpAnyL_done (by kernel_rfl) ?_ _
  have HX := Lib.hid (And.intro True.intro (HS.out.join HQ.out))
  have HS := Lib.hid HX.out.2
  clear HX HC hbm
  generalize w4.heap.size = gM at *
  have hc6 : ¬ cn = 6 := by
    have := (Own.cap (show Own _ tI 1 (.slice (some ⟨gn, 0, none⟩) 10 cn) 10 _ from HS.out.h3)).1
    omega
  go_upto_region 6 with fail
  refine wp_region_L (fun w' => True) 5 (by kernel_rfl) trivial (fun hHeld => ?_)
  refine reg_take (i := 0) (d := 60) (v := ?_) [] rfl rfl (by kernel_rfl) (by kernel_rfl) (fun _ _ _ h => h) (Or.inl ⟨by rfl, ?_⟩) (by assumption) ?_
  rotate_left
  · (intro w hSw; (try dsimp only at hSw); go_simp; first | done | with_reducible rfl)
  try simp only [List.setIfInBounds_toArray, List.set_cons_zero, List.set_cons_succ]
  refine reg_take (i := 1) (d := 61) (v := ?_) [] rfl rfl (by kernel_rfl) (by kernel_rfl) (fun _ _ _ h => h) (Or.inl ⟨by rfl, ?_⟩) (by assumption) ?_
  rotate_left
  · (intro w hSw; (try dsimp only at hSw); go_simp; first | done | with_reducible rfl)
  try simp only [List.setIfInBounds_toArray, List.set_cons_zero, List.set_cons_succ]
  refine reg_take (i := 2) (d := 62) (v := ?_) [] rfl rfl (by kernel_rfl) (by kernel_rfl) (fun _ _ _ h => h) (Or.inl ⟨by rfl, ?_⟩) (by assumption) ?_
  rotate_left
  · (intro w hSw; (try dsimp only at hSw); go_simp; first | done | with_reducible rfl)
  try simp only [List.setIfInBounds_toArray, List.set_cons_zero, List.set_cons_succ]
  refine reg_take (i := 3) (d := 63) (v := ?_) [] rfl rfl (by kernel_rfl) (by kernel_rfl) (fun _ _ _ h => h) (Or.inl ⟨by rfl, ?_⟩) (by assumption) ?_
  rotate_left
  · (intro w hSw; (try dsimp only at hSw); go_simp; first | done | with_reducible rfl)
  try simp only [List.setIfInBounds_toArray, List.set_cons_zero, List.set_cons_succ]
  refine wpAnyL_ready (rs := [4]) (by kernel_rfl) rfl ?_
  refine (AllL.cons rfl (fun K hK => ?_) AllL.nil)
  refine stepCopyR 70 70 tI gM 7 4 4 ⟨gn, 6, none⟩ 4 (cn - 6) [.int .i64 p0, .int .i64 p1, .int .i64 p2, .int .i64 p3] (show Blk _ gM _ tMsg from HS.out.drew.hd) Try.underlying70 (by kernel_rfl) rfl ?_ (by simp) (by intro u hu; simp only [List.mem_cons, List.not_mem_nil, or_false] at hu; rcases hu with rfl | rfl | rfl | rfl <;> rfl) (.tmp 61) (.tmp 63) rfl rfl rfl rfl ?_
  · exact ((Own.rd (show Own _ tI 1 (.slice (some ⟨gn, 0, none⟩) 10 cn) 10 _ from HS.out.drew.h3)).dropAt 6)
  intro w8 hb8 hu8
  have HS := Lib.hid (HS.out.drew.put hb8 hu8)
  clear hb8 hu8
  refine hK.out _ _ trivial (fun hHeld => ?_)
  try simp only [List.setIfInBounds_toArray, List.set_cons_zero, List.set_cons_succ]
  refine wpAnyL_done (by kernel_rfl) ?_ _
  clear hc6
  cases hm : mayM ⟨k, a, b, c0, d, e, er, p0, p1, p2, p3, x, y⟩
  · have HM := Lib.hid hm
    have HP := Lib.hid (d_none HL.out (HR.out.trans (by rw [hm]; rfl)))
    clear hm
    go_upto_region 7 with fail
    refine wp_region_lit (l := [_, _, _]) ?_
    refine loadR (cs := Msg.cs ⟨k, a, b, c0, d, e, er, p0, p1, p2, p3, x, y⟩) _ (show Blk _ gM _ tMsg from HS.out.hd) Try.underlying35 rfl msgI rfl (.tmp 7) rfl rfl ?_
    go_upto_region 8 with (go_at_call 36; with_reducible refine (mmay_any ⟨k, a, b, c0, d, e, er, p0, p1, p2, p3, x, y⟩ _).mono ?_; rw [HM.out]; rintro e1 w5 ⟨rfl, hB⟩; have HS5 := Lib.hid (HS.out.step hB); clear hB)
    refine wp_region_lit (l := [_, _, _]) ?_
    refine buildR zM.cs #[] rfl rfl (by kernel_rfl) ?_
    refine storeR zM.cs (show Blk _ g zM.cs tMsg from HS5.out.h5) rfl infoM (msg1 zM) rfl (.tmp 2) (.tmp 68) rfl rfl rfl ?_
    intro w9 hb9 hu9
    have HB9 := Lib.hid hb9
    have HU9 := Lib.hid (HS5.out.bel.trans (hu9.below HS5.out.size (fun k hk => by rw [hk]; exact Nat.le_of_eq HG.out)))
    clear hb9 hu9
    go_wp2_with fail
    refine ret_cell_tmp (k := 2) (u := 3) (by kernel_rfl) rfl rfl HB9.out (by kernel_rfl) infoM ?_
    exact ⟨by rw [HP.out.1, HP.out.2]; rfl, HU9.out⟩
  · have HM := Lib.hid hm
    have HP := Lib.hid (d_some HL.out (HR.out.trans (by rw [hm]; rfl)))
    clear hm
    go_upto_region 7 with fail
    refine wp_region_lit (l := [_, _, _]) ?_
    refine loadR (cs := Msg.cs ⟨k, a, b, c0, d, e, er, p0, p1, p2, p3, x, y⟩) _ (show Blk _ gM _ tMsg from HS.out.hd) Try.underlying35 rfl msgI rfl (.tmp 7) rfl rfl ?_
    go_upto_region 9 with (go_at_call 36; with_reducible refine (mmay_any ⟨k, a, b, c0, d, e, er, p0, p1, p2, p3, x, y⟩ _).mono ?_; rw [HM.out]; rintro e1 w5 ⟨rfl, hB⟩; have HS5 := Lib.hid (HS.out.step hB); clear hB)
    refine wp_region_lit (l := [_, _, _]) ?_
    refine loadR (cs := Msg.cs ⟨k, a, b, c0, d, e, er, p0, p1, p2, p3, x, y⟩) _ (show Blk _ gM _ tMsg from HS5.out.hd) Try.underlying35 rfl msgI rfl (.tmp 7) rfl rfl ?_
    refine storeR (Msg.cs ⟨k, a, b, c0, d, e, er, p0, p1, p2, p3, x, y⟩) (show Blk _ g zM.cs tMsg from HS5.out.h5) rfl infoM (msg1 _) rfl (.tmp 2) (.tmp 69) rfl rfl rfl ?_
    intro w9 hb9 hu9
    have HB9 := Lib.hid hb9
    have HU9 := Lib.hid (HS5.out.bel.trans (hu9.below HS5.out.size (fun k hk => by rw [hk]; exact Nat.le_of_eq HG.out)))
    clear hb9 hu9
    go_wp2_with fail
    refine ret_cell_tmp (k := 2) (u := 3) (by kernel_rfl) rfl rfl HB9.out (by kernel_rfl) infoM ?_
    exact ⟨by rw [HP.out.1, HP.out.2]; rfl, HU9.out⟩
set_option maxRecDepth 100000 in
set_option maxHeartbeats 4000000 in
theorem rmdecode_any (s : ByteArray) (w : World) (hs : s.size ≤ 65536) : DRun 24 s w := by
  obtain ⟨g, hg⟩ : ∃ g, w.heap.size = g := ⟨_, rfl⟩
  have HS0 := Lib.hid ((Sep.nil w).newBlk zM.cs tMsg hg)
  have HG := Lib.hid hg
  obtain ⟨l, hl⟩ : ∃ l, s.data.toList = l := ⟨_, rfl⟩
  have HL := Lib.hid hl
  clear hg hl
  unfold zM Msg.cs at HS0
  simp only at HS0
  go_enter Try.func24, Try.ntmps24
  go_upto_region 1 with fail
  rw [HG.out]
  generalize w.alloc (.cells #[.int .i64 0, .int .i64 0, .int .i64 0, .int .i64 0, .int .i64 0, .int .i64 0, .int .i64 0, .int .i64 0, .int .i64 0, .int .i64 0, .int .i64 0, .string { data := #[] }, .string { data := #[] }] tMsg) = w1 at *
  obtain ⟨c, w2, hcv, hB2, hc1, hc2, hR, hlen⟩ := conv_bytes s w1 hs HL.out
  have HS := Lib.hid (HS0.out.step hB2)
  have HE := Lib.hid (rdecode_any (some ⟨w1.heap.size, 0, none⟩) l s.size c w2 hlen hR hs hc1 hc2)
  clear HS0 hB2 hc1 hc2 hR hlen hs
  generalize w1.heap.size = q0 at *
  rcases hd : decB l with _ | ⟨k, ns, ts⟩
  · rw [hd] at HE
    have HP := Lib.hid (d_none HL.out (decM_none hd))
    clear hd
    go_upto_region 3 with (go_at_call 37; refine HE.out.mono ?_; rintro e1 w3 ⟨rfl, hB3⟩; have HS3 := Lib.hid ((HS.out.step hB3).alloc (.cells zRec tRec)); clear hB3 HE)
    generalize w3.alloc (.cells #[.int .i64 0, .slice none 0 0, .slice none 0 0] tRec) = w4 at *
    refine wp_region_lit (l := [_, _, _]) ?_
    refine buildR zM.cs #[] rfl rfl (by kernel_rfl) ?_
    refine storeR zM.cs (show Blk _ g zM.cs tMsg from HS3.out.hd) rfl infoM (msg1 zM) rfl (.tmp 2) (.tmp 28) rfl rfl rfl ?_
    intro w9 hb9 hu9
    have HB9 := Lib.hid hb9
    have HU9 := Lib.hid (HS3.out.bel.trans (hu9.below HS3.out.size (fun k hk => by rw [hk]; exact Nat.le_of_eq HG.out)))
    clear hb9 hu9
    go_wp2_with fail
    refine ret_cell_tmp (k := 2) (u := 3) (by kernel_rfl) rfl rfl HB9.out (by kernel_rfl) infoM ?_
    exact ⟨by rw [HP.out.1, HP.out.2]; rfl, HU9.out⟩
  rw [hd] at HE
  obtain ⟨n, hn⟩ : ∃ n, ns.length = n := ⟨_, rfl⟩
  obtain ⟨t, ht⟩ : ∃ n, ts.length = n := ⟨_, rfl⟩
  by_cases c1 : n = 10
  rotate_left
  · have f1 : ¬ ((n : Int) = 10) := by omega
    have f2 : decide ((n : Int) = 10) = false := decide_eq_false f1
    have f3 : decide ((n : Int) ≠ 10) = true := decide_eq_true f1
    have HP := Lib.hid (d_none HL.out (decM_len hd (.inl (by rw [hn]; exact c1))))
    have HN := Lib.hid (And.intro hn ht)
    clear hd hn ht c1
    go_upto_region 2 with (go_at_call 37; refine HE.out.mono ?_; rintro e1 w3 ⟨An, At, cn, ct, rfl, hs3⟩; simp only [HN.out.1, HN.out.2] at hs3 ⊢; have HS3 := Lib.hid ((HS.out.join hs3).newBlk #[.int .i64 k, .slice An n cn, .slice At t ct] tRec (g := w3.heap.size) rfl); clear hs3 HE)
    generalize w3.alloc (.cells #[.int .i64 k, .slice An n cn, .slice At t ct] tRec) = w4 at *
    generalize w3.heap.size = f at *
    have hz := (show Blk w4 f _ tRec from HS3.out.hd)
    have z1 := hz.cell 1; have z2 := hz.cell 2
    simp at z1 z2
    clear hz
    go_upto_region 3 with fail
    refine wp_region_lit (l := [_, _, _]) ?_
    refine buildR zM.cs #[] rfl rfl (by kernel_rfl) ?_
    refine storeR zM.cs (show Blk _ g zM.cs tMsg from HS3.out.h4) rfl infoM (msg1 zM) rfl (.tmp 2) (.tmp 28) rfl rfl rfl ?_
    intro w9 hb9 hu9
    have HB9 := Lib.hid hb9
    have HU9 := Lib.hid (HS3.out.bel.trans (hu9.below HS3.out.size (fun k hk => by rw [hk]; exact Nat.le_of_eq HG.out)))
    clear hb9 hu9
    go_wp2_with fail
    refine ret_cell_tmp (k := 2) (u := 3) (by kernel_rfl) rfl rfl HB9.out (by kernel_rfl) infoM ?_
    exact ⟨by rw [HP.out.1, HP.out.2]; rfl, HU9.out⟩
  subst c1
  by_cases c1 : t = 2
  rotate_left
  · have f1 : ¬ ((t : Int) = 2) := by omega
    have f2 : decide ((t : Int) = 2) = false := decide_eq_false f1
    have f3 : decide ((t : Int) ≠ 2) = true := decide_eq_true f1
    have HP := Lib.hid (d_none HL.out (decM_len hd (.inr (by rw [ht]; exact c1))))
    have HN := Lib.hid (And.intro hn ht)
    clear hd hn ht c1
    go_upto_region 2 with (go_at_call 37; refine HE.out.mono ?_; rintro e1 w3 ⟨An, At, cn, ct, rfl, hs3⟩; simp only [HN.out.1, HN.out.2] at hs3 ⊢; have HS3 := Lib.hid ((HS.out.join hs3).newBlk #[.int .i64 k, .slice An 10 cn, .slice At t ct] tRec (g := w3.heap.size) rfl); clear hs3 HE)
    generalize w3.alloc (.cells #[.int .i64 k, .slice An 10 cn, .slice At t ct] tRec) = w4 at *
    generalize w3.heap.size = f at *
    have hz := (show Blk w4 f _ tRec from HS3.out.hd)
    have z1 := hz.cell 1; have z2 := hz.cell 2
    simp at z1 z2
    clear hz
    go_upto_region 3 with fail
    refine wp_region_lit (l := [_, _, _]) ?_
    refine buildR zM.cs #[] rfl rfl (by kernel_rfl) ?_
    refine storeR zM.cs (show Blk _ g zM.cs tMsg from HS3.out.h4) rfl infoM (msg1 zM) rfl (.tmp 2) (.tmp 28) rfl rfl rfl ?_
    intro w9 hb9 hu9
    have HB9 := Lib.hid hb9
    have HU9 := Lib.hid (HS3.out.bel.trans (hu9.below HS3.out.size (fun k hk => by rw [hk]; exact Nat.le_of_eq HG.out)))
    clear hb9 hu9
    go_wp2_with fail
    refine ret_cell_tmp (k := 2) (u := 3) (by kernel_rfl) rfl rfl HB9.out (by kernel_rfl) infoM ?_
    exact ⟨by rw [HP.out.1, HP.out.2]; rfl, HU9.out⟩
  subst c1
  obtain ⟨a, b, c0, d, e, er, p0, p1, p2, p3, rfl⟩ := len10 hn
  obtain ⟨x, y, rfl⟩ := len2 ht
  have HD := Lib.hid hd
  have HN := Lib.hid (And.intro hn ht)
  clear hd hn ht
  go_upto_region 2 with (go_at_call 37; refine HE.out.mono ?_; rintro e1 w3 ⟨An, At, cn, ct, rfl, hs3⟩; simp only [HN.out.1, HN.out.2] at hs3 ⊢; have HS3 := Lib.hid ((HS.out.join hs3).newBlk #[.int .i64 k, .slice An 10 cn, .slice At 2 ct] tRec (g := w3.heap.size) rfl); clear hs3 HE)
  generalize w3.alloc (.cells #[.int .i64 k, .slice An 10 cn, .slice At 2 ct] tRec) = w4 at *
  generalize w3.heap.size = f at *
  have HS := HS3
  clear HS3
  -- ten numbers and two texts
  have HR := Lib.hid (decM_if (m := ⟨k, a, b, c0, d, e, er, p0, p1, p2, p3, x, y⟩) HD.out)
  obtain ⟨gn, cn', hgn⟩ := (show Own w4 tI 1 (.slice An 10 cn) 10 _ from HS.out.h2).pos (by decide)
  obtain ⟨gt, ct', hgt⟩ := (show Own w4 tS 1 (.slice At 2 ct) 2 _ from HS.out.h3).pos (by decide)
  cases hgn; cases hgt
  have HC : Hid (∀ w', Below w4.heap.size w4 w' → w'.cell? ⟨f, 0, none⟩ = some (.int .i64 k) ∧ w'.cell? ⟨f, 1, none⟩ = some (.slice (some ⟨gn, 0, none⟩) 10 cn) ∧ w'.cell? ⟨f, 2, none⟩ = some (.slice (some ⟨gt, 0, none⟩) 2 ct) ∧ w'.cell? ⟨gn, 0, none⟩ = some (.int .i64 a) ∧ w'.cell? ⟨gn, 1, none⟩ = some (.int .i64 b) ∧ w'.cell? ⟨gn, 2, none⟩ = some (.int .i64 c0) ∧ w'.cell? ⟨gn, 3, none⟩ = some (.int .i64 d) ∧ w'.cell? ⟨gn, 4, none⟩ = some (.int .i64 e) ∧ w'.cell? ⟨gn, 5, none⟩ = some (.int .i64 er) ∧ w'.cell? ⟨gn, 6, none⟩ = some (.int .i64 p0) ∧ w'.cell? ⟨gn, 7, none⟩ = some (.int .i64 p1) ∧ w'.cell? ⟨gn, 8, none⟩ = some (.int .i64 p2) ∧ w'.cell? ⟨gn, 9, none⟩ = some (.int .i64 p3) ∧ w'.cell? ⟨gt, 0, none⟩ = some (.string x) ∧ w'.cell? ⟨gt, 1, none⟩ = some (.string y)) := Lib.hid (fun w' h => by
    have h1 := (show Blk w4 f _ tRec from HS.out.hd)
    have h2 := (show Own w4 tI 1 (.slice (some ⟨gn, 0, none⟩) 10 cn) 10 _ from HS.out.h2)
    have h3 := (show Own w4 tS 1 (.slice (some ⟨gt, 0, none⟩) 2 ct) 2 _ from HS.out.h3)
    have h1 := h1.bel h; have h2 := h2.below h; have h3 := h3.below h
    refine ⟨h1.cell 0, h1.cell 1, h1.cell 2, ?_⟩
    exact ⟨h2.cell 0 _ rfl, h2.cell 1 _ rfl, h2.cell 2 _ rfl, h2.cell 3 _ rfl, h2.cell 4 _ rfl, h2.cell 5 _ rfl, h2.cell 6 _ rfl, h2.cell 7 _ rfl, h2.cell 8 _ rfl, h2.cell 9 _ rfl, h3.cell 0 _ rfl, h3.cell 1 _ rfl⟩)
  have hz := (show Blk w4 f _ tRec from HS.out.hd)
  have z0 := hz.cell 0; have z1 := hz.cell 1; have z2 := hz.cell 2
  simp at z0 z1 z2
  clear hz HD
  have hba : ∀ (a0 a1 a2 a3 : Int) (w : World), (Instr.build 33 #[(0, .int .i64 a0), (1, .int .i64 a1), (2, .int .i64 a2), (3, .int .i64 a3)]).run Try.prog w = .ok (.agg #[.int .i64 a0, .int .i64 a1, .int .i64 a2, .int .i64 a3]) w := fun _ _ _ _ w => run_build w 33 _ _ (by kernel_rfl)
  have hbm : ∀ (a0 a1 a2 a3 a4 a5 a6 a7 a8 a9 a10 : Int) (s0 s1 : ByteArray) (w : World), (Instr.build tMsg #[(0, .int .i64 a0), (1, .int .i64 a1), (2, .int .i64 a2), (3, .int .i64 a3), (4, .int .i64 a4), (5, .int .i64 a5), (6, .int .i64 a6), (7, .agg #[.int .i64 a7, .int .i64 a8, .int .i64 a9, .int .i64 a10]), (8, .string s0), (9, .string s1)]).run Try.prog w = .ok (.agg #[.int .i64 a0, .int .i64 a1, .int .i64 a2, .int .i64 a3, .int .i64 a4, .int .i64 a5, .int .i64 a6, .int .i64 a7, .int .i64 a8, .int .i64 a9, .int .i64 a10, .string s0, .string s1]) w := fun _ _ _ _ _ _ _ _ _ _ _ _ _ w => run_build w tMsg _ _ (by kernel_rfl)
  have u3 := (HC.out _ (Below.refl _ _)).2.2.2.2.2.2.1; have u4 := (HC.out _ (Below.refl _ _)).2.2.2.2.2.2.2.1; have u5 := (HC.out _ (Below.refl _ _)).2.2.2.2.2.2.2.2.1
  by_cases c1 : wi d (-1) (31) = true
  rotate_left
  · have f1 : wi d (-1) (31) = false := by simpa using c1
    have HP := Lib.hid (d_none HL.out (HR.out.trans (by
      rw [if_neg]
      intro hm
      have hm := (mayM_iff _).1 hm
      exact c1 (wi_iff.2 (by unfold big62 at hm; simp only at hm; omega)))))
    clear c1
    go_upto_region 6 with (first | (with_reducible refine (within_any d (-1) (31) _).mono ?_; rintro e1 w5 ⟨rfl, hw5⟩; rw [hw5]; clear hw5 w5))
    refine wp_region_lit (l := [_, _, _]) ?_
    refine buildR zM.cs #[] rfl rfl (by kernel_rfl) ?_
    refine storeR zM.cs (show Blk _ g zM.cs tMsg from HS.out.h4) rfl infoM (msg1 zM) rfl (.tmp 2) (.tmp 50) rfl rfl rfl ?_
    intro w9 hb9 hu9
    have HB9 := Lib.hid hb9
    have HU9 := Lib.hid (HS.out.bel.trans (hu9.below HS.out.size (fun k hk => by rw [hk]; exact Nat.le_of_eq HG.out)))
    clear hb9 hu9
    go_wp2_with fail
    refine ret_cell_tmp (k := 2) (u := 3) (by kernel_rfl) rfl rfl HB9.out (by kernel_rfl) infoM ?_
    exact ⟨by rw [HP.out.1, HP.out.2]; rfl, HU9.out⟩
  have f1 : wi d (-1) (31) = true := c1
  clear c1
  by_cases c1 : wi e (-1) (3) = true
  rotate_left
  · have f2 : wi e (-1) (3) = false := by simpa using c1
    have HP := Lib.hid (d_none HL.out (HR.out.trans (by
      rw [if_neg]
      intro hm
      have hm := (mayM_iff _).1 hm
      exact c1 (wi_iff.2 (by unfold big62 at hm; simp only at hm; omega)))))
    clear c1
    go_upto_region 6 with (first | (with_reducible refine (within_any d (-1) (31) _).mono ?_; rintro e1 w5 ⟨rfl, hw5⟩; rw [hw5]; clear hw5 w5) | (with_reducible refine (within_any e (-1) (3) _).mono ?_; rintro e1 w5 ⟨rfl, hw5⟩; rw [hw5]; clear hw5 w5))
    refine wp_region_lit (l := [_, _, _]) ?_
    refine buildR zM.cs #[] rfl rfl (by kernel_rfl) ?_
    refine storeR zM.cs (show Blk _ g zM.cs tMsg from HS.out.h4) rfl infoM (msg1 zM) rfl (.tmp 2) (.tmp 50) rfl rfl rfl ?_
    intro w9 hb9 hu9
    have HB9 := Lib.hid hb9
    have HU9 := Lib.hid (HS.out.bel.trans (hu9.below HS.out.size (fun k hk => by rw [hk]; exact Nat.le_of_eq HG.out)))
    clear hb9 hu9
    go_wp2_with fail
    refine ret_cell_tmp (k := 2) (u := 3) (by kernel_rfl) rfl rfl HB9.out (by kernel_rfl) infoM ?_
    exact ⟨by rw [HP.out.1, HP.out.2]; rfl, HU9.out⟩
  have f2 : wi e (-1) (3) = true := c1
  clear c1
  by_cases c1 : wi er (0) (31) = true
  rotate_left
  · have f3 : wi er (0) (31) = false := by simpa using c1
    have HP := Lib.hid (d_none HL.out (HR.out.trans (by
      rw [if_neg]
      intro hm
      have hm := (mayM_iff _).1 hm
      exact c1 (wi_iff.2 (by unfold big62 at hm; simp only at hm; omega)))))
    clear c1
    go_upto_region 6 with (first | (with_reducible refine (within_any d (-1) (31) _).mono ?_; rintro e1 w5 ⟨rfl, hw5⟩; rw [hw5]; clear hw5 w5) | (with_reducible refine (within_any e (-1) (3) _).mono ?_; rintro e1 w5 ⟨rfl, hw5⟩; rw [hw5]; clear hw5 w5) | (with_reducible refine (within_any er (0) (31) _).mono ?_; rintro e1 w5 ⟨rfl, hw5⟩; rw [hw5]; clear hw5 w5))
    refine wp_region_lit (l := [_, _, _]) ?_
    refine buildR zM.cs #[] rfl rfl (by kernel_rfl) ?_
    refine storeR zM.cs (show Blk _ g zM.cs tMsg from HS.out.h4) rfl infoM (msg1 zM) rfl (.tmp 2) (.tmp 50) rfl rfl rfl ?_
    intro w9 hb9 hu9
    have HB9 := Lib.hid hb9
    have HU9 := Lib.hid (HS.out.bel.trans (hu9.below HS.out.size (fun k hk => by rw [hk]; exact Nat.le_of_eq HG.out)))
    clear hb9 hu9
    go_wp2_with fail
    refine ret_cell_tmp (k := 2) (u := 3) (by kernel_rfl) rfl rfl HB9.out (by kernel_rfl) infoM ?_
    exact ⟨by rw [HP.out.1, HP.out.2]; rfl, HU9.out⟩
  have f3 : wi er (0) (31) = true := c1
  clear c1
  go_upto_region 7 with (first | (with_reducible refine (within_any d (-1) (31) _).mono ?_; rintro e1 w5 ⟨rfl, hw5⟩; rw [hw5]; clear hw5 w5) | (with_reducible refine (within_any e (-1) (3) _).mono ?_; rintro e1 w5 ⟨rfl, hw5⟩; rw [hw5]; clear hw5 w5) | (with_reducible refine (within_any er (0) (31) _).mono ?_; rintro e1 w5 ⟨rfl, hw5⟩; rw [hw5]; clear hw5 w5))
  clear z0 z1 z2 u3 u4 u5
  have HQ := Lib.hid ((Sep.nil w4).drew)
  refine wp_region_L (fun w' => w'.cell? ⟨f, 0, none⟩ = some (.int .i64 k) ∧ w'.cell? ⟨f, 1, none⟩ = some (.slice (some ⟨gn, 0, none⟩) 10 cn) ∧ w'.cell? ⟨f, 2, none⟩ = some (.slice (some ⟨gt, 0, none⟩) 2 ct) ∧ w'.cell? ⟨gn, 0, none⟩ = some (.int .i64 a) ∧ w'.cell? ⟨gn, 1, none⟩ = some (.int .i64 b) ∧ w'.cell? ⟨gn, 2, none⟩ = some (.int .i64 c0) ∧ w'.cell? ⟨gn, 3, none⟩ = some (.int .i64 d) ∧ w'.cell? ⟨gn, 4, none⟩ = some (.int .i64 e) ∧ w'.cell? ⟨gn, 5, none⟩ = some (.int .i64 er) ∧ w'.cell? ⟨gn, 6, none⟩ = some (.int .i64 p0) ∧ w'.cell? ⟨gn, 7, none⟩ = some (.int .i64 p1) ∧ w'.cell? ⟨gn, 8, none⟩ = some (.int .i64 p2) ∧ w'.cell? ⟨gn, 9, none⟩ = some (.int .i64 p3) ∧ w'.cell? ⟨gt, 0, none⟩ = some (.string x) ∧ w'.cell? ⟨gt, 1, none⟩ = some (.string y)) 43 (by kernel_rfl) (HC.out _ HQ.out.bel) (fun hHeld => ?_)
  refine reg_take (i := 0) (d := 51) (v := ?_) [] rfl rfl (by kernel_rfl) (by kernel_rfl) (fun _ _ _ h => h) (Or.inl ⟨by rfl, ?_⟩) (by assumption) ?_
  rotate_left
  · (intro w hSw; (try dsimp only at hSw); go_simp; first | done | with_reducible rfl)
  try simp only [List.setIfInBounds_toArray, List.set_cons_zero, List.set_cons_succ]
  refine reg_take (i := 1) (d := 52) (v := ?_) [] rfl rfl (by kernel_rfl) (by kernel_rfl) (fun _ _ _ h => h) (Or.inl ⟨by rfl, ?_⟩) (by assumption) ?_
  rotate_left
  · (intro w hSw; (try dsimp only at hSw); go_simp; first | done | with_reducible rfl)
  try simp only [List.setIfInBounds_toArray, List.set_cons_zero, List.set_cons_succ]
  refine reg_take (i := 2) (d := 53) (v := ?_) [] rfl rfl (by kernel_rfl) (by kernel_rfl) (fun _ _ _ h => h) (Or.inl ⟨by rfl, ?_⟩) (by assumption) ?_
  rotate_left
  · (intro w hSw; (try dsimp only at hSw); go_simp; first | done | with_reducible rfl)
  try simp only [List.setIfInBounds_toArray, List.set_cons_zero, List.set_cons_succ]
  refine reg_take (i := 3) (d := 54) (v := ?_) [] rfl rfl (by kernel_rfl) (by kernel_rfl) (fun _ _ _ h => h) (Or.inl ⟨by rfl, ?_⟩) (by assumption) ?_
  rotate_left
  · (intro w hSw; (try dsimp only at hSw); go_simp; first | done | with_reducible rfl)
  try simp only [List.setIfInBounds_toArray, List.set_cons_zero, List.set_cons_succ]
  refine reg_take (i := 4) (d := 55) (v := ?_) [] rfl rfl (by kernel_rfl) (by kernel_rfl) (fun _ _ _ h => h) (Or.inl ⟨by rfl, ?_⟩) (by assumption) ?_
  rotate_left
  · (intro w hSw; (try dsimp only at hSw); go_simp; first | done | with_reducible rfl)
  try simp only [List.setIfInBounds_toArray, List.set_cons_zero, List.set_cons_succ]
  refine reg_take (i := 5) (d := 56) (v := ?_) [] rfl rfl (by kernel_rfl) (by kernel_rfl) (fun _ _ _ h => h) (Or.inl ⟨by rfl, ?_⟩) (by assumption) ?_
  rotate_left
  · (intro w hSw; (try dsimp only at hSw); go_simp; first | done | with_reducible rfl)
  try simp only [List.setIfInBounds_toArray, List.set_cons_zero, List.set_cons_succ]
  refine reg_take (i := 6) (d := 57) (v := ?_) [] rfl rfl (by kernel_rfl) (by kernel_rfl) (fun _ _ _ h => h) (Or.inl ⟨by rfl, ?_⟩) (by assumption) ?_
  rotate_left
  · (intro w hSw; (try dsimp only at hSw); go_simp; first | done | with_reducible rfl)
  try simp only [List.setIfInBounds_toArray, List.set_cons_zero, List.set_cons_succ]
  refine reg_take (i := 7) (d := 58) (v := ?_) [] rfl rfl (by kernel_rfl) (by kernel_rfl) (fun _ _ _ h => h) (Or.inl ⟨by rfl, ?_⟩) (by assumption) ?_
  rotate_left
  · (intro w hSw; (try dsimp only at hSw); go_simp; first | done | with_reducible rfl)
  try simp only [List.setIfInBounds_toArray, List.set_cons_zero, List.set_cons_succ]
  refine reg_take (i := 8) (d := 59) (v := ?_) [] rfl rfl (by kernel_rfl) (by kernel_rfl) (fun _ _ _ h => h) (Or.inl ⟨by rfl, ?_⟩) (by assumption) ?_
  rotate_left
  · (intro w hSw; (try dsimp only at hSw); go_simp; first | done | with_reducible rfl)
  try simp only [List.setIfInBounds_toArray, List.set_cons_zero, List.set_cons_succ]
  refine reg_take (i := 9) (d := 60) (v := ?_) [] rfl rfl (by kernel_rfl) (by kernel_rfl) (fun _ _ _ h => h) (Or.inl ⟨by rfl, ?_⟩) (by assumption) ?_
  rotate_left
  · (intro w hSw; (try dsimp only at hSw); go_simp; first | done | with_reducible rfl)
  try simp only [List.setIfInBounds_toArray, List.set_cons_zero, List.set_cons_succ]
  refine reg_take (i := 10) (d := 61) (v := ?_) [] rfl rfl (by kernel_rfl) (by kernel_rfl) (fun _ _ _ h => h) (Or.inl ⟨by rfl, ?_⟩) (by assumption) ?_
  rotate_left
  · (intro w hSw; (try dsimp only at hSw); go_simp; first | done | with_reducible rfl)
  try simp only [List.setIfInBounds_toArray, List.set_cons_zero, List.set_cons_succ]
  refine reg_take (i := 11) (d := 62) (v := ?_) [] rfl rfl (by kernel_rfl) (by kernel_rfl) (fun _ _ _ h => h) (Or.inl ⟨by rfl, ?_⟩) (by assumption) ?_
  rotate_left
  · (intro w hSw; (try dsimp only at hSw); go_simp; first | done | with_reducible rfl)
  try simp only [List.setIfInBounds_toArray, List.set_cons_zero, List.set_cons_succ]
  refine reg_take (i := 12) (d := 63) (v := ?_) [] rfl rfl (by kernel_rfl) (by kernel_rfl) (fun _ _ _ h => h) (Or.inl ⟨by rfl, ?_⟩) (by assumption) ?_
  rotate_left
  · (intro w hSw; (try dsimp only at hSw); go_simp; first | done | with_reducible rfl)
  try simp only [List.setIfInBounds_toArray, List.set_cons_zero, List.set_cons_succ]
  refine reg_take (i := 13) (d := 64) (v := ?_) [] rfl rfl (by kernel_rfl) (by kernel_rfl) (fun _ _ _ h => h) (Or.inl ⟨by rfl, ?_⟩) (by assumption) ?_
  rotate_left
  · (intro w hSw; (try dsimp only at hSw); go_simp; first | done | with_reducible rfl)
  try simp only [List.setIfInBounds_toArray, List.set_cons_zero, List.set_cons_succ]
  refine reg_take (i := 14) (d := 65) (v := ?_) [] rfl rfl (by kernel_rfl) (by kernel_rfl) (fun _ _ _ h => h) (Or.inl ⟨by rfl, ?_⟩) (by assumption) ?_
  rotate_left
  · (intro w hSw; (try dsimp only at hSw); go_simp; first | done | with_reducible rfl)
  try simp only [List.setIfInBounds_toArray, List.set_cons_zero, List.set_cons_succ]
  refine reg_take (i := 15) (d := 66) (v := ?_) [] rfl rfl (by kernel_rfl) (by kernel_rfl) (fun _ _ _ h => h) (Or.inl ⟨by rfl, ?_⟩) (by assumption) ?_
  rotate_left
  · (intro w hSw; (try dsimp only at hSw); go_simp; first | done | with_reducible rfl)
  try simp only [List.setIfInBounds_toArray, List.set_cons_zero, List.set_cons_succ]
  refine reg_take (i := 16) (d := 67) (v := ?_) [] rfl rfl (by kernel_rfl) (by kernel_rfl) (fun _ _ _ h => h) (Or.inl ⟨by rfl, ?_⟩) (by assumption) ?_
  rotate_left
  · (intro w hSw; (try dsimp only at hSw); go_simp; first | done | with_reducible rfl)
  try simp only [List.setIfInBounds_toArray, List.set_cons_zero, List.set_cons_succ]
  refine reg_take (i := 17) (d := 68) (v := ?_) [] rfl rfl (by kernel_rfl) (by kernel_rfl) (fun _ _ _ h => h) (Or.inl ⟨by rfl, ?_⟩) (by assumption) ?_
  rotate_left
  · (intro w hSw; (try dsimp only at hSw); go_simp; first | done | with_reducible rfl)
  try simp only [List.setIfInBounds_toArray, List.set_cons_zero, List.set_cons_succ]
  refine reg_take (i := 18) (d := 69) (v := ?_) [] rfl rfl (by kernel_rfl) (by kernel_rfl) (fun _ _ _ h => h) (Or.inl ⟨by rfl, ?_⟩) (by assumption) ?_
  rotate_left
  · (intro w hSw; (try dsimp only at hSw); go_simp; first | done | with_reducible rfl)
  try simp only [List.setIfInBounds_toArray, List.set_cons_zero, List.set_cons_succ]
  refine reg_take (i := 19) (d := 70) (v := ?_) [] rfl rfl (by kernel_rfl) (by kernel_rfl) (fun _ _ _ h => h) (Or.inl ⟨by rfl, ?_⟩) (by assumption) ?_
  rotate_left
  · (intro w hSw; (try dsimp only at hSw); go_simp; first | done | with_reducible rfl)
  try simp only [List.setIfInBounds_toArray, List.set_cons_zero, List.set_cons_succ]
  refine reg_take (i := 20) (d := 71) (v := ?_) [] rfl rfl (by kernel_rfl) (by kernel_rfl) (fun _ _ _ h => h) (Or.inl ⟨by rfl, ?_⟩) (by assumption) ?_
  rotate_left
  · (intro w hSw; (try dsimp only at hSw); go_simp; first | done | with_reducible rfl)
  try simp only [List.setIfInBounds_toArray, List.set_cons_zero, List.set_cons_succ]
  refine reg_take (i := 21) (d := 72) (v := ?_) [] rfl rfl (by kernel_rfl) (by kernel_rfl) (fun _ _ _ h => h) (Or.inl ⟨by rfl, ?_⟩) (by assumption) ?_
  rotate_left
  · (intro w hSw; (try dsimp only at hSw); go_simp; first | done | with_reducible rfl)
  try simp only [List.setIfInBounds_toArray, List.set_cons_zero, List.set_cons_succ]
  refine reg_take (i := 22) (d := 73) (v := ?_) [] rfl rfl (by kernel_rfl) (by kernel_rfl) (fun _ _ _ h => h) (Or.inl ⟨by rfl, ?_⟩) (by assumption) ?_
  rotate_left
  · (intro w hSw; (try dsimp only at hSw); go_simp; first | done | with_reducible rfl)
  try simp only [List.setIfInBounds_toArray, List.set_cons_zero, List.set_cons_succ]
  refine reg_take (i := 23) (d := 74) (v := ?_) [] rfl rfl (by kernel_rfl) (by kernel_rfl) (fun _ _ _ h => h) (Or.inl ⟨by rfl, ?_⟩) (by assumption) ?_
  rotate_left
  · (intro w hSw; (try dsimp only at hSw); go_simp; first | done | with_reducible rfl)
  try simp only [List.setIfInBounds_toArray, List.set_cons_zero, List.set_cons_succ]
  refine reg_take (i := 24) (d := 75) (v := ?_) [] rfl rfl (by kernel_rfl) (by kernel_rfl) (fun _ _ _ h => h) (Or.inl ⟨by rfl, ?_⟩) (by assumption) ?_
  rotate_left
  · (intro w hSw; (try dsimp only at hSw); go_simp; first | done | with_reducible rfl)
  try simp only [List.setIfInBounds_toArray, List.set_cons_zero, List.set_cons_succ]
  refine reg_take (i := 25) (d := 76) (v := ?_) [] rfl rfl (by kernel_rfl) (by kernel_rfl) (fun _ _ _ h => h) (Or.inl ⟨by rfl, ?_⟩) (by assumption) ?_
  rotate_left
  · (intro w hSw; (try dsimp only at hSw); go_simp; first | done | with_reducible rfl)
  try simp only [List.setIfInBounds_toArray, List.set_cons_zero, List.set_cons_succ]
  refine reg_take (i := 26) (d := 77) (v := ?_) [] rfl rfl (by kernel_rfl) (by kernel_rfl) (fun _ _ _ h => h) (Or.inl ⟨by rfl, ?_⟩) (by assumption) ?_
  rotate_left
  · (intro w hSw; (try dsimp only at hSw); go_simp; first | done | with_reducible rfl)
  try simp only [List.setIfInBounds_toArray, List.set_cons_zero, List.set_cons_succ]
  refine reg_take (i := 27) (d := 78) (v := ?_) [] rfl rfl (by kernel_rfl) (by kernel_rfl) (fun _ _ _ h => h) (Or.inl ⟨by rfl, ?_⟩) (by assumption) ?_
  rotate_left
  · (intro w hSw; (try dsimp only at hSw); go_simp; first | done | with_reducible rfl)
  try simp only [List.setIfInBounds_toArray, List.set_cons_zero, List.set_cons_succ]
  refine reg_take (i := 28) (d := 79) (v := ?_) [] rfl rfl (by kernel_rfl) (by kernel_rfl) (fun _ _ _ h => h) (Or.inl ⟨by rfl, ?_⟩) (by assumption) ?_
  rotate_left
  · (intro w hSw; (try dsimp only at hSw); go_simp; first | done | with_reducible rfl)
  try simp only [List.setIfInBounds_toArray, List.set_cons_zero, List.set_cons_succ]
  refine reg_take (i := 29) (d := 80) (v := ?_) [] rfl rfl (by kernel_rfl) (by kernel_rfl) (fun _ _ _ h => h) (Or.inl ⟨by rfl, ?_⟩) (by assumption) ?_
  rotate_left
  · (intro w hSw; (try dsimp only at hSw); go_simp; first | done | with_reducible rfl)
  try simp only [List.setIfInBounds_toArray, List.set_cons_zero, List.set_cons_succ]
  refine reg_take (i := 30) (d := 81) (v := ?_) [] rfl rfl (by kernel_rfl) (by kernel_rfl) (fun _ _ _ h => h) (Or.inl ⟨by rfl, ?_⟩) (by assumption) ?_
  rotate_left
  · (intro w hSw; (try dsimp only at hSw); go_simp; first | done | with_reducible rfl)
  try simp only [List.setIfInBounds_toArray, List.set_cons_zero, List.set_cons_succ]
  refine reg_take (i := 31) (d := 82) (v := ?_) [] rfl rfl (by kernel_rfl) (by kernel_rfl) (fun _ _ _ h => h) (Or.inl ⟨by rfl, ?_⟩) (by assumption) ?_
  rotate_left
  · (intro w hSw; (try dsimp only at hSw); go_simp; first | done | with_reducible rfl)
  try simp only [List.setIfInBounds_toArray, List.set_cons_zero, List.set_cons_succ]
  refine reg_take (i := 32) (d := 83) (v := ?_) [] rfl rfl (by kernel_rfl) (by kernel_rfl) (fun _ _ _ h => h) (Or.inl ⟨by rfl, ?_⟩) (by assumption) ?_
  rotate_left
  · (intro w hSw; (try dsimp only at hSw); go_simp; first | done | with_reducible rfl)
  try simp only [List.setIfInBounds_toArray, List.set_cons_zero, List.set_cons_succ]
  refine reg_take (i := 33) (d := 84) (v := ?_) [] rfl rfl (by kernel_rfl) (by kernel_rfl) (fun _ _ _ h => h) (Or.inl ⟨by rfl, ?_⟩) (by assumption) ?_
  rotate_left
  · (intro w hSw; (try dsimp only at hSw); go_simp; first | done | with_reducible rfl)
  try simp only [List.setIfInBounds_toArray, List.set_cons_zero, List.set_cons_succ]
  refine reg_take (i := 34) (d := 85) (v := ?_) [] rfl rfl (by kernel_rfl) (by kernel_rfl) (fun _ _ _ h => h) (Or.inl ⟨by rfl, ?_⟩) (by assumption) ?_
  rotate_left
  · (intro w hSw; (try dsimp only at hSw); go_simp; first | done | with_reducible rfl)
  try simp only [List.setIfInBounds_toArray, List.set_cons_zero, List.set_cons_succ]
  refine reg_take (i := 35) (d := 86) (v := ?_) [] rfl rfl (by kernel_rfl) (by kernel_rfl) (fun _ _ _ h => h) (Or.inl ⟨by rfl, ?_⟩) (by assumption) ?_
  rotate_left
  · (intro w hSw; (try dsimp only at hSw); go_simp; first | done | with_reducible rfl)
  try simp only [List.setIfInBounds_toArray, List.set_cons_zero, List.set_cons_succ]
  refine reg_take (i := 36) (d := 87) (v := ?_) [] rfl rfl (by kernel_rfl) (by kernel_rfl) (fun _ _ _ h => h) (Or.inl ⟨by rfl, ?_⟩) (by assumption) ?_
  rotate_left
  · (intro w hSw; (try dsimp only at hSw); go_simp; first | done | with_reducible rfl)
  try simp only [List.setIfInBounds_toArray, List.set_cons_zero, List.set_cons_succ]
  refine reg_take (i := 37) (d := 88) (v := ?_) [] rfl rfl (by kernel_rfl) (by kernel_rfl) (fun _ _ _ h => h) (Or.inl ⟨by rfl, ?_⟩) (by assumption) ?_
  rotate_left
  · (intro w hSw; (try dsimp only at hSw); go_simp; first | done | with_reducible rfl)
  try simp only [List.setIfInBounds_toArray, List.set_cons_zero, List.set_cons_succ]
  refine reg_take (i := 38) (d := 89) (v := ?_) [] rfl rfl (by kernel_rfl) (by kernel_rfl) (fun _ _ _ h => h) (Or.inl ⟨by rfl, ?_⟩) (by assumption) ?_
  rotate_left
  · (intro w hSw; (try dsimp only at hSw); go_simp; first | done | with_reducible rfl)
  try simp only [List.setIfInBounds_toArray, List.set_cons_zero, List.set_cons_succ]
  refine reg_take (i := 39) (d := 90) (v := ?_) [] rfl rfl (by kernel_rfl) (by kernel_rfl) (fun _ _ _ h => h) (Or.inl ⟨by rfl, ?_⟩) (by assumption) ?_
  rotate_left
  · (intro w hSw; (try dsimp only at hSw); go_simp; first | done | with_reducible rfl)
  try simp only [List.setIfInBounds_toArray, List.set_cons_zero, List.set_cons_succ]
  refine reg_take (i := 40) (d := 91) (v := ?_) [] rfl rfl (by kernel_rfl) (by kernel_rfl) (fun _ _ _ h => h) (Or.inl ⟨by rfl, ?_⟩) (by assumption) ?_
  rotate_left
  · (intro w hSw; (try dsimp only at hSw); go_simp; first | done | with_reducible rfl)
  try simp only [List.setIfInBounds_toArray, List.set_cons_zero, List.set_cons_succ]
  refine reg_take (i := 41) (d := 92) (v := ?_) [] rfl rfl (by kernel_rfl) (by kernel_rfl) (fun _ _ _ h => h) (Or.inl ⟨by rfl, ?_⟩) (by assumption) ?_
  rotate_left
  · (intro w hSw; (try dsimp only at hSw); go_simp; first | done | with_reducible rfl)
  try simp only [List.setIfInBounds_toArray, List.set_cons_zero, List.set_cons_succ]
  refine wpAnyL_ready (rs := [42]) (by kernel_rfl) rfl ?_
  refine (AllL.cons rfl (fun K hK => ?_) AllL.nil)
  go_simp
  have HQ := Lib.hid (HQ.out.newBlk zM.cs tMsg (g := w4.heap.size) (by simp))
  refine hK.out _ _ (HC.out _ HQ.out.bel) (fun hHeld => ?_)
  try simp only [List.setIfInBounds_toArray, List.set_cons_zero, List.set_cons_succ]
  refine wpAnyL_ready (rs := [43]) (by kernel_rfl) rfl ?_
  refine (AllL.consJ rfl (by kernel_rfl) (fun K hK => ?_) AllL.nil)
  refine stepStoreR #[.int .i64 k, .int .i64 a, .int .i64 b, .int .i64 c0, .int .i64 d, .int .i64 e, .int .i64 er, .int .i64 p0, .int .i64 p1, .int .i64 p2, .int .i64 p3, .string x, .string y] (show Blk _ w4.heap.size zM.cs tMsg from HQ.out.hd) rfl infoM (msg1 ⟨k, a, b, c0, d, e, er, p0, p1, p2, p3, x, y⟩) rfl (.tmp 7) (.tmp 92) rfl rfl rfl ?_
  intro w7 hb7 hu7
  have HQ := Lib.hid (HQ.out.put hb7 hu7)
  clear hb7 hu7
  refine hK.out _ _ ?_
  try simp only [List.setIfInBounds_toArray, List.set_cons_zero, List.set_cons_succ]
  refine wpAnyL_done (by kernel_rfl) ?_ _
  have HX := Lib.hid (And.intro True.intro (HS.out.join HQ.out))
  have HS := Lib.hid HX.out.2
  clear HX HC hbm hba
  generalize w4.heap.size = gM at *
  cases hm : mayM ⟨k, a, b, c0, d, e, er, p0, p1, p2, p3, x, y⟩
  · have HM := Lib.hid hm
    have HP := Lib.hid (d_none HL.out (HR.out.trans (by rw [hm]; rfl)))
    clear hm
    go_upto_region 8 with fail
    refine wp_region_lit (l := [_, _, _]) ?_
    refine loadR (cs := Msg.cs ⟨k, a, b, c0, d, e, er, p0, p1, p2, p3, x, y⟩) _ (show Blk _ gM _ tMsg from HS.out.hd) Try.underlying35 rfl msgI rfl (.tmp 7) rfl rfl ?_
    go_upto_region 9 with (go_at_call 26; with_reducible refine (rmmay_any ⟨k, a, b, c0, d, e, er, p0, p1, p2, p3, x, y⟩ _).mono ?_; rw [HM.out]; rintro e1 w5 ⟨rfl, hB⟩; have HS5 := Lib.hid (HS.out.step hB); clear hB)
    refine wp_region_lit (l := [_, _, _]) ?_
    refine buildR zM.cs #[] rfl rfl (by kernel_rfl) ?_
    refine storeR zM.cs (show Blk _ g zM.cs tMsg from HS5.out.h5) rfl infoM (msg1 zM) rfl (.tmp 2) (.tmp 96) rfl rfl rfl ?_
    intro w9 hb9 hu9
    have HB9 := Lib.hid hb9
    have HU9 := Lib.hid (HS5.out.bel.trans (hu9.below HS5.out.size (fun k hk => by rw [hk]; exact Nat.le_of_eq HG.out)))
    clear hb9 hu9
    go_wp2_with fail
    refine ret_cell_tmp (k := 2) (u := 3) (by kernel_rfl) rfl rfl HB9.out (by kernel_rfl) infoM ?_
    exact ⟨by rw [HP.out.1, HP.out.2]; rfl, HU9.out⟩
  · have HM := Lib.hid hm
    have HP := Lib.hid (d_some HL.out (HR.out.trans (by rw [hm]; rfl)))
    clear hm
    go_upto_region 8 with fail
    refine wp_region_lit (l := [_, _, _]) ?_
    refine loadR (cs := Msg.cs ⟨k, a, b, c0, d, e, er, p0, p1, p2, p3, x, y⟩) _ (show Blk _ gM _ tMsg from HS.out.hd) Try.underlying35 rfl msgI rfl (.tmp 7) rfl rfl ?_
    go_upto_region 10 with (go_at_call 26; with_reducible refine (rmmay_any ⟨k, a, b, c0, d, e, er, p0, p1, p2, p3, x, y⟩ _).mono ?_; rw [HM.out]; rintro e1 w5 ⟨rfl, hB⟩; have HS5 := Lib.hid (HS.out.step hB); clear hB)
    refine wp_region_lit (l := [_, _, _]) ?_
    refine loadR (cs := Msg.cs ⟨k, a, b, c0, d, e, er, p0, p1, p2, p3, x, y⟩) _ (show Blk _ gM _ tMsg from HS5.out.hd) Try.underlying35 rfl msgI rfl (.tmp 7) rfl rfl ?_
    refine storeR (Msg.cs ⟨k, a, b, c0, d, e, er, p0, p1, p2, p3, x, y⟩) (show Blk _ g zM.cs tMsg from HS5.out.h5) rfl infoM (msg1 _) rfl (.tmp 2) (.tmp 97) rfl rfl rfl ?_
    intro w9 hb9 hu9
    have HB9 := Lib.hid hb9
    have HU9 := Lib.hid (HS5.out.bel.trans (hu9.below HS5.out.size (fun k hk => by rw [hk]; exact Nat.le_of_eq HG.out)))
    clear hb9 hu9
    go_wp2_with fail
    refine ret_cell_tmp (k := 2) (u := 3) (by kernel_rfl) rfl rfl HB9.out (by kernel_rfl) infoM ?_
    exact ⟨by rw [HP.out.1, HP.out.2]; rfl, HU9.out⟩
end Go.Proofs.Ytodjmeodcmbdoaa
