/- The walk of awake: it returns true. No condition. -/
import Derived.Test.YtodjmeodcmbdoaaCliQ
import Derived.Test.YtodjmeodcmbdoaaCliS
set_option linter.unusedVariables false
set_option linter.unusedSimpArgs false
namespace Go.Proofs.Ytodjmeodcmbdoaa
open Go.RowKit
abbrev tPc : TypeId := 26
def sM (e : Int) : Msg := ⟨15, 0, 0, 1, 3, -1, e, 0, 0, 0, 0, noS, noS⟩
def awC : List Cal := [⟨2, 3, { data := #[97, 98, 99, 100, 101, 102, 103, 104] }⟩, ⟨2, 99, noS⟩]
theorem sM20 : mayM (sM 20) = true := by rfl
theorem sM0 : mayM (sM 0) = true := by rfl
theorem takeX_of (c : Cst) (x : Let) : c.take x = takeX c x (dEr x.body) (dMsg x.body) ∧ c.takeB x = takeY c x (dEr x.body) (dMsg x.body) := ⟨rfl, rfl⟩
theorem aw_new : newC 5 awC = ⟨5, 0, awC, []⟩ := by
  unfold newC Cst.fwd Cst.put
  simp only
  rw [onR_may (by decide) (by rfl)]
theorem aw_take1 : (Cst.mk 5 0 awC []).take ⟨0, 5, mOut (sM 20)⟩ = ⟨5, 1, awC, []⟩ ∧ (Cst.mk 5 0 awC []).takeB ⟨0, 5, mOut (sM 20)⟩ = false := by
  obtain ⟨h1, h2⟩ := takeX_of (Cst.mk 5 0 awC []) ⟨0, 5, mOut (sM 20)⟩
  obtain ⟨d1, d2⟩ := mOut_dec sM20
  simp only at h1 h2
  rw [d1, d2] at h1 h2
  obtain ⟨k1, k2⟩ := ctake_20a (c := Cst.mk 5 0 awC []) (x := ⟨0, 5, mOut (sM 20)⟩) (e0 := 0) (m := sM 20) ⟨rfl, rfl, .inl rfl, rfl, by decide, rfl⟩ rfl rfl
  exact ⟨h1.trans k1, h2.trans k2⟩
theorem aw_take2 : (Cst.mk 5 1 awC []).take ⟨1, 5, mOut (sM 0)⟩ = ⟨5, 1, awC, [⟨0, noS⟩, ⟨4, noS⟩]⟩ ∧ (Cst.mk 5 1 awC []).takeB ⟨1, 5, mOut (sM 0)⟩ = true := by
  obtain ⟨h1, h2⟩ := takeX_of (Cst.mk 5 1 awC []) ⟨1, 5, mOut (sM 0)⟩
  obtain ⟨d1, d2⟩ := mOut_dec sM0
  simp only at h1 h2
  rw [d1, d2] at h1 h2
  obtain ⟨k1, k2⟩ := ctake_else (c := Cst.mk 5 1 awC []) (x := ⟨1, 5, mOut (sM 0)⟩) (e0 := 0) (m := sM 0) ⟨rfl, rfl, .inr rfl, rfl, by decide, rfl⟩ (by decide) (by decide) (by decide)
  refine ⟨h1.trans (k1.trans ?_), h2.trans k2⟩
  unfold Cst.fwd Cst.put
  simp only [List.nil_append]
  rw [onR_no (by decide) (by rfl), onR_done (by decide)]
  rfl
set_option maxRecDepth 100000 in
theorem say_any {w W : World} {l : List Th} {g b : Nat} {cv rv : Value} {c : Cst} (h : Sep w W (tCli tCl b cv rv c :: tBlk g #[.pointer (some ⟨b, 0, none⟩)] tPc :: l)) (hg : Good c) (fr er : Int) :
    Calls Try.prog 27 #[.int .i64 fr, .int .i64 er, .pointer (some ⟨g, 0, none⟩)] W fun e W' => e = .returned (.bool (c.takeB ⟨fr, 5, mOut (sM er)⟩)) ∧ ∃ rv', Sep w W' (tCli tCl b cv rv' (c.take ⟨fr, 5, mOut (sM er)⟩) :: tBlk g #[.pointer (some ⟨b, 0, none⟩)] tPc :: l) := by
  have hb : ∀ w, (Instr.build tMsg #[(0, .int .i64 15), (3, .int .i64 1), (6, .int .i64 er), (4, .int .i64 3), (5, .int .i64 (-1))]).run Try.prog w = .ok (.agg (sM er).cs) w := fun w => run_build w tMsg _ _ (by kernel_rfl)
  have HS := Lib.hid h; have HGD := Lib.hid hg
  have HZ := Lib.hid (show (mOut (sM er)).size ≤ 65536 by
    cases hm : mayM (sM er) with
    | true => have := (mOut_size hm).1; omega
    | false => rw [(mOut_no hm).1]; decide)
  have HX := Lib.hid (show c.takeB ⟨fr, 5, mOut (sM er)⟩ = c.takeB ⟨fr, 5, mOut (sM er)⟩ from rfl)
  clear h hg
  obtain ⟨q, hq⟩ : ∃ q, mOut (sM er) = q := ⟨_, rfl⟩
  have HQ := Lib.hid hq
  rw [hq] at HZ ⊢
  clear hq
  have hbl : ∀ w, (Instr.build tLt #[(0, .int .i64 fr), (1, .int .i64 5), (2, .string q)]).run Try.prog w = .ok (.agg (Let.mk fr 5 q).cs) w := fun w => run_build w tLt _ _ (by kernel_rfl)
  go_enter Try.func27, Try.ntmps27
  go_upto_region 2 with (go_at_call 25; refine (rmencode_any (sM er) _).mono ?_; rw [HQ.out]; rintro e1 w2 ⟨rfl, hB⟩; have HS := Lib.hid (HS.out.step hB); clear hB)
  have z0 := (show Blk w2 g _ tPc from HS.out.h2).cell 0
  simp at z0
  go_wp2_with (go_at_call 14; refine (take_sep HS.out HGD.out ⟨fr, 5, q⟩ HZ.out).mono ?_; rintro e1 w3 ⟨rfl, rv', hS⟩; have HS3 := Lib.hid hS; clear hS)
  go_ret
  exact ⟨rfl, rv', HS3.out⟩
theorem gd {pl nd : Int} {rs : List Res} (h : nd = 0 ∨ nd = 1) (hr : rs.length ≤ 2) : Good (Cst.mk pl nd awC rs) := ⟨h, (show awC.length ≤ 1000 by decide), hr⟩
set_option maxRecDepth 100000 in
set_option maxHeartbeats 2000000 in
theorem awake_any (w : World) : Calls Try.prog 8 #[] w fun e w' => e = .returned (.bool true) ∧ Below w.heap.size w w' := by
  obtain ⟨gC, hgC⟩ : ∃ g, w.heap.size = g := ⟨_, rfl⟩
  have HS := Lib.hid ((Sep.nil w).newBlk #[.int .i64 2, .int .i64 3, .string { data := #[97, 98, 99, 100, 101, 102, 103, 104] }, .int .i64 2, .int .i64 99, .string noS] tCa hgC)
  have HG := Lib.hid hgC
  have hmf : ∀ (fn : Fn) (first cap : Array Value) (w : World), (Instr.makeFunc fn first cap).run Try.prog w = .ok (.func fn first cap) w := fun _ _ _ _ => rfl
  clear hgC
  go_enter Try.func8, Try.ntmps8
  go_upto_region 2 with (go_at_call 10; rw [HG.out]; refine (cnew_yes HS.out 5 awC (some ⟨gC, 0, none⟩) 2 2 rfl (show Rd _ _ _ from (show Blk _ gC _ tCa from HS.out.hd).rd) (fun e => nomatch e) (by rfl)).mono ?_; rw [aw_new]; rintro e1 w2 ⟨b, cv, rv, rfl, hS⟩; have HS := Lib.hid ((hS.newBlk #[.pointer (some ⟨b, 0, none⟩)] tPc (g := w2.heap.size) rfl).sw); clear hS)
  generalize w2.alloc (.cells #[.pointer (some ⟨b, 0, none⟩)] tPc) = w3 at *
  generalize w2.heap.size = g at *
  have z0 := (show Blk w3 g _ tPc from HS.out.h2).cell 0
  simp at z0
  go_upto_region 4 with (go_at_call 10; refine (cnew_no (Sep.nil _) 3 [] none 0 0 rfl (by rfl)).mono ?_; rintro e1 w4 ⟨rfl, hw⟩; rw [hw]; clear hw w4)
  obtain ⟨x, hx⟩ : ∃ x, mOut (Cst.mk 5 0 awC []).msg = x := ⟨_, rfl⟩
  have HX := Lib.hid (show (Cst.mk 5 0 awC []).poke = ⟨5, 0, x⟩ ∧ (Cst.mk 5 0 awC []).pokeB = true by rw [← hx]; exact ⟨rfl, rfl⟩)
  clear hx
  go_upto_region 5 with (go_at_call 12; refine (poke_sep HS.out (gd (.inl rfl) (by decide))).mono ?_; rw [HX.out.1, HX.out.2]; unfold Let.cs; simp only; rintro e1 w4 ⟨rfl, hS⟩; have HS := Lib.hid ((hS.newBlk #[.int .i64 5, .int .i64 0, .string x] tLt (g := w4.heap.size) rfl).r3'); clear hS)
  generalize w4.alloc (.cells #[.int .i64 5, .int .i64 0, .string x] tLt) = w5 at *
  generalize w4.heap.size = gL at *
  clear z0
  go_upto_region 7 with (go_at_call 27; refine (say_any HS.out (gd (.inl rfl) (by decide)) 0 20).mono ?_; rw [aw_take1.1, aw_take1.2]; rintro e1 w6 ⟨rfl, rv6, hS⟩; have HS := Lib.hid hS; clear hS)
  have z0 := (show Blk w6 g _ tPc from HS.out.h2).cell 0
  simp at z0
  obtain ⟨y, hy⟩ : ∃ x, mOut (Cst.mk 5 1 awC []).msg = x := ⟨_, rfl⟩
  have HY := Lib.hid (show (Cst.mk 5 1 awC []).poke = ⟨5, 1, y⟩ ∧ (Cst.mk 5 1 awC []).pokeB = true by rw [← hy]; exact ⟨rfl, rfl⟩)
  clear hy
  go_upto_region 8 with (go_at_call 12; refine (poke_sep HS.out (gd (.inr rfl) (by decide))).mono ?_; rw [HY.out.1, HY.out.2]; unfold Let.cs; simp only; rintro e1 w7 ⟨rfl, hS⟩; have HS := Lib.hid ((hS.newBlk #[.int .i64 5, .int .i64 1, .string y] tLt (g := w7.heap.size) rfl).r3'); clear hS)
  generalize w7.alloc (.cells #[.int .i64 5, .int .i64 1, .string y] tLt) = w8 at *
  generalize w7.heap.size = gK at *
  clear z0
  go_upto_region 9 with (go_at_call 27; refine (say_any HS.out (gd (.inr rfl) (by decide)) 1 0).mono ?_; rw [aw_take2.1, aw_take2.2]; rintro e1 w9 ⟨rfl, rv9, hS⟩; have HS := Lib.hid hS; clear hS)
  have z0 := (show Blk w9 g _ tPc from HS.out.h2).cell 0
  simp at z0
  go_upto_region 10 with (go_at_call 18; refine (results_sep HS.out (gd (.inr rfl) (by decide))).mono ?_; rintro e1 w10 ⟨A, q, rfl, hS⟩; have HS := Lib.hid hS.sw; clear hS)
  have z0 := (show Blk w10 g _ tPc from HS.out.h3).cell 0
  simp at z0
  go_upto_region 11 with (go_at_call 17; refine (turn_sep HS.out (gd (.inr rfl) (by decide))).mono ?_; rintro e1 w11 ⟨rfl, hS⟩; have HS := Lib.hid (show Sep w w11 (tCli tCl b cv rv9 ⟨5, 0, awC, [⟨0, noS⟩, ⟨4, noS⟩]⟩ :: _) from hS); clear hS)
  have z0 := (show Blk w11 g _ tPc from HS.out.h3).cell 0
  simp at z0
  have HW := Lib.hid (show (Cst.mk 5 0 awC [⟨0, noS⟩, ⟨4, noS⟩]).poke = ⟨0, 0, noS⟩ ∧ (Cst.mk 5 0 awC [⟨0, noS⟩, ⟨4, noS⟩]).pokeB = false from ⟨rfl, rfl⟩)
  go_upto_region 12 with (go_at_call 12; refine (poke_sep HS.out (gd (.inl rfl) (by decide))).mono ?_; rw [HW.out.1, HW.out.2]; unfold Let.cs; simp only; rintro e1 w12 ⟨rfl, hS⟩; have HS := Lib.hid (hS.alloc (.cells #[.int .i64 0, .int .i64 0, .string noS] tLt)); clear hS)
  generalize w12.alloc (.cells #[.int .i64 0, .int .i64 0, .string { data := #[] }] tLt) = w13 at *
  clear z0
  have z0 := (show Blk w13 g _ tPc from HS.out.h3).cell 0
  have k1 := (show Blk w13 gK _ tLt from HS.out.h4).cell 1
  have l0 := (show Blk w13 gL _ tLt from HS.out.h5).cell 0; have l1 := (show Blk w13 gL _ tLt from HS.out.h5).cell 1
  simp at z0 k1 l0 l1
  have hO := (show Own w13 tRs 2 (.slice A 2 q) 2 (eRs.fl [⟨0, noS⟩, ⟨4, noS⟩]) from HS.out.h2)
  obtain ⟨rb, rc, hrb⟩ := hO.pos (by decide)
  cases hrb
  have r0 := hO.cell 0 _ rfl; have r2 := hO.cell 2 _ rfl
  clear hO
  have HGD := Lib.hid (gd (pl := 5) (nd := 0) (rs := [⟨0, noS⟩, ⟨4, noS⟩]) (.inl rfl) (by decide))
  go_wp2_with (first
    | (go_at_call 20; refine (left_sep HS.out HGD.out).mono ?_; rintro e1 w14 ⟨rfl, hS⟩; have HS := Lib.hid hS; clear hS; have z0 := (show Blk w14 g _ tPc from HS.out.h3).cell 0; simp at z0)
    | (go_at_call 22; refine (node_sep HS.out).mono ?_; rintro e1 w15 ⟨rfl, hw⟩; rw [hw]; clear hw w15))
  go_ret
  exact ⟨rfl, HS.out.bel⟩
end Go.Proofs.Ytodjmeodcmbdoaa
