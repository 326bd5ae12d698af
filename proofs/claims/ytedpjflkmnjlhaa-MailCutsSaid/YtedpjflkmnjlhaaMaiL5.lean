/- The walk of the law MailCuts: it returns true. No condition but the row's own. -/
import Derived.Test.YtedpjflkmnjlhaaMaiK
set_option linter.unusedVariables false
set_option linter.unusedSimpArgs false
namespace Go.Proofs.Ytedpjflkmnjlhaa
open Go.RowKit
set_option maxRecDepth 100000 in
set_option maxHeartbeats 2000000 in
theorem w_MailCuts (a0 : Array Value) (a1 : Int) (a2 : ByteArray) (w : World) (b0 : Sh.Is w (.pair (.int .i64) (.pair (.int .i64) (.pair (.int .i64) (.pair (.int .i64) (.pair (.int .i64) (.pair (.int .i64) (.pair (.int .i64) (.pair (.pair (.int .i64) (.pair (.int .i64) (.pair (.int .i64) (.pair (.int .i64) .unit)))) (.pair .str (.pair .str .unit)))))))))) a0.toList) (b1 : 0 ≤ a1 ∧ a1 ≤ 255) (b2 : a2.size ≤ 140737488351232) :
    Calls Try.prog 7 #[.agg a0, .int .u8 a1, .string a2] w fun e w' => e = .returned (.bool true) ∧ Below w.heap.size w w' := by
  obtain ⟨N, rfl⟩ : ∃ N : Nat, a1 = N := ⟨a1.toNat, by omega⟩
  obtain ⟨_, b1⟩ := b1
  clear b2
  obtain ⟨m, hm, _, _⟩ := is_msg b0
  obtain rfl := agg_msg hm
  obtain ⟨k, a, b, c, d, e, er, p0, p1, p2, p3, s, t⟩ := m
  obtain ⟨g, hg⟩ : ∃ g, w.heap.size = g := ⟨_, rfl⟩
  have HS := Lib.hid ((Sep.nil w).newBlk #[.int .i64 k, .int .i64 a, .int .i64 b, .int .i64 c, .int .i64 d, .int .i64 e, .int .i64 er, .int .i64 p0, .int .i64 p1, .int .i64 p2, .int .i64 p3, .string s, .string t] tMsg hg)
  have HG := Lib.hid hg
  clear hg hm b0
  unfold Msg.cs
  simp only
  go_enter Try.func7, Try.ntmps7
  go_upto_region 1 with fail
  simp only [HG.out]
  generalize w.alloc (.cells #[.int .i64 k, .int .i64 a, .int .i64 b, .int .i64 c, .int .i64 d, .int .i64 e, .int .i64 er, .int .i64 p0, .int .i64 p1, .int .i64 p2, .int .i64 p3, .string s, .string t] tMsg) = w1 at *
  go_upto_region 3 with (go_at_call 8; refine (awake_any _).mono ?_; rintro e1 w2 ⟨rfl, hB⟩; have HS := Lib.hid (HS.out.step hB); clear hB)
  have hz := (show Blk w2 g #[.int .i64 k, .int .i64 a, .int .i64 b, .int .i64 c, .int .i64 d, .int .i64 e, .int .i64 er, .int .i64 p0, .int .i64 p1, .int .i64 p2, .int .i64 p3, .string s, .string t] tMsg from HS.out.hd)
  have y0 := hz.cell 0; have y1 := hz.cell 1; have y2 := hz.cell 2; have y3 := hz.cell 3; have y4 := hz.cell 4; have y5 := hz.cell 5; have y6 := hz.cell 6; have y7 := hz.cell 7; have y8 := hz.cell 8; have y9 := hz.cell 9; have y10 := hz.cell 10; have y11 := hz.cell 11; have y12 := hz.cell 12
  simp at y0 y1 y2 y3 y4 y5 y6 y7 y8 y9 y10 y11 y12
  clear hz
  cases hm : mayM ⟨k, a, b, c, d, e, er, p0, p1, p2, p3, s, t⟩
  · obtain ⟨k1, k2⟩ := mOut_no hm
    clear hm
    go_wp2_with (go_at_call 9; refine (mencode_any ⟨k, a, b, c, d, e, er, p0, p1, p2, p3, s, t⟩ _).mono ?_; rw [k1, k2]; rintro e1 w3 ⟨rfl, hB⟩; have HS := Lib.hid (HS.out.step hB); clear hB)
    go_ret
    exact ⟨rfl, HS.out.bel⟩
  obtain ⟨k1, k2⟩ := mOut_dec hm
  obtain ⟨k3, k4⟩ := mOut_size hm
  have k5 := (mOut_yes hm).2
  have HCUT := Lib.hid (fun i => mOut_cut hm (i := i))
  have HMORE := Lib.hid (fun s => mOut_more hm (s := s))
  obtain ⟨x, hx⟩ : ∃ x, mOut ⟨k, a, b, c, d, e, er, p0, p1, p2, p3, s, t⟩ = x := ⟨_, rfl⟩
  have HX := Lib.hid hx
  rw [hx] at k1 k2 k3 k4 HCUT HMORE
  have HK := Lib.hid (And.intro k1 k2); have HK5 := Lib.hid k5
  clear hm hx k1 k2 k5
  by_cases h4096 : 4096 < a2.size
  · have e1 : (4096 : Int) < (a2.size : Int) := by omega
    go_wp2_with (go_at_call 9; refine (mencode_any ⟨k, a, b, c, d, e, er, p0, p1, p2, p3, s, t⟩ _).mono ?_; rw [HX.out, HK5.out]; rintro e1 w3 ⟨rfl, hB⟩; have HS := Lib.hid (HS.out.step hB); clear hB)
    go_ret
    exact ⟨rfl, HS.out.bel⟩
  have e1 : ¬ (4096 : Int) < (a2.size : Int) := by omega
  have e2 : decide ((4096 : Int) < (a2.size : Int)) = false := by simp; omega
  go_upto_region 6 with (go_at_call 9; refine (mencode_any ⟨k, a, b, c, d, e, er, p0, p1, p2, p3, s, t⟩ _).mono ?_; rw [HX.out, HK5.out]; rintro e1 w3 ⟨rfl, hB⟩; have HS := Lib.hid (HS.out.step hB); clear hB)
  clear y0 y1 y2 y3 y4 y5 y6 y7 y8 y9 y10 y11 y12 e1 e2
  obtain ⟨m, hm⟩ : ∃ m, x.size = m := ⟨_, rfl⟩
  have HXM := Lib.hid hm
  obtain ⟨i, hi⟩ : ∃ i, N % m = i := ⟨_, rfl⟩
  rw [hm] at k3 k4
  have him : i < m := by rw [← hi]; exact Nat.mod_lt _ k4
  have HC2 := Lib.hid (HCUT.out i (by rw [hm]; exact him))
  have HI := Lib.hid (show (x.extract 0 i).size ≤ 65536 by
    have h1 : (x.extract 0 i).size ≤ x.size := by rw [ByteArray.size_extract]; omega
    omega)
  have hmod : ((N : Int).tmod (x.size : Int)) = (i : Int) := by rw [hm, ← hi]; rw [Int.tmod_eq_emod_of_nonneg (by omega)]; rfl
  have hmod2 : ((N : Int) % (x.size : Int)) = (i : Int) := by rw [hm, ← hi]; rfl
  have hz : ((x.size : Int) == 0) = false := by rw [beq_eq_false_iff_ne]; omega
  have hz2 : ¬ ((x.size : Int) = 0) := by omega
  have hz3 : ¬ (x.size = 0) := by omega
  have q1 : (i : Int) ≤ (x.size : Int) := by omega
  have q3 : i ≤ x.size := by omega
  have q0 : (0 : Int) ≤ (i : Int) := by omega
  have q2 : IntKind.i64.wrap (i : Int) = (i : Int) := IntWalk.i64_in _ (by omega)
  clear hm hi him k4
  go_upto_region 7 with (go_at_call 13; refine (mdecode_any (x.extract 0 i) _ HI.out).mono ?_; rw [HC2.out.1, HC2.out.2]; unfold zM Msg.cs; simp only; rintro e1 v4 ⟨rfl, hB⟩; have HS := Lib.hid ((HS.out.step hB).alloc (.cells #[.int .i64 0, .int .i64 0, .int .i64 0, .int .i64 0, .int .i64 0, .int .i64 0, .int .i64 0, .int .i64 0, .int .i64 0, .int .i64 0, .int .i64 0, .string { data := #[] }, .string { data := #[] }] tMsg)); clear hB)
  clear hmod hmod2 hz hz2 hz3 q0 q1 q2 q3
  generalize v4.alloc (.cells #[.int .i64 0, .int .i64 0, .int .i64 0, .int .i64 0, .int .i64 0, .int .i64 0, .int .i64 0, .int .i64 0, .int .i64 0, .int .i64 0, .int .i64 0, .string { data := #[] }, .string { data := #[] }] tMsg) = v5 at *
  by_cases h0 : a2.size = 0
  · obtain rfl := str_empty h0
    have HJ := Lib.hid (show x ++ { data := #[] } = x by rw [show ({ data := #[] } : ByteArray) = ByteArray.empty from rfl, ByteArray.append_empty])
    have HXZ := Lib.hid (show x.size ≤ 65536 by rw [HXM.out]; omega)
    obtain ⟨u, hu⟩ : ∃ u, dMsg x = u := ⟨_, rfl⟩
    have HU := Lib.hid hu
    obtain ⟨kq, aq, bq, cq, dq, eq, erq, p0q, p1q, p2q, p3q, sq, tq⟩ := u
    have HE := Lib.hid (show dEr x = 0 from HK.out.2)
    have f0 : ¬ 9223372036854775807 < x.size := by rw [HXM.out]; omega
    have f0' : ¬ 9223372036854775807 < x.size + ByteArray.size { data := #[] } := by rw [HXM.out, h0]; omega
    clear h0 h4096 hu
    go_wp2_with (go_at_call 13; (first | rw [HJ.out] | skip); refine (mdecode_any x _ HXZ.out).mono ?_; rw [HU.out, HE.out]; unfold Msg.cs; simp only; rintro e1 v6 ⟨rfl, hB⟩; have HS := Lib.hid ((HS.out.step hB).alloc (.cells #[.int .i64 kq, .int .i64 aq, .int .i64 bq, .int .i64 cq, .int .i64 dq, .int .i64 eq, .int .i64 erq, .int .i64 p0q, .int .i64 p1q, .int .i64 p2q, .int .i64 p3q, .string sq, .string tq] tMsg)); clear hB)
    go_ret
    exact ⟨rfl, HS.out.bel⟩
  · have HM2 := Lib.hid (HMORE.out a2 h0)
    have HXZ := Lib.hid (show (x ++ a2).size ≤ 65536 by simp [HXM.out]; omega)
    have f1 : ¬ (a2 = { data := #[] }) := by rintro rfl; exact h0 rfl
    have f2 : (a2.toList == ByteArray.toList { data := #[] }) = false := str_ne f1
    have f3 : decide (a2.size = 0) = false := by simp [h0]
    have f4 : ¬ (a2.toList = ByteArray.toList { data := #[] }) := fun e => by rw [e] at f2; simp at f2
    have f0 : ¬ 9223372036854775807 < x.size + a2.size := by rw [HXM.out]; omega
    clear h4096
    go_wp2_with (go_at_call 13; refine (mdecode_any (x ++ a2) _ HXZ.out).mono ?_; rw [HM2.out.1, HM2.out.2]; unfold zM Msg.cs; simp only; rintro e1 v6 ⟨rfl, hB⟩; have HS := Lib.hid ((HS.out.step hB).alloc (.cells #[.int .i64 0, .int .i64 0, .int .i64 0, .int .i64 0, .int .i64 0, .int .i64 0, .int .i64 0, .int .i64 0, .int .i64 0, .int .i64 0, .int .i64 0, .string { data := #[] }, .string { data := #[] }] tMsg)); clear hB)
    go_ret
    exact ⟨by simp_all, HS.out.bel⟩
end Go.Proofs.Ytedpjflkmnjlhaa
