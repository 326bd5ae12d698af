/- The walks of package code and of the document's: a record's bytes, the rest. Conditions: numbers of 64 bits. -/
import Derived.Test.YtodjmeodcmbdoaaCodE
set_option linter.unusedVariables false
set_option linter.unusedSimpArgs false
namespace Go.Proofs.Ytodjmeodcmbdoaa
open Go.RowKit
theorem encode_no (kind : Int) (ns : List Int) (ts : List ByteArray) (An At : Option Addr) (n t cn ct : Nat) (w : World) (h : RecAt w ⟨kind, ns, ts⟩ An At n t cn ct) (hm : mayB ⟨kind, ns, ts⟩ = false) :
    Calls Try.prog 40 #[recV kind An At n t cn ct] w fun e w' => e = .returned (.tuple #[.slice none 0 0, .int .i64 4]) ∧ Below w.heap.size w w' := by
  have HB := Lib.hid (show Below w.heap.size w (w.alloc (.cells #[.int .i64 kind, .slice An n cn, .slice At t ct] 72)) from (Below.refl _ _).alloc (Nat.le_refl _) _)
  have HR := Lib.hid (h.below HB.out)
  have HM := Lib.hid hm
  clear h hm
  go_enter Try.func40, Try.ntmps40
  go_wp2_with (go_at_call 47; refine (may_any ⟨kind, ns, ts⟩ An At n t cn ct _ HR.out).mono ?_; rw [HM.out]; rintro e w1 ⟨rfl, hB1⟩; have HB1 := Lib.hid hB1; clear hB1)
  go_ret2
  exact ⟨rfl, HB.out.trans (HB1.out.mono HB.out.size)⟩
theorem rencode_no (kind : Int) (ns : List Int) (ts : List ByteArray) (An At : Option Addr) (n t cn ct : Nat) (w : World) (h : RecAt w ⟨kind, ns, ts⟩ An At n t cn ct) (hm : mayB ⟨kind, ns, ts⟩ = false) :
    Calls Try.prog 39 #[recV kind An At n t cn ct] w fun e w' => e = .returned (.tuple #[.slice none 0 0, .int .i64 4]) ∧ Below w.heap.size w w' := by
  have HB := Lib.hid (show Below w.heap.size w (w.alloc (.cells #[.int .i64 kind, .slice An n cn, .slice At t ct] 72)) from (Below.refl _ _).alloc (Nat.le_refl _) _)
  have HR := Lib.hid (h.below HB.out)
  have HM := Lib.hid hm
  clear h hm
  go_enter Try.func39, Try.ntmps39
  go_wp2_with (go_at_call 45; refine (rmay_any ⟨kind, ns, ts⟩ An At n t cn ct _ HR.out).mono ?_; rw [HM.out]; rintro e w1 ⟨rfl, hB1⟩; have HB1 := Lib.hid hB1; clear hB1)
  go_ret2
  exact ⟨rfl, HB.out.trans (HB1.out.mono HB.out.size)⟩
set_option maxRecDepth 100000 in
set_option maxHeartbeats 4000000 in
theorem rencode_yes (kind : Int) (ns : List Int) (ts : List ByteArray) (An At : Option Addr) (n t cn ct : Nat) (w : World) (h : RecAt w ⟨kind, ns, ts⟩ An At n t cn ct) (hm : mayB ⟨kind, ns, ts⟩ = true) (hi : ∀ x ∈ ns, i64 x) :
    Calls Try.prog 39 #[recV kind An At n t cn ct] w fun e w' => ∃ v, e = .returned (.tuple #[v, .int .i64 0]) ∧ NewRow w w' v (encB ⟨kind, ns, ts⟩) := by
  obtain ⟨g, hg⟩ : ∃ g, w.heap.size = g := ⟨_, rfl⟩
  have HS := Lib.hid ((Sep.nil w).newBlk #[.int .i64 kind, .slice An n cn, .slice At t ct] 72 hg)
  have HRW := Lib.hid h
  have HM := Lib.hid hm; have HI := Lib.hid hi
  obtain ⟨⟨m1, m2, m3, m4⟩, m5⟩ := (mayB_iff _).1 hm
  simp only at m1 m2 m3 m4 m5
  have HT5 := Lib.hid m5
  have HN := Lib.hid (show ns.length = n from h.hn); have HTT := Lib.hid (show ts.length = t from h.ht)
  have HE := Lib.hid (encB_hd ⟨kind, ns, ts⟩)
  simp only at HE
  have n16 : n ≤ 16 := by rw [← HN.out]; exact m3
  have t4 : t ≤ 4 := by rw [← HTT.out]; exact m4
  obtain ⟨H2, hH2⟩ : ∃ l, hd2 ⟨kind, ns, ts⟩ = l := ⟨_, rfl⟩
  have HL2 := Lib.hid (show H2.length = 2 by rw [← hH2]; rfl)
  obtain ⟨hb, hhb⟩ : ∃ h : Nat, (if n = 16 then 240 + t else n + 16 * t) = h := ⟨_, rfl⟩
  have hb256 : hb < 256 := by rw [← hhb]; split <;> omega
  have HH := Lib.hid (show [Value.int .u8 kind, Value.int .u8 (hb : Int)] = eB.fl H2 by
    rw [← hH2]
    unfold hd2 headB
    simp only
    rw [HN.out, HTT.out, hhb]
    simp [eB, Enc.fl, b8_toNat (show kind.toNat < 256 by omega), b8_toNat hb256]
    omega)
  rw [hH2] at HE
  have HLN := Lib.hid (fun k : Nat => show ((ns.take k).flatMap numB).length ≤ 160 by
    refine Nat.le_trans (fm_len numB 10 _ (fun x hx => numB_len (HI.out x (List.mem_of_mem_take hx)))) ?_
    rw [List.length_take, HN.out]; omega)
  have HLT := Lib.hid (fun k : Nat => show ((ts.take k).flatMap txtB).length ≤ 1000 by
    refine Nat.le_trans (fm_len txtB 201 _ (fun x hx => by rw [txt_len]; have := HT5.out x (List.mem_of_mem_take hx); omega)) ?_
    rw [List.length_take, HTT.out]; omega)
  clear h hm hi m3 m4 m5 hH2
  have HWG := Lib.hid hg
  clear hg
  have fin : ∀ (W : World) (a : Act), True := fun _ _ => trivial
  by_cases c16 : n = 16
  all_goals
    first
      | (have hb1 : (240 : Int) + t = (hb : Int) := by rw [if_pos c16] at hhb; omega
         have c2 : ((n : Int) == 16) = true := by simp; omega)
      | (have hb1 : (n : Int) + 16 * t = (hb : Int) := by rw [if_neg c16] at hhb; omega
         have c2 : ((n : Int) == 16) = false := by simp; omega)
    clear hhb fin c16
    go_enter Try.func39, Try.ntmps39
    go_upto_region 3 with (go_at_call 45; refine (rmay_any ⟨kind, ns, ts⟩ An At n t cn ct _ (HRW.out.below ((Below.refl _ _).alloc (Nat.le_refl _) _))).mono ?_; rw [HM.out]; rintro e w1 ⟨rfl, hB1⟩; have HS1 := Lib.hid (HS.out.step hB1); clear hB1)
    rw [HWG.out]
    have hgg : Blk w1 g #[.int .i64 kind, .slice An n cn, .slice At t ct] 72 := HS1.out.hd
    have y0 := hgg.cell 0; have y1 := hgg.cell 1; have y2 := hgg.cell 2
    simp at y0 y1 y2
    clear hgg HS
    go_upto_region 7 with fail
    have HS2 := Lib.hid (HS1.out.madeRow #[.int .u8 kind, .int .u8 (hb : Int)] H2 2 HL2.out (by decide) HH.out (g := w1.heap.size) rfl)
    generalize w1.alloc (.cells #[.int .u8 kind, .int .u8 (hb : Int)] tB) = w2 at *
    generalize (Value.slice (some ⟨w1.heap.size, 0, none⟩) 2 2) = v2 at *
    clear HS1 y0 y1 y2 hb1 c2
    go_wp2_with fail
    go_loopg [5, 6] n (fun gk s4 s26 wr => ∃ (k : Nat) (v : Value), v = s4 ∧ s26 = .int .i64 (k : Int) ∧ k ≤ n ∧ gk = n - k ∧ Sep w wr [tOwn tB 1 v (H2 ++ (ns.take k).flatMap numB).length (eB.fl (H2 ++ (ns.take k).flatMap numB)), tBlk g #[.int .i64 kind, .slice An n cn, .slice At t ct] 72])
    case atStart => exact ⟨0, _, rfl, rfl, by omega, by omega, by rw [List.take_zero, List.flatMap_nil, List.append_nil, HL2.out]; exact HS2.out⟩
    case round =>
    clear HS2
    obtain ⟨k, v, rfl, rfl, hk, hgk, hs⟩ := hrel
    obtain ⟨A4, c4, rfl, _⟩ := hs.own.form
    have y1 := (show Blk wr g #[.int .i64 kind, .slice An n cn, .slice At t ct] 72 from hs.h2).cell 1
    have y2 := (show Blk wr g #[.int .i64 kind, .slice An n cn, .slice At t ct] 72 from hs.h2).cell 2
    simp at y1 y2
    have HS := Lib.hid hs
    clear hs
    by_cases hkn : k < n
    · have k1 : (k : Int) < (n : Int) := by omega
      have k0 : (0 : Int) ≤ (k : Int) := by omega
      have HX := Lib.hid (List.getElem?_eq_getElem (l := ns) (i := k) (by rw [HN.out]; exact hkn))
      have HXI := Lib.hid (HI.out _ (List.mem_of_getElem? HX.out))
      generalize ns[k]'(by rw [HN.out]; exact hkn) = x at *
      obtain ⟨q, o, rfl, u0⟩ := (HRW.out.below HS.out.bel).rn.num k x HX.out
      have HST := Lib.hid (fm_step numB ns k x HX.out)
      obtain ⟨Y, hY⟩ : ∃ Y, H2 ++ (ns.take k).flatMap numB = Y := ⟨_, rfl⟩
      have HYL := Lib.hid (show Y.length ≤ 162 by rw [← hY, List.length_append, HL2.out]; have := HLN.out k; omega)
      have HY := Lib.hid hY
      rw [hY] at HS ⊢
      obtain ⟨m, hm⟩ : ∃ m, (numB x).length = m := ⟨_, rfl⟩
      have HML := Lib.hid hm
      have HMB := Lib.hid (show (Y.length + m) * 1 ≤ 140737488355328 by have := numB_len HXI.out; have := HYL.out; omega)
      clear hY hm
      go_wp2_with fail
      refine (rnumber_any x wr HXI.out).mono ?_
      rintro e w3 ⟨v3, rfl, hr3⟩
      have hs3 := (HS.out.withRow hr3 HML.out).sw
      obtain ⟨A3, c3, rfl, _, hA3, hR3⟩ := hr3.1.form
      rw [HML.out] at hs3 hA3 ⊢
      have HS3 := Lib.hid hs3
      have HA3 := Lib.hid hA3; have HR3 := Lib.hid hR3
      clear hs3 hr3 hA3 hR3 u0 y1 y2
      go_wp2_with (at_builtin; go_loud (refine appendO 75 tB (.int .u8 0) 1 1 (eB.fl (numB x)) m HS3.out.own HMB.out Try.underlying75 Try.infoB rfl (by decide) (by decide) (by rw [Enc.length, HML.out]; rfl) (Enc.ones _) A3 c3 HR3.out HA3.out (.tmp 40) (.tmp 46) rfl rfl rfl rfl ?_); intro v5 w5 ho hg hat; have HS5 := Lib.hid (HS3.out.app ho hg hat); clear ho hg hat)
      go_roundg (n - (k + 1))
      case measure => omega
      case rel =>
        refine ⟨k + 1, _, rfl, by push_cast; rfl, by omega, rfl, ?_⟩
        rw [HST.out, ← List.append_assoc, HY.out, List.length_append, HML.out, Enc.app]
        exact HS5.out.d2
    · have k1 : ¬ (k : Int) < (n : Int) := by omega
      have k2 : decide ((k : Int) < (n : Int)) = false := by simp; omega
      have hs := HS.out
      rw [show ns.take k = ns from List.take_of_length_le (by rw [HN.out]; omega)] at hs
      obtain ⟨Y, hY⟩ : ∃ Y, H2 ++ ns.flatMap numB = Y := ⟨_, rfl⟩
      have HYL := Lib.hid (show Y.length ≤ 162 by rw [← hY, List.length_append, HL2.out]; have := HLN.out n; rw [show ns.take n = ns from List.take_of_length_le (by rw [HN.out]; omega)] at this; omega)
      rw [hY] at hs
      have HEN := Lib.hid (show encB ⟨kind, ns, ts⟩ = Y ++ ts.flatMap txtB by rw [HE.out, hY])
      rw [show ns.take k = ns from List.take_of_length_le (by rw [HN.out]; omega), hY]
      have HS2 := Lib.hid hs
      clear hs HS hY
      go_wp2_with fail
      clear y1 y2
      go_loopg [5, 7] t (fun gk s4 s38 wr => ∃ (k : Nat) (v : Value), v = s4 ∧ s38 = .int .i64 (k : Int) ∧ k ≤ t ∧ gk = t - k ∧ Sep w wr [tOwn tB 1 v (Y ++ (ts.take k).flatMap txtB).length (eB.fl (Y ++ (ts.take k).flatMap txtB)), tBlk g #[.int .i64 kind, .slice An n cn, .slice At t ct] 72])
      case atStart => exact ⟨0, _, rfl, rfl, by omega, by omega, by rw [List.take_zero, List.flatMap_nil, List.append_nil]; exact HS2.out⟩
      case round =>
      clear HS2
      obtain ⟨j, v, rfl, rfl, hj, hgj, hs⟩ := hrel
      obtain ⟨A5, c5, rfl, _⟩ := hs.own.form
      have y2 := (show Blk wr g #[.int .i64 kind, .slice An n cn, .slice At t ct] 72 from hs.h2).cell 2
      simp at y2
      have HS := Lib.hid hs
      clear hs
      by_cases hjt : j < t
      · have j1 : (j : Int) < (t : Int) := by omega
        have j0 : (0 : Int) ≤ (j : Int) := by omega
        have HX := Lib.hid (List.getElem?_eq_getElem (l := ts) (i := j) (by rw [HTT.out]; exact hjt))
        have hx2 := HT5.out _ (List.mem_of_getElem? HX.out)
        generalize ts[j]'(by rw [HTT.out]; exact hjt) = x at *
        obtain ⟨q, o, he, u0⟩ := (HRW.out.below HS.out.bel).rt.str j x HX.out
        subst he
        have HST := Lib.hid (fm_step txtB ts j x HX.out)
        obtain ⟨Z, hZ⟩ : ∃ Z, Y ++ (ts.take j).flatMap txtB = Z := ⟨_, rfl⟩
        have HZL := Lib.hid (show Z.length ≤ 1162 by rw [← hZ, List.length_append]; have := HLT.out j; have := HYL.out; omega)
        have HZ := Lib.hid hZ
        rw [hZ] at HS ⊢
        have x1 : (x.size : Int) ≤ 255 := by omega
        have HE1 := Lib.hid (show [Value.int .u8 (x.size : Int)] = eB.fl [b8 x.size] by simp [eB, Enc.fl, b8_toNat (show x.size < 256 by omega)])
        have HB1 := Lib.hid (show (Z.length + 1) * 1 ≤ 140737488355328 by have := HZL.out; omega)
        have HB2 := Lib.hid (show Z.length + 1 + x.size ≤ 140737488355328 by have := HZL.out; omega)
        have HTX := Lib.hid (show (txtB x).length = 1 + x.size from txt_len x)
        clear hZ hx2
        go_wp2_with (first
          | (at_builtin; refine app1O 75 tB (.int .u8 0) 1 1 [.int .u8 (x.size : Int)] HS.out.own HB1.out Try.underlying75 Try.infoB rfl (by decide) (by decide) rfl (by intro u hu; simp only [List.mem_singleton] at hu; subst hu; rfl) (.tmp 55) (.tmp 63) rfl rfl rfl rfl ?_; intro v6 w6 ho hg hat; have hs6 := HS.out.appG ho hg hat; have y2' := (show Blk w6 g #[.int .i64 kind, .slice An n cn, .slice (some ⟨q, o, none⟩) t ct] 72 from hs6.h2).cell 2; obtain ⟨q', o', he', u1⟩ := (HRW.out.below hs6.bel).rt.str j x HX.out; simp only [Option.some.injEq, Addr.mk.injEq, and_true] at he'; rw [← he'.1, ← he'.2] at u1; simp at y2'; have HS6 := Lib.hid hs6; clear ho hg hat hs6 he' y2 u0)
          | (at_builtin; refine appendS 75 9 tB HS6.out.own x HB2.out Try.underlying75 Try.underlying9 Try.infoB (.tmp 65) (.tmp 70) rfl rfl rfl rfl ?_; intro v7 w7 ho hg hat; have HS7 := Lib.hid (HS6.out.app ho hg hat); clear ho hg hat))
        go_roundg (t - (j + 1))
        case measure => omega
        case rel =>
          refine ⟨j + 1, _, rfl, by push_cast; rfl, by omega, rfl, ?_⟩
          have h := HS7.out
          rw [HE1.out, strCells_fl, ← Enc.app, ← Enc.app, List.append_assoc, show [b8 x.size] ++ x.data.toList = txtB x from rfl] at h
          rw [HST.out, ← List.append_assoc, HZ.out, List.length_append, HTX.out, ← Nat.add_assoc]
          exact h
      · have j1 : ¬ (j : Int) < (t : Int) := by omega
        have j2 : decide ((j : Int) < (t : Int)) = false := by simp; omega
        have hs := HS.out
        rw [show ts.take j = ts from List.take_of_length_le (by rw [HTT.out]; omega), ← HEN.out] at hs ⊢
        have HS2 := Lib.hid (hs.newRowOf rfl)
        generalize (encB ⟨kind, ns, ts⟩).length = m at *
        clear hs HS
        go_wp2_with fail
        go_ret2
        exact ⟨_, rfl, HS2.out⟩
end Go.Proofs.Ytodjmeodcmbdoaa
