/- The walk of the law CodeTwice: it returns true. No condition but the row's own. -/
import Derived.Test.YtkflnldjckahnaaCodK
set_option linter.unusedVariables false
set_option linter.unusedSimpArgs false
namespace Go.Proofs.Ytkflnldjckahnaa
open Go.RowKit
set_option maxRecDepth 100000 in
set_option maxHeartbeats 4000000 in
theorem w_CodeTwice (a0 : Array Value) (w : World) (b0 : Sh.Is w (.pair (.int .i64) (.pair (.slice 8 (.int .i64)) (.pair (.slice 16 .str) .unit))) a0.toList) :
    Calls Try.prog 11 #[.agg a0] w fun e w' => e = .returned (.bool true) ∧ Below w.heap.size w w' := by
  obtain ⟨k, ns, ts, An, At, n, t, cn, ct, hx, hR, _, hi, hsz, ⟨hcn, hct⟩, hr5, hr6, hr7, hr8⟩ := is_rec b0
  obtain rfl : a0 = #[.int .i64 k, .slice An n cn, .slice At t ct] := by rw [← Array.toList_inj]; exact hx
  clear hx b0
  obtain ⟨g, hg⟩ : ∃ g, w.heap.size = g := ⟨_, rfl⟩
  have HS := Lib.hid ((Sep.nil w).newBlk #[.int .i64 k, .slice An n cn, .slice At t ct] tRec hg)
  have HR := Lib.hid (hR.below HS.out.bel)
  have HG := Lib.hid hg; have HR0 := Lib.hid hR
  have HN := Lib.hid (And.intro (show ns.length = n from hR.hn) (show ts.length = t from hR.ht))
  have HI := Lib.hid hi
  clear hR hg hi hsz hr5 hr6 hr7 hr8
  go_enter Try.func11, Try.ntmps11
  go_wp2_with fail
  rw [HG.out]
  refine (awake_any _).mono ?_
  rintro e w1 ⟨rfl, hB⟩
  have HS := Lib.hid (HS.out.step hB); have HR := Lib.hid (HR.out.below hB)
  clear hB HG
  have HC : Hid (∀ w', Blk w' g #[.int .i64 k, .slice An n cn, .slice At t ct] tRec → w'.cell? ⟨g, 0, none⟩ = some (.int .i64 k) ∧ w'.cell? ⟨g, 1, none⟩ = some (.slice An n cn) ∧ w'.cell? ⟨g, 2, none⟩ = some (.slice At t ct)) := Lib.hid (fun w' h => ⟨h.cell 0, h.cell 1, h.cell 2⟩)
  obtain ⟨y0, y1, y2⟩ := HC.out _ HS.out.hd
  go_wp2_with fail
  refine (largeB_any ⟨k, ns, ts⟩ An At n t cn ct _ HR.out).mono ?_
  rintro e w2 ⟨rfl, hw2⟩
  have hB : Below w1.heap.size w1 w2 := by rw [hw2]; exact (Below.refl _ _).alloc (Nat.le_refl _) _
  have HS := Lib.hid (HS.out.step hB); have HR := Lib.hid (HR.out.below hB)
  clear hB hw2 y0 y1 y2
  by_cases hl : 1000 < n ∨ 1000 < t
  · rw [decide_eq_true hl]
    clear hl
    go_wp2_with fail
    go_ret
    exact ⟨rfl, HS.out.bel⟩
  rw [decide_eq_false hl]
  clear hl
  obtain ⟨y0, y1, y2⟩ := HC.out _ HS.out.hd
  cases hm : mayB ⟨k, ns, ts⟩
  · have HM := Lib.hid hm
    clear hm
    go_wp2_with fail
    refine (encode_no k ns ts An At n t cn ct _ HR.out HM.out).mono ?_
    rintro e w3 ⟨rfl, hB⟩
    have HB := Lib.hid (HS.out.step hB).bel
    clear hB y0 y1 y2
    go_wp2_with fail
    go_ret
    exact ⟨rfl, HB.out⟩
  have HM := Lib.hid hm
  clear hm
  go_wp2_with fail
  refine (encode_yes k ns ts An At n t cn ct _ HR.out HM.out HI.out).mono ?_
  rintro e w3 ⟨v3, rfl, hr⟩
  obtain ⟨l, hl⟩ : ∃ l, encB ⟨k, ns, ts⟩ = l := ⟨_, rfl⟩
  have HD1 := Lib.hid (show decB l = some ⟨k, ns, ts⟩ by rw [← hl]; exact dec_enc HM.out HI.out)
  have HD2 := Lib.hid (show decB (l ++ l) = none by rw [← hl]; exact dec_more HM.out HI.out (enc_ne _))
  have hlen : l.length ≤ 1162 := by rw [← hl]; exact enc_bound HM.out HI.out
  rw [hl] at hr
  obtain ⟨m, hml⟩ : ∃ m, l.length = m := ⟨_, rfl⟩
  have hm0 : 0 < m := by rw [← hml, ← hl]; exact List.length_pos_iff.2 (enc_ne _)
  rw [hml] at hlen
  have HS := Lib.hid (HS.out.withRow hr hml); have HR := Lib.hid (HR.out.below hr.2.1)
  obtain ⟨A3, c3, rfl, _⟩ := hr.form
  have HML := Lib.hid hml
  have HB1 := Lib.hid (show (0 + m) * 1 ≤ 140737488355328 by omega); have HB2 := Lib.hid (show (0 + m + m) * 1 ≤ 140737488355328 by omega)
  clear hr hl y0 y1 y2
  rw [hml] at HS ⊢
  clear hml
  have HS2 := Lib.hid (HS.out.newRow tB 1 (g := w3.heap.size) rfl)
  go_wp2_with (first
    | (at_builtin; (refine appendO 28 tB (.int .u8 0) 1 1 (eB.fl l) m HS2.out.own HB1.out Try.underlying28 Try.infoB rfl (by decide) (by decide) (by rw [Enc.length, HML.out]; rfl) (Enc.ones _) A3 c3 (Own.rd HS2.out.h2) (Own.cap HS2.out.h2).2 (.tmp 25) (.tmp 26) rfl rfl rfl rfl ?_); intro v5 w5 ho hg hat; have HS5 := Lib.hid (HS2.out.app ho hg hat); clear ho hg hat)
    | (at_builtin; (refine appendO 28 tB (.int .u8 0) 1 1 (eB.fl l) m HS5.out.own HB2.out Try.underlying28 Try.infoB rfl (by decide) (by decide) (by rw [Enc.length, HML.out]; rfl) (Enc.ones _) A3 c3 (Own.rd HS5.out.h2) (Own.cap HS5.out.h2).2 (.tmp 27) (.tmp 28) rfl rfl rfl rfl ?_); intro v6 w6 ho hg hat; have HS6 := Lib.hid (HS5.out.app ho hg hat); clear ho hg hat))
  obtain ⟨A6, c6, rfl, _⟩ := HS6.out.own.form
  have ho := HS6.out.own
  rw [List.nil_append, ← Enc.app] at ho
  have HE := Lib.hid (decode_any A6 (l ++ l) (0 + m + m) c6 w6 (by rw [List.length_append, HML.out]; omega) ho.rd ho.cap.1 (fun e => (ho.cap.2 e).2) ho.big)
  rw [HD2.out] at HE
  clear ho
  refine HE.out.mono ?_
  rintro e w7 ⟨rfl, hB⟩
  have HS := Lib.hid ((HS6.out.step hB).tail.alloc (.cells zRec tRec))
  clear hB HE HS2 HS5 HS6
  go_upto_region 9 with fail
  generalize w7.alloc (.cells #[.int .i64 0, .slice none 0 0, .slice none 0 0] tRec) = w8 at *
  generalize w7.heap.size = g7 at *
  have HE := Lib.hid (decode_any A3 l m c3 w8 HML.out (Own.rd HS.out.hd) (Own.cap HS.out.hd).1 (fun e => ((Own.cap HS.out.hd).2 e).2) (Own.big HS.out.hd))
  rw [HD1.out] at HE
  go_wp2_with fail
  refine HE.out.mono ?_
  rintro e w9 ⟨An9, At9, cn9, ct9, rfl, hs9⟩
  rw [HN.out.1, HN.out.2] at hs9 ⊢
  have HS := Lib.hid ((HS.out.join hs9).newBlk #[.int .i64 k, .slice An9 n cn9, .slice At9 t ct9] tRec (g := w9.heap.size) rfl)
  clear hs9 HE
  go_upto_region 10 with fail
  generalize w9.alloc (.cells #[.int .i64 k, .slice An9 n cn9, .slice At9 t ct9] tRec) = W at *
  generalize w9.heap.size = g9 at *
  obtain ⟨g3, c3', he⟩ := (show Own W tB 1 (.slice A3 m c3) m (eB.fl l) from HS.out.h4).pos hm0
  cases he
  have HS := Lib.hid (show Sep w W [tOwn tB 1 (.slice (some ⟨g3, 0, none⟩) m c3) m (eB.fl l), tBlk g9 #[.int .i64 k, .slice An9 n cn9, .slice At9 t ct9] tRec, tOwn tI 1 (.slice An9 n cn9) n (eI64.fl ns), tOwn tS 1 (.slice At9 t ct9) t (eStr.fl ts), tBlk g #[.int .i64 k, .slice An n cn, .slice At t ct] tRec] from HS.out.r4)
  have hb := HR0.out.bn
  have hb2 := HR0.out.bt
  clear HR HB1 HB2 hm0
  go_wp2_with fail
  go_loopg [9, 40] m (fun gk s9 s40 wr => ∃ (j : Nat) (v9 : Value) (ys : List UInt8), v9 = s9 ∧ s40 = .int .i64 (j : Int) ∧ j ≤ m ∧ gk = m - j ∧ ys.length = m ∧ Sep w wr [tOwn tB 1 (.slice (some ⟨g3, 0, none⟩) m c3) m (eB.fl ys), tBlk g9 #[.int .i64 k, .slice An9 n cn9, .slice At9 t ct9] tRec, tOwn tI 1 (.slice An9 n cn9) n (eI64.fl ns), tOwn tS 1 (.slice At9 t ct9) t (eStr.fl ts), tBlk g #[.int .i64 k, .slice An n cn, .slice At t ct] tRec])
  case atStart => exact ⟨0, _, l, rfl, rfl, by omega, by omega, HML.out, HS.out⟩
  case round =>
  clear HS
  obtain ⟨j, v9, ys, rfl, rfl, hj, hgj, hys, hS⟩ := hrel
  have HS := Lib.hid hS; have HYS := Lib.hid hys
  clear hS hys
  by_cases hjm : j < m
  · have k1 : (j : Int) < (m : Int) := by omega
    have k0 : (0 : Int) ≤ (j : Int) := by omega
    have HX := Lib.hid (List.getElem?_eq_getElem (l := ys) (i := j) (by rw [HYS.out]; exact hjm))
    obtain ⟨x, hx⟩ : ∃ x, ys[j]'(by rw [HYS.out]; exact hjm) = x := ⟨_, rfl⟩
    have HXE := Lib.hid hx
    obtain ⟨b, o, he, u0⟩ := (Own.rd HS.out.hd).byt j x (by rw [HX.out, hx])
    simp only [Option.some.injEq, Addr.mk.injEq, and_true] at he
    obtain ⟨rfl, rfl⟩ := he
    simp only [Nat.zero_add] at u0
    have fz := Own.frozen HS.out.hd j
    have hx8 := x.toNat_lt
    obtain ⟨X, hX⟩ : ∃ X, x.toNat = X := ⟨_, rfl⟩
    rw [hX] at u0 hx8
    have hxor : bits .xor .u8 (X : Int) 255 = ((255 - X : Nat) : Int) := xor255 ⟨X, hx8⟩
    clear hx hX
    go_wp2_with fail
    go_roundg (m - (j + 1))
    case measure => omega
    case rel =>
      have hset : (eB.fl ys).set j (.int .u8 ((255 - X : Nat) : Int)) = eB.fl (ys.set j (b8 (255 - X))) := by
        have := Enc.set (E := eB) ys j 0 (by rw [HYS.out]; exact hjm) (.int .u8 ((255 - X : Nat) : Int)) (b8 (255 - X)) (by decide) (by simp [eB, b8_toNat (show 255 - X < 256 by omega)])
        simpa [eB] using this
      have ho := Own.set (show Own wr tB 1 (.slice (some ⟨g3, 0, none⟩) m c3) m (eB.fl ys) from HS.out.hd) j (.int .u8 ((255 - X : Nat) : Int))
      rw [hset] at ho
      refine ⟨j + 1, _, ys.set j (b8 (255 - X)), rfl, by push_cast; rfl, by omega, rfl, by rw [List.length_set]; exact HYS.out, ?_⟩
      exact HS.out.opc (t' := tOwn tB 1 (.slice (some ⟨g3, 0, none⟩) m c3) m (eB.fl (ys.set j (b8 (255 - X))))) (S := fun k => k = g3) ho (Upd.setCell (S := fun k => k = g3) (p := ⟨g3, j, none⟩) (Upd.refl _ wr) (.inr rfl) _) (fun k _ hk => by cases hk; rfl) (fun k hk => .inl hk)
  · have k1 : ¬ (j : Int) < (m : Int) := by omega
    have k2 : decide ((j : Int) < (m : Int)) = false := by simp; omega
    obtain ⟨y0, y1, y2⟩ := HC.out _ HS.out.h5
    have hz := (show Blk wr g9 #[.int .i64 k, .slice An9 n cn9, .slice At9 t ct9] tRec from HS.out.h2)
    have z0 := hz.cell 0; have z1 := hz.cell 1; have z2 := hz.cell 2
    simp at z0 z1 z2
    clear hz
    have HQ := Lib.hid (show RecAt wr ⟨k, ns, ts⟩ An9 At9 n t cn9 ct9 from ⟨HN.out.1, HN.out.2, Own.rd HS.out.h3, Own.rd HS.out.h4, hb, hb2⟩)
    have HR := Lib.hid (HR0.out.below HS.out.bel)
    have HSA := Lib.hid (sameB_iff.2 (rfl : (⟨k, ns, ts⟩ : Rec) = ⟨k, ns, ts⟩))
    go_wp2_with fail
    refine (same_any k k ns ns ts ts An At An9 At9 n t cn ct n t cn9 ct9 wr HR.out HQ.out).mono ?_
    rw [HSA.out]
    rintro e w10 ⟨rfl, hB⟩
    have HB := Lib.hid (HS.out.step hB).bel
    clear hB y0 y1 y2 z0 z1 z2
    go_wp2_with fail
    go_ret
    exact ⟨rfl, HB.out⟩
end Go.Proofs.Ytkflnldjckahnaa
