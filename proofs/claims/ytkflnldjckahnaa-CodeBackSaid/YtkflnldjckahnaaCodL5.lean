/- The walk of the law CodeBack: it returns true. No condition but the row's own. -/
import Derived.Test.YtkflnldjckahnaaCodB
set_option linter.unusedVariables false
set_option linter.unusedSimpArgs false
namespace Go.Proofs.Ytkflnldjckahnaa
open Go.RowKit
set_option maxRecDepth 100000 in
set_option maxHeartbeats 4000000 in
theorem w_CodeBack (a0 : Array Value) (a1 : Option Addr) (n1 c1 : Nat) (w : World) (b0 : Sh.Is w (.pair (.int .i64) (.pair (.slice 8 (.int .i64)) (.pair (.slice 16 .str) .unit))) a0.toList) (b1 : Sh.Is w (.slice 1 (.int .u8)) [.slice a1 n1 c1]) :
    Calls Try.prog 5 #[.agg a0, .slice a1 n1 c1] w fun e w' => e = .returned (.bool true) ∧ Below w.heap.size w w' := by
  obtain ⟨l1, hl1, hn1, hA1, hR1, hc1⟩ := is_bytes b1
  have HL1 := Lib.hid hl1; have HA1 := Lib.hid hA1; have HR1 := Lib.hid hR1
  clear hl1 hA1 hR1 b1
  obtain ⟨k, ns, ts, An, At, n, t, cn, ct, hx, hR, _, hi, hsz, ⟨hcn, hct⟩, hr5, hr6, hr7, hr8⟩ := is_rec b0
  obtain rfl : a0 = #[.int .i64 k, .slice An n cn, .slice At t ct] := by rw [← Array.toList_inj]; exact hx
  clear hx b0
  obtain ⟨g, hg⟩ : ∃ g, w.heap.size = g := ⟨_, rfl⟩
  have HS := Lib.hid ((Sep.nil w).newBlk #[.int .i64 k, .slice An n cn, .slice At t ct] tRec hg)
  have HR := Lib.hid (hR.below HS.out.bel)
  have HG := Lib.hid hg; have HR0 := Lib.hid hR
  have HN := Lib.hid (And.intro (show ns.length = n from hR.hn) (show ts.length = t from hR.ht))
  have HI := Lib.hid hi
  clear hR hg hi hsz hr5 hr6 hr7 hr8
  go_enter Try.func5, Try.ntmps5
  go_wp2_with fail
  rw [HG.out]
  refine (awake_any _).mono ?_
  rintro e w1 ⟨rfl, hB⟩
  have HS := Lib.hid (HS.out.step hB); have HR := Lib.hid (HR.out.below hB)
  clear hB HG
  have HC : Hid (∀ w', Blk w' g #[.int .i64 k, .slice An n cn, .slice At t ct] tRec → w'.cell? ⟨g, 0, none⟩ = some (.int .i64 k) ∧ w'.cell? ⟨g, 1, none⟩ = some (.slice An n cn) ∧ w'.cell? ⟨g, 2, none⟩ = some (.slice At t ct)) := Lib.hid (fun w' h => ⟨h.cell 0, h.cell 1, h.cell 2⟩)
  obtain ⟨y0, y1, y2⟩ := HC.out _ HS.out.hd
  go_wp2_with fail
  refine (largeB_any ⟨k, ns, ts⟩ An At n t cn ct _ HR.out).mono ?_
  rintro e w2 ⟨rfl, hw2⟩
  have hB : Below w1.heap.size w1 w2 := by rw [hw2]; exact (Below.refl _ _).alloc (Nat.le_refl _) _
  have HS := Lib.hid (HS.out.step hB); have HR := Lib.hid (HR.out.below hB)
  clear hB hw2 y0 y1 y2
  by_cases hl : 1000 < n ∨ 1000 < t
  · rw [decide_eq_true hl]
    clear hl
    go_wp2_with fail
    go_ret
    exact ⟨rfl, HS.out.bel⟩
  rw [decide_eq_false hl]
  clear hl
  obtain ⟨y0, y1, y2⟩ := HC.out _ HS.out.hd
  by_cases h65 : 65536 < n1
  · have e1 : (65536 : Int) < (n1 : Int) := by omega
    go_wp2_with fail
    go_ret
    exact ⟨rfl, HS.out.bel⟩
  have e1 : ¬ (65536 : Int) < (n1 : Int) := by omega
  have e2 : decide ((65536 : Int) < (n1 : Int)) = false := by simp; omega
  have hb := HR0.out.bn
  have hb2 := HR0.out.bt
  cases hm : mayB ⟨k, ns, ts⟩
  case' false =>
    have HM := Lib.hid hm
    clear hm
    go_wp2_with fail
    refine (encode_no k ns ts An At n t cn ct _ HR.out HM.out).mono ?_
    rintro e w3 ⟨rfl, hB⟩
    have HS := Lib.hid (HS.out.step hB)
    clear hB y0 y1 y2 HR HM
    go_upto_region 10 with fail
    generalize w3 = wz at *
  case' true =>
    have HM := Lib.hid hm
    clear hm
    go_wp2_with fail
    refine (encode_yes k ns ts An At n t cn ct _ HR.out HM.out HI.out).mono ?_
    rintro e w3 ⟨v3, rfl, hr⟩
    obtain ⟨l, hl⟩ : ∃ l, encB ⟨k, ns, ts⟩ = l := ⟨_, rfl⟩
    have HD1 := Lib.hid (show decB l = some ⟨k, ns, ts⟩ by rw [← hl]; exact dec_enc HM.out HI.out)
    rw [hl] at hr
    obtain ⟨m, hml⟩ : ∃ m, l.length = m := ⟨_, rfl⟩
    have HS := Lib.hid (HS.out.withRow hr hml)
    obtain ⟨A3, c3, rfl, _⟩ := hr.form
    have HML := Lib.hid hml
    rw [hml] at HS ⊢
    clear hr hl hml y0 y1 y2 HR HM
    have HE := Lib.hid (decode_any A3 l m c3 w3 HML.out (Own.rd HS.out.hd) (Own.cap HS.out.hd).1 (fun e => ((Own.cap HS.out.hd).2 e).2) (Own.big HS.out.hd))
    rw [HD1.out] at HE
    go_wp2_with fail
    refine HE.out.mono ?_
    rintro e w4 ⟨An9, At9, cn9, ct9, rfl, hs9⟩
    rw [HN.out.1, HN.out.2] at hs9 ⊢
    have HS := Lib.hid ((HS.out.join hs9).newBlk #[.int .i64 k, .slice An9 n cn9, .slice At9 t ct9] tRec (g := w4.heap.size) rfl)
    clear hs9 HE
    go_upto_region 8 with fail
    generalize w4.alloc (.cells #[.int .i64 k, .slice An9 n cn9, .slice At9 t ct9] tRec) = w5 at *
    generalize w4.heap.size = g9 at *
    obtain ⟨y0, y1, y2⟩ := HC.out _ HS.out.h5
    have hz := (show Blk w5 g9 #[.int .i64 k, .slice An9 n cn9, .slice At9 t ct9] tRec from HS.out.hd)
    have z0 := hz.cell 0; have z1 := hz.cell 1; have z2 := hz.cell 2
    simp at z0 z1 z2
    clear hz
    have HQ := Lib.hid (show RecAt w5 ⟨k, ns, ts⟩ An9 At9 n t cn9 ct9 from ⟨HN.out.1, HN.out.2, Own.rd HS.out.h2, Own.rd HS.out.h3, hb, hb2⟩)
    have HSA := Lib.hid (sameB_iff.2 (rfl : (⟨k, ns, ts⟩ : Rec) = ⟨k, ns, ts⟩))
    go_wp2_with fail
    refine (same_any k k ns ns ts ts An At An9 At9 n t cn ct n t cn9 ct9 w5 (HR0.out.below HS.out.bel) HQ.out).mono ?_
    rw [HSA.out]
    rintro e w6 ⟨rfl, hB⟩
    have HS := Lib.hid (HS.out.step hB).tail.tail.tail.tail
    clear hB y0 y1 y2 z0 z1 z2 HQ HSA
    go_upto_region 10 with fail
    generalize w6 = wz at *
  all_goals
    have HE := Lib.hid (decode_any a1 l1 n1 c1 wz HL1.out (HR1.out.below HS.out.bel) hn1 HA1.out (by omega))
    cases hd : decB l1 with
    | none =>
      rw [hd] at HE
      go_wp2_with fail
      refine HE.out.mono ?_
      rintro e x4 ⟨rfl, hB⟩
      have HS := Lib.hid ((HS.out.step hB).newBlk zRec tRec (g := x4.heap.size) rfl)
      clear hB HE
      go_upto_region 12 with fail
      generalize x4.alloc (.cells #[.int .i64 0, .slice none 0 0, .slice none 0 0] tRec) = x5 at *
      generalize x4.heap.size = f9 at *
      have hz := (show Blk x5 f9 zRec tRec from HS.out.hd)
      have z0 := hz.cell 0; have z1 := hz.cell 1; have z2 := hz.cell 2
      simp at z0 z1 z2
      clear hz
      have HSA := Lib.hid (sameB_iff.2 (rfl : (⟨0, [], []⟩ : Rec) = ⟨0, [], []⟩))
      have HZ := Lib.hid (show RecAt x5 ⟨0, [], []⟩ none none 0 0 0 0 from ⟨rfl, rfl, Rd.nil _ _, Rd.nil _ _, by decide, by decide⟩)
      go_wp2_with fail
      refine (same_any 0 0 [] [] [] [] none none none none 0 0 0 0 0 0 0 0 x5 HZ.out HZ.out).mono ?_
      rw [HSA.out]
      rintro e x6 ⟨rfl, hB⟩
      have HB := Lib.hid (HS.out.step hB).bel
      clear hB z0 z1 z2
      go_wp2_with fail
      go_ret
      exact ⟨rfl, HB.out⟩
    | some q =>
      obtain ⟨m1, m2, m3⟩ := enc_dec hd
      obtain ⟨qk, qn, qt⟩ := q
      have HM1 := Lib.hid m1; have HM2 := Lib.hid m2; have HM3 := Lib.hid m3
      rw [hd] at HE
      obtain ⟨⟨m4, m5, m6, m7⟩, _⟩ := (mayB_iff _).1 m1
      simp only at m4 m5 m6 m7
      obtain ⟨qa, hqa⟩ : ∃ z, qn.length = z := ⟨_, rfl⟩
      obtain ⟨qb, hqb⟩ : ∃ z, qt.length = z := ⟨_, rfl⟩
      have HQL := Lib.hid (And.intro hqa hqb)
      rw [hqa] at m6
      rw [hqb] at m7
      clear m1 m2 m3 hd hqa hqb
      go_wp2_with fail
      refine HE.out.mono ?_
      rintro e x4 ⟨Bn, Bt, bn, bt, rfl, hs9⟩
      simp only [HQL.out.1, HQL.out.2] at hs9 ⊢
      have HS := Lib.hid ((HS.out.join hs9).newBlk #[.int .i64 qk, .slice Bn qa bn, .slice Bt qb bt] tRec (g := x4.heap.size) rfl)
      clear hs9 HE
      go_upto_region 11 with fail
      generalize x4.alloc (.cells #[.int .i64 qk, .slice Bn qa bn, .slice Bt qb bt] tRec) = x5 at *
      generalize x4.heap.size = f9 at *
      have hz := (show Blk x5 f9 #[.int .i64 qk, .slice Bn qa bn, .slice Bt qb bt] tRec from HS.out.hd)
      have z0 := hz.cell 0; have z1 := hz.cell 1; have z2 := hz.cell 2
      simp at z0 z1 z2
      clear hz
      have HQ := Lib.hid (show RecAt x5 ⟨qk, qn, qt⟩ Bn Bt qa qb bn bt from ⟨HQL.out.1, HQL.out.2, Own.rd HS.out.h2, Own.rd HS.out.h3, by omega, by omega⟩)
      go_wp2_with fail
      refine (encode_yes qk qn qt Bn Bt qa qb bn bt x5 HQ.out HM1.out HM3.out).mono ?_
      rintro e x6 ⟨v6, rfl, hr⟩
      rw [HM2.out] at hr
      obtain ⟨A6, c6, rfl, _⟩ := hr.form
      have HR6 := Lib.hid (HQ.out.below hr.2.1)
      have HS := Lib.hid (HS.out.withRow hr rfl)
      clear hr z0 z1 z2
      have cv1 := conv_str x6 A6 c6 l1 (Own.rd HS.out.hd) n1 HL1.out
      have cv2 := conv_str x6 a1 c1 l1 (HR1.out.below HS.out.bel) n1 HL1.out
      have hz := (show Blk x6 f9 #[.int .i64 qk, .slice Bn qa bn, .slice Bt qb bt] tRec from HS.out.h2)
      have z0 := hz.cell 0; have z1 := hz.cell 1; have z2 := hz.cell 2
      simp at z0 z1 z2
      clear hz
      rw [HL1.out]
      go_wp2_with fail
      refine (may_any ⟨qk, qn, qt⟩ Bn Bt qa qb bn bt x6 HR6.out).mono ?_
      rw [HM1.out]
      rintro e x7 ⟨rfl, hB⟩
      have HB := Lib.hid (HS.out.step hB).bel
      clear hB z0 z1 z2 cv1 cv2
      go_wp2_with fail
      go_ret
      exact ⟨rfl, HB.out⟩
end Go.Proofs.Ytkflnldjckahnaa
