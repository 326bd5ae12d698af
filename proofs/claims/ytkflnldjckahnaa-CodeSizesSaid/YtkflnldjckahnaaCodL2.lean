/- The walk of the law CodeSizes: it returns true. No condition but the row's own. -/
import Derived.Test.YtkflnldjckahnaaCodI
set_option linter.unusedVariables false
set_option linter.unusedSimpArgs false
namespace Go.Proofs.Ytkflnldjckahnaa
open Go.RowKit
theorem enc_len (r : Rec) : (encB r).length = 2 + (r.nums.flatMap numB).length + (r.texts.flatMap txtB).length := by
  rw [encB_hd, List.length_append, List.length_append]; rfl
theorem enc_pos (r : Rec) : 2 ≤ (encB r).length := by rw [enc_len]; omega
set_option maxRecDepth 100000 in
set_option maxHeartbeats 4000000 in
theorem w_CodeSizes (a0 : Array Value) (w : World) (b0 : Sh.Is w (.pair (.int .i64) (.pair (.slice 8 (.int .i64)) (.pair (.slice 16 .str) .unit))) a0.toList) :
    Calls Try.prog 9 #[.agg a0] w fun e w' => e = .returned (.bool true) ∧ Below w.heap.size w w' := by
  obtain ⟨k, ns, ts, An, At, n, t, cn, ct, hx, hR, _, hi, hsz, ⟨hcn, hct⟩, _⟩ := is_rec b0
  obtain rfl : a0 = #[.int .i64 k, .slice An n cn, .slice At t ct] := by rw [← Array.toList_inj]; exact hx
  clear hx b0
  obtain ⟨g, hg⟩ : ∃ g, w.heap.size = g := ⟨_, rfl⟩
  have HS := Lib.hid ((Sep.nil w).newBlk #[.int .i64 k, .slice An n cn, .slice At t ct] tRec hg)
  have HR := Lib.hid (hR.below HS.out.bel)
  have HG := Lib.hid hg
  have hn1 : ns.length = n := hR.hn
  have ht1 : ts.length = t := hR.ht
  have HN := Lib.hid (And.intro hn1 ht1)
  have HI := Lib.hid hi
  clear hR hg hn1 ht1 hi hsz
  go_enter Try.func9, Try.ntmps9
  go_wp2_with fail
  rw [HG.out]
  refine (awake_any _).mono ?_
  rintro e w1 ⟨rfl, hB⟩
  have HS := Lib.hid (HS.out.step hB); have HR := Lib.hid (HR.out.below hB)
  clear hB HG
  have HC : Hid (∀ w', Blk w' g #[.int .i64 k, .slice An n cn, .slice At t ct] tRec → w'.cell? ⟨g, 0, none⟩ = some (.int .i64 k) ∧ w'.cell? ⟨g, 1, none⟩ = some (.slice An n cn) ∧ w'.cell? ⟨g, 2, none⟩ = some (.slice At t ct)) := Lib.hid (fun w' h => ⟨h.cell 0, h.cell 1, h.cell 2⟩)
  obtain ⟨y0, y1, y2⟩ := HC.out _ HS.out.hd
  go_wp2_with fail
  refine (largeB_any ⟨k, ns, ts⟩ An At n t cn ct _ HR.out).mono ?_
  rintro e w2 ⟨rfl, hw2⟩
  have hB : Below w1.heap.size w1 w2 := by rw [hw2]; exact (Below.refl _ _).alloc (Nat.le_refl _) _
  have HS := Lib.hid (HS.out.step hB); have HR := Lib.hid (HR.out.below hB)
  clear hB hw2 y0 y1 y2
  by_cases hl : 1000 < n ∨ 1000 < t
  · rw [decide_eq_true hl]
    clear hl
    go_wp2_with fail
    go_ret
    exact ⟨rfl, HS.out.bel⟩
  rw [decide_eq_false hl]
  clear hl
  obtain ⟨y0, y1, y2⟩ := HC.out _ HS.out.hd
  go_wp2_with fail
  refine (may_any ⟨k, ns, ts⟩ An At n t cn ct _ HR.out).mono ?_
  rintro e w3 ⟨rfl, hB⟩
  have HS := Lib.hid (HS.out.step hB); have HR := Lib.hid (HR.out.below hB)
  clear hB y0 y1 y2
  obtain ⟨y0, y1, y2⟩ := HC.out _ HS.out.hd
  cases hm : mayB ⟨k, ns, ts⟩
  · have HE := Lib.hid (show (if mayB ⟨k, ns, ts⟩ = true then (encB ⟨k, ns, ts⟩).length else 0) = 0 by rw [hm]; rfl)
    clear hm
    go_wp2_with fail
    refine (size_any k ns ts An At n t cn ct _ HR.out HI.out).mono ?_
    rw [HE.out]
    rintro e w4 ⟨rfl, hB⟩
    have HB := Lib.hid (HS.out.step hB).bel
    clear hB y0 y1 y2
    go_wp2_with fail
    go_ret
    exact ⟨rfl, HB.out⟩
  obtain ⟨z, hz⟩ : ∃ z, (encB ⟨k, ns, ts⟩).length = z := ⟨_, rfl⟩
  have HE := Lib.hid (show (if mayB ⟨k, ns, ts⟩ = true then (encB ⟨k, ns, ts⟩).length else 0) = z by rw [hm]; exact hz)
  have HZ := Lib.hid (show z = 2 + (ns.flatMap numB).length + (ts.flatMap txtB).length by rw [← hz]; exact enc_len _)
  have hb := (mayB_iff _).1 hm
  simp only [HN.out.1, HN.out.2] at hb
  obtain ⟨⟨k0, k255, hn16, ht4⟩, h200⟩ := hb
  have H200 := Lib.hid h200
  have HLN := Lib.hid (fun k : Nat => show ((ns.take k).flatMap numB).length ≤ 160 by
    refine Nat.le_trans (fm_len numB 10 _ (fun x hx => numB_len (HI.out x (List.mem_of_mem_take hx)))) ?_
    rw [List.length_take, HN.out.1]; omega)
  have HLT := Lib.hid (fun k : Nat => show ((ts.take k).flatMap txtB).length ≤ 1000 by
    refine Nat.le_trans (fm_len txtB 201 _ (fun x hx => by rw [txt_len]; have := H200.out x (List.mem_of_mem_take hx); omega)) ?_
    rw [List.length_take, HN.out.2]; omega)
  clear hm hz h200 k0 k255
  go_wp2_with fail
  clear y0 y1 y2
  go_loopg [3, 4, 19] n (fun gk s3 s4 s19 wr => ∃ (j : Nat) (v4 : Value), v4 = s4 ∧ s19 = .int .i64 (j : Int) ∧ s3 = .int .i64 ((2 + ((ns.take j).flatMap numB).length : Nat) : Int) ∧ j ≤ n ∧ gk = n - j ∧ Sep w wr [tBlk g #[.int .i64 k, .slice An n cn, .slice At t ct] tRec] ∧ RecAt wr ⟨k, ns, ts⟩ An At n t cn ct)
  case atStart => exact ⟨0, _, rfl, rfl, rfl, by omega, by omega, HS.out, HR.out⟩
  case round =>
  clear HS HR
  obtain ⟨j, v4, rfl, rfl, rfl, hj, hgj, hS, hR⟩ := hrel
  have HS := Lib.hid hS; have HR := Lib.hid hR
  clear hS hR
  obtain ⟨p, hp⟩ : ∃ p, ((ns.take j).flatMap numB).length = p := ⟨_, rfl⟩
  have hp1 : p ≤ 160 := by rw [← hp]; exact HLN.out j
  have HP := Lib.hid hp
  rw [hp]
  clear hp
  obtain ⟨y0, y1, y2⟩ := HC.out _ HS.out.hd
  by_cases hjn : j < n
  · have k1 : (j : Int) < (n : Int) := by omega
    have k0 : (0 : Int) ≤ (j : Int) := by omega
    have HX := Lib.hid (List.getElem?_eq_getElem (l := ns) (i := j) (by rw [HN.out.1]; exact hjn))
    have HXI := Lib.hid (HI.out _ (List.mem_of_getElem? HX.out))
    generalize ns[j]'(by rw [HN.out.1]; exact hjn) = x at *
    obtain ⟨q, o, rfl, u0⟩ := HR.out.rn.num j x HX.out
    have HST := Lib.hid (fm_step numB ns j x HX.out)
    obtain ⟨m, hm⟩ : ∃ m, (numB x).length = m := ⟨_, rfl⟩
    have hm10 : m ≤ 10 := by rw [← hm]; exact numB_len HXI.out
    have HML := Lib.hid hm
    clear hm
    go_wp2_with fail
    refine (number_any x wr HXI.out).mono ?_
    rintro e w4 ⟨v5, rfl, hr⟩
    obtain ⟨A5, c5, rfl, _⟩ := hr.form
    rw [HML.out]
    have HS := Lib.hid (HS.out.step hr.2.1); have HR := Lib.hid (HR.out.below hr.2.1)
    clear hr y0 y1 y2 u0
    go_wp2_with fail
    go_roundg (n - (j + 1))
    case measure => omega
    case rel =>
      refine ⟨j + 1, _, rfl, by push_cast; rfl, ?_, by omega, rfl, HS.out, HR.out⟩
      rw [HST.out, List.length_append, HP.out, HML.out]
      congr 1
      push_cast
      omega
  · have k1 : ¬ (j : Int) < (n : Int) := by omega
    have k2 : decide ((j : Int) < (n : Int)) = false := by simp; omega
    have h := HP.out
    rw [show ns.take j = ns from List.take_of_length_le (by rw [HN.out.1]; omega)] at h
    have hz := HZ.out
    rw [h] at hz
    have HZ := Lib.hid hz
    clear h hz
    go_wp2_with fail
    clear y0 y1 y2
    go_loopg [3, 5, 35] t (fun gk s3 s5 s35 wr => ∃ (j : Nat) (v5 : Value), v5 = s5 ∧ s35 = .int .i64 (j : Int) ∧ s3 = .int .i64 ((2 + p + ((ts.take j).flatMap txtB).length : Nat) : Int) ∧ j ≤ t ∧ gk = t - j ∧ Sep w wr [tBlk g #[.int .i64 k, .slice An n cn, .slice At t ct] tRec] ∧ RecAt wr ⟨k, ns, ts⟩ An At n t cn ct)
    case atStart => exact ⟨0, _, rfl, rfl, by simp [Enc.fl], by omega, by omega, HS.out, HR.out⟩
    case round =>
    clear HS HR
    obtain ⟨i, v5, rfl, rfl, rfl, hi, hgi, hS, hR⟩ := hrel
    have HS := Lib.hid hS; have HR := Lib.hid hR
    clear hS hR
    obtain ⟨r, hr⟩ : ∃ r, ((ts.take i).flatMap txtB).length = r := ⟨_, rfl⟩
    have hr1 : r ≤ 1000 := by rw [← hr]; exact HLT.out i
    have HRR := Lib.hid hr
    rw [hr]
    clear hr
    obtain ⟨y0, y1, y2⟩ := HC.out _ HS.out.hd
    by_cases hit : i < t
    · have j1 : (i : Int) < (t : Int) := by omega
      have j0 : (0 : Int) ≤ (i : Int) := by omega
      have HX := Lib.hid (List.getElem?_eq_getElem (l := ts) (i := i) (by rw [HN.out.2]; exact hit))
      have hx2 := H200.out _ (List.mem_of_getElem? HX.out)
      generalize ts[i]'(by rw [HN.out.2]; exact hit) = x at *
      obtain ⟨q, o, rfl, u0⟩ := HR.out.rt.str i x HX.out
      have HST := Lib.hid (fm_step txtB ts i x HX.out)
      have HML := Lib.hid (txt_len x)
      go_wp2_with fail
      go_roundg (t - (i + 1))
      case measure => omega
      case rel =>
        refine ⟨i + 1, _, rfl, by push_cast; rfl, ?_, by omega, rfl, HS.out, HR.out⟩
        rw [HST.out, List.length_append, HRR.out, HML.out]
        congr 1
        push_cast
        omega
    · have j1 : ¬ (i : Int) < (t : Int) := by omega
      have j2 : decide ((i : Int) < (t : Int)) = false := by simp; omega
      have h := HRR.out
      rw [show ts.take i = ts from List.take_of_length_le (by rw [HN.out.2]; omega)] at h
      have HZ := Lib.hid (show z = 2 + p + r by rw [HZ.out, h])
      clear h
      go_wp2_with fail
      refine (size_any k ns ts An At n t cn ct _ HR.out HI.out).mono ?_
      rw [HE.out, HZ.out]
      rintro e w4 ⟨rfl, hB⟩
      have HB := Lib.hid (HS.out.step hB).bel
      clear hB y0 y1 y2
      go_wp2_with fail
      go_ret
      exact ⟨by simp, HB.out⟩
end Go.Proofs.Ytkflnldjckahnaa
