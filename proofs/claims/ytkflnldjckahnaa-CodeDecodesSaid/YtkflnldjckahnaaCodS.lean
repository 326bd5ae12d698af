/- The walk of the document's Same: are two records alike. Conditions: sizes. -/
import Derived.Test.YtkflnldjckahnaaCodJ
set_option linter.unusedVariables false
set_option linter.unusedSimpArgs false
namespace Go.Proofs.Ytkflnldjckahnaa
open Go.RowKit
def sameB (r q : Rec) : Bool := decide (r.kind = q.kind ∧ r.nums = q.nums ∧ r.texts = q.texts)
theorem sameB_iff {r q : Rec} : sameB r q = true ↔ r = q := by
  unfold sameB
  rw [decide_eq_true_eq]
  cases r; cases q
  simp
theorem sameB_eq (r q : Rec) [Decidable (r = q)] : sameB r q = decide (r = q) := by rw [Bool.eq_iff_iff, sameB_iff, decide_eq_true_eq]
theorem sameB_no {r q : Rec} (h : r ≠ q) : sameB r q = false := by
  cases hb : sameB r q
  · rfl
  · exact absurd (sameB_iff.1 hb) h
set_option maxRecDepth 100000 in
set_option maxHeartbeats 4000000 in
theorem same_any (k k' : Int) (ns ns' : List Int) (ts ts' : List ByteArray) (An At An' At' : Option Addr) (n t cn ct n' t' cn' ct' : Nat) (w : World) (h : RecAt w ⟨k, ns, ts⟩ An At n t cn ct) (h' : RecAt w ⟨k', ns', ts'⟩ An' At' n' t' cn' ct') :
    Calls Try.prog 21 #[recV k An At n t cn ct, recV k' An' At' n' t' cn' ct'] w fun e w' => e = .returned (.bool (sameB ⟨k, ns, ts⟩ ⟨k', ns', ts'⟩)) ∧ Below w.heap.size w w' := by
  obtain ⟨g, hg⟩ : ∃ g, w.heap.size = g := ⟨_, rfl⟩
  have hs := ((Sep.nil w).newBlk #[.int .i64 k, .slice An n cn, .slice At t ct] tRec hg).newBlk #[.int .i64 k', .slice An' n' cn', .slice At' t' ct'] tRec (g := g + 1) (by simp [hg])
  have HS := Lib.hid hs
  have HR := Lib.hid (h.below hs.bel); have HR' := Lib.hid (h'.below hs.bel)
  have HL := Lib.hid (show (ns.length = n ∧ ts.length = t) ∧ (ns'.length = n' ∧ ts'.length = t') from ⟨⟨h.hn, h.ht⟩, h'.hn, h'.ht⟩)
  obtain ⟨r, hr⟩ : ∃ r, sameB ⟨k, ns, ts⟩ ⟨k', ns', ts'⟩ = r := ⟨_, rfl⟩
  have HRE := Lib.hid hr
  have HG := Lib.hid hg
  have HBN := Lib.hid (And.intro h.bn h.bt)
  rw [hr]
  clear h h' hs hr hg
  obtain ⟨W, hW⟩ : ∃ W, (w.alloc (.cells #[.int .i64 k, .slice An n cn, .slice At t ct] tRec)).alloc (.cells #[.int .i64 k', .slice An' n' cn', .slice At' t' ct'] tRec) = W := ⟨_, rfl⟩
  rw [hW] at HS HR HR'
  have HW := Lib.hid hW
  clear hW
  have HC : Hid (∀ w', Blk w' g #[.int .i64 k, .slice An n cn, .slice At t ct] tRec → w'.cell? ⟨g, 0, none⟩ = some (.int .i64 k) ∧ w'.cell? ⟨g, 1, none⟩ = some (.slice An n cn) ∧ w'.cell? ⟨g, 2, none⟩ = some (.slice At t ct)) := Lib.hid (fun w' h => ⟨h.cell 0, h.cell 1, h.cell 2⟩)
  have HC' : Hid (∀ w', Blk w' (g + 1) #[.int .i64 k', .slice An' n' cn', .slice At' t' ct'] tRec → w'.cell? ⟨g + 1, 0, none⟩ = some (.int .i64 k') ∧ w'.cell? ⟨g + 1, 1, none⟩ = some (.slice An' n' cn') ∧ w'.cell? ⟨g + 1, 2, none⟩ = some (.slice At' t' ct')) := Lib.hid (fun w' h => ⟨h.cell 0, h.cell 1, h.cell 2⟩)
  go_enter Try.func21, Try.ntmps21
  go_upto_region 1 with fail
  rw [HG.out, HW.out]
  obtain ⟨y0, y1, y2⟩ := HC.out _ HS.out.h2
  obtain ⟨z0, z1, z2⟩ := HC'.out _ HS.out.hd
  by_cases hk : k = k'
  rotate_left
  · have f1 : (k != k') = true := by simpa using hk
    have HX := Lib.hid (show r = false by rw [← HRE.out]; exact sameB_no (fun e => hk (congrArg Rec.kind e)))
    clear hk
    go_wp2_with fail
    go_ret
    exact ⟨ret_bool HX.out.symm, HS.out.bel⟩
  by_cases hn : n = n'
  rotate_left
  · have f1 : (k == k') = true := by simpa using hk
    have f2 : ((n : Int) == (n' : Int)) = false := by simp; omega
    have HX := Lib.hid (show r = false by
      rw [← HRE.out]; exact sameB_no (fun e => hn (by have := congrArg (fun r : Rec => r.nums.length) e; simp only at this; rw [HL.out.1.1, HL.out.2.1] at this; exact this)))
    subst hk
    clear hn
    go_wp2_with fail
    go_ret
    exact ⟨ret_bool HX.out.symm, HS.out.bel⟩
  by_cases ht : t = t'
  rotate_left
  · have f2 : ((t : Int) == (t' : Int)) = false := by simp; omega
    have HX := Lib.hid (show r = false by
      rw [← HRE.out]; exact sameB_no (fun e => ht (by have := congrArg (fun r : Rec => r.texts.length) e; simp only at this; rw [HL.out.1.2, HL.out.2.2] at this; exact this)))
    subst hk
    subst hn
    clear ht
    go_wp2_with fail
    go_ret
    exact ⟨ret_bool HX.out.symm, HS.out.bel⟩
  subst hk
  subst hn
  subst ht
  clear HW HG
  go_wp2_with fail
  clear y0 y1 y2 z0 z1 z2
  go_loopg [5] n (fun gk s5 wr => ∃ (j : Nat), s5 = .int .i64 (j : Int) ∧ j ≤ n ∧ gk = n - j ∧ (∀ i, i < j → ns[i]? = ns'[i]?) ∧ Sep w wr [tBlk (g + 1) #[.int .i64 k, .slice An' n cn', .slice At' t ct'] tRec, tBlk g #[.int .i64 k, .slice An n cn, .slice At t ct] tRec] ∧ RecAt wr ⟨k, ns, ts⟩ An At n t cn ct ∧ RecAt wr ⟨k, ns', ts'⟩ An' At' n t cn' ct')
  case atStart => exact ⟨0, rfl, by omega, by omega, fun i hi => by omega, HS.out, HR.out, HR'.out⟩
  case round =>
  clear HS HR HR'
  obtain ⟨j, rfl, hj, hgj, hall, hS, hR, hR'⟩ := hrel
  have HS := Lib.hid hS; have HR := Lib.hid hR; have HR' := Lib.hid hR'; have HALL := Lib.hid hall
  clear hS hR hR' hall
  obtain ⟨y0, y1, y2⟩ := HC.out _ HS.out.h2
  obtain ⟨z0, z1, z2⟩ := HC'.out _ HS.out.hd
  have hbn := HBN.out.1
  by_cases hjn : j < n
  · have k1 : (j : Int) < (n : Int) := by omega
    have k0 : (0 : Int) ≤ (j : Int) := by omega
    have HX := Lib.hid (List.getElem?_eq_getElem (l := ns) (i := j) (by rw [HL.out.1.1]; exact hjn))
    have HX' := Lib.hid (List.getElem?_eq_getElem (l := ns') (i := j) (by rw [HL.out.2.1]; exact hjn))
    generalize ns[j]'(by rw [HL.out.1.1]; exact hjn) = x at *
    generalize ns'[j]'(by rw [HL.out.2.1]; exact hjn) = x' at *
    obtain ⟨q, o, rfl, u0⟩ := HR.out.rn.num j x HX.out
    obtain ⟨q', o', rfl, u0'⟩ := HR'.out.rn.num j x' HX'.out
    by_cases hx : x = x'
    · have f1 : (x == x') = true := by simpa using hx
      subst hx
      go_upto_region 6 with fail
      go_quiet (fail)
      go_wp2_with fail
      go_roundg (n - (j + 1))
      case measure => omega
      case rel =>
        refine ⟨j + 1, by push_cast; rfl, by omega, rfl, fun i hi => ?_, HS.out.drewN _, HR.out.below ⟨rfl, rfl, rfl, Nat.le_refl _, fun _ _ => rfl⟩, HR'.out.below ⟨rfl, rfl, rfl, Nat.le_refl _, fun _ _ => rfl⟩⟩
        rcases Nat.lt_or_ge i j with h | h
        · exact HALL.out i h
        · obtain rfl : i = j := by omega
          rw [HX.out, HX'.out]
    · have f1 : (x == x') = false := by simpa using hx
      have HXX := Lib.hid (show r = false by
        rw [← HRE.out]
        exact sameB_no (fun e => hx (by
          have := congrArg (fun r : Rec => r.nums[j]?) e
          simp only at this
          rw [HX.out, HX'.out] at this
          exact Option.some.inj this)))
      clear hx
      go_upto_region 6 with fail
      go_quiet (fail)
      go_wp2_with fail
      go_ret
      exact ⟨ret_bool HXX.out.symm, (HS.out.drewN _).bel⟩
  · have k1 : ¬ (j : Int) < (n : Int) := by omega
    have k2 : decide ((j : Int) < (n : Int)) = false := by simp; omega
    have HNN := Lib.hid (show ns = ns' by
      refine List.ext_getElem? (fun i => ?_)
      rcases Nat.lt_or_ge i j with h | h
      · exact HALL.out i h
      · rw [List.getElem?_eq_none (by rw [HL.out.1.1]; omega), List.getElem?_eq_none (by rw [HL.out.2.1]; omega)])
    clear HALL
    go_wp2_with fail
    clear y0 y1 y2 z0 z1 z2
    go_loopg [6] t (fun gk s6 wr => ∃ (j : Nat), s6 = .int .i64 (j : Int) ∧ j ≤ t ∧ gk = t - j ∧ (∀ i, i < j → ts[i]? = ts'[i]?) ∧ Sep w wr [tBlk (g + 1) #[.int .i64 k, .slice An' n cn', .slice At' t ct'] tRec, tBlk g #[.int .i64 k, .slice An n cn, .slice At t ct] tRec] ∧ RecAt wr ⟨k, ns, ts⟩ An At n t cn ct ∧ RecAt wr ⟨k, ns', ts'⟩ An' At' n t cn' ct')
    case atStart => exact ⟨0, rfl, by omega, by omega, fun i hi => by omega, HS.out, HR.out, HR'.out⟩
    case round =>
    clear HS HR HR'
    obtain ⟨i, rfl, hi, hgi, hall, hS, hR, hR'⟩ := hrel
    have HS := Lib.hid hS; have HR := Lib.hid hR; have HR' := Lib.hid hR'; have HALL := Lib.hid hall
    clear hS hR hR' hall
    obtain ⟨y0, y1, y2⟩ := HC.out _ HS.out.h2
    obtain ⟨z0, z1, z2⟩ := HC'.out _ HS.out.hd
    have hbt := HBN.out.2
    by_cases hit : i < t
    · have j1 : (i : Int) < (t : Int) := by omega
      have j0 : (0 : Int) ≤ (i : Int) := by omega
      have HX := Lib.hid (List.getElem?_eq_getElem (l := ts) (i := i) (by rw [HL.out.1.2]; exact hit))
      have HX' := Lib.hid (List.getElem?_eq_getElem (l := ts') (i := i) (by rw [HL.out.2.2]; exact hit))
      generalize ts[i]'(by rw [HL.out.1.2]; exact hit) = x at *
      generalize ts'[i]'(by rw [HL.out.2.2]; exact hit) = x' at *
      obtain ⟨q, o, rfl, u0⟩ := HR.out.rt.str i x HX.out
      obtain ⟨q', o', rfl, u0'⟩ := HR'.out.rt.str i x' HX'.out
      by_cases hx : x = x'
      · subst hx
        go_upto_region 11 with fail
        go_quiet (fail)
        go_wp2_with fail
        go_roundg (t - (i + 1))
        case measure => omega
        case rel =>
          refine ⟨i + 1, by push_cast; rfl, by omega, rfl, fun p hp => ?_, HS.out.drewN _, HR.out.below ⟨rfl, rfl, rfl, Nat.le_refl _, fun _ _ => rfl⟩, HR'.out.below ⟨rfl, rfl, rfl, Nat.le_refl _, fun _ _ => rfl⟩⟩
          rcases Nat.lt_or_ge p i with h | h
          · exact HALL.out p h
          · obtain rfl : p = i := by omega
            rw [HX.out, HX'.out]
      · have f1 : (x.toList == x'.toList) = false := str_ne hx
        have HXX := Lib.hid (show r = false by
          rw [← HRE.out]
          exact sameB_no (fun e => hx (by
            have := congrArg (fun r : Rec => r.texts[i]?) e
            simp only at this
            rw [HX.out, HX'.out] at this
            exact Option.some.inj this)))
        clear hx
        go_upto_region 11 with fail
        go_quiet (fail)
        go_wp2_with fail
        go_ret
        exact ⟨ret_bool HXX.out.symm, (HS.out.drewN _).bel⟩
    · have j1 : ¬ (i : Int) < (t : Int) := by omega
      have j2 : decide ((i : Int) < (t : Int)) = false := by simp; omega
      have HTT := Lib.hid (show r = true by
        rw [← HRE.out, sameB_iff, HNN.out]
        congr 1
        refine List.ext_getElem? (fun p => ?_)
        rcases Nat.lt_or_ge p i with h | h
        · exact HALL.out p h
        · rw [List.getElem?_eq_none (by rw [HL.out.1.2]; omega), List.getElem?_eq_none (by rw [HL.out.2.2]; omega)])
      clear HALL
      go_wp2_with fail
      go_ret
      exact ⟨ret_bool HTT.out.symm, HS.out.bel⟩
end Go.Proofs.Ytkflnldjckahnaa
