/- The walks of package mail and of the document's: numbers in their bounds. Conditions: sizes. -/
import Derived.Test.YtodjmeodcmbdoaaMaiM
import Derived.Test.YtodjmeodcmbdoaaCodE
set_option linter.unusedVariables false
set_option linter.unusedSimpArgs false
namespace Go.Proofs.Ytodjmeodcmbdoaa
open Go.RowKit
theorem within_any (n lo hi : Int) (w : World) : Calls Try.prog 38 #[.int .i64 n, .int .i64 lo, .int .i64 hi] w fun e w' => e = .returned (.bool (wi n lo hi)) ∧ w' = w := by
  rcases Int.lt_or_le n lo with h1 | h1
  · have f1 : decide (lo ≤ n) = false := by simp; omega
    have f1' : ¬ lo ≤ n := by omega
    have HX := Lib.hid (show wi n lo hi = false by unfold wi; exact decide_eq_false (by omega))
    go_enter Try.func38, Try.ntmps38
    go_wp2
    go_ret
    exact ⟨ret_bool HX.out.symm, rfl⟩
  · have f1 : decide (lo ≤ n) = true := by simpa using h1
    rcases Int.lt_or_le hi n with h2 | h2
    · have f2 : decide (n ≤ hi) = false := by simp; omega
      have f2' : ¬ n ≤ hi := by omega
      have HX := Lib.hid (show wi n lo hi = false by unfold wi; exact decide_eq_false (by omega))
      go_enter Try.func38, Try.ntmps38
      go_wp2
      go_ret
      exact ⟨ret_bool (by simp [HX.out]; try omega), rfl⟩
    · have f2 : decide (n ≤ hi) = true := by simpa using h2
      have HX := Lib.hid (show wi n lo hi = true by unfold wi; exact decide_eq_true ⟨h1, h2⟩)
      go_enter Try.func38, Try.ntmps38
      go_wp2
      go_ret
      exact ⟨ret_bool (by simp [HX.out]; try omega), rfl⟩
structure Tri where
  n : Int
  lo : Int
  hi : Int
def eTr : Enc Tri := ⟨fun x => [.int .i64 x.n, .int .i64 x.lo, .int .i64 x.hi], 3, fun _ => rfl, fun _ u hu => by
  simp only [List.mem_cons, List.not_mem_nil, or_false] at hu
  rcases hu with rfl | rfl | rfl <;> rfl⟩
abbrev tTr : TypeId := 87
theorem Rd.tri {w : World} {A : Option Addr} {l : List Tri} (h : Rd w A (eTr.fl l)) (k : Nat) (x : Tri) (hx : l[k]? = some x) :
    ∃ b o, A = some ⟨b, o, none⟩ ∧ w.cell? ⟨b, o + k * 3, none⟩ = some (.int .i64 x.n) ∧ w.cell? ⟨b, o + k * 3 + 1, none⟩ = some (.int .i64 x.lo) ∧ w.cell? ⟨b, o + k * 3 + 2, none⟩ = some (.int .i64 x.hi) := by
  obtain ⟨hk, rfl⟩ := List.getElem?_eq_some_iff.1 hx
  obtain ⟨b, o, e, hc⟩ := h.elem k hk (by decide)
  exact ⟨b, o, e, hc 0 _ rfl, hc 1 _ rfl, hc 2 _ rfl⟩
def triB (x : Tri) : Bool := wi x.n x.lo x.hi
set_option maxRecDepth 100000 in
theorem all_any (l : List Tri) (A : Option Addr) (n c : Nat) (w : World) (hl : l.length = n) (hn : n ≤ 1000) (hr : Rd w A (eTr.fl l)) :
    Calls Try.prog 43 #[.slice A n c] w fun e w' => e = .returned (.bool (l.all triB)) ∧ Below w.heap.size w w' := by
  have HL := Lib.hid hl; have HR := Lib.hid hr
  obtain ⟨r, hr2⟩ : ∃ r, l.all triB = r := ⟨_, rfl⟩
  have HRE := Lib.hid hr2
  rw [hr2]
  clear hl hr hr2
  go_enter Try.func43, Try.ntmps43
  go_wp2_with fail
  go_loopg [4, 7] n (fun gk s4 s7 wr => ∃ (j : Nat) (v4 : Value), v4 = s4 ∧ s7 = .int .i64 (j : Int) ∧ j ≤ n ∧ gk = n - j ∧ Below w.heap.size w wr ∧ (∀ i x, i < j → l[i]? = some x → triB x = true))
  case atStart => exact ⟨0, _, rfl, rfl, by omega, by omega, Below.refl _ _, fun i x hi => by omega⟩
  case round =>
  obtain ⟨j, v4, rfl, rfl, hj, hgj, hB, hall⟩ := hrel
  have HB := Lib.hid hB; have HALL := Lib.hid hall
  clear hB hall
  by_cases hjn : j < n
  · have k1 : (j : Int) < (n : Int) := by omega
    have k0 : (0 : Int) ≤ (j : Int) := by omega
    have HX := Lib.hid (List.getElem?_eq_getElem (l := l) (i := j) (by rw [HL.out]; exact hjn))
    generalize l[j]'(by rw [HL.out]; exact hjn) = x at *
    obtain ⟨b, o, rfl, u0, u1, u2⟩ := (HR.out.below HB.out).tri j x HX.out
    obtain ⟨xn, xl, xh⟩ := x
    simp only at u0 u1 u2
    have hz := Lib.hid (Blk.new wr #[.int .i64 xn, .int .i64 xl, .int .i64 xh] tTr)
    have HB2 := Lib.hid (HB.out.trans (((Below.refl wr.heap.size wr).alloc (Nat.le_refl _) (.cells #[.int .i64 xn, .int .i64 xl, .int .i64 xh] tTr)).mono HB.out.size))
    go_upto_region 4 with fail
    generalize wr.alloc (.cells #[.int .i64 xn, .int .i64 xl, .int .i64 xh] tTr) = w4 at *
    generalize wr.heap.size = g4 at *
    have y0 := hz.out.cell 0; have y1 := hz.out.cell 1; have y2 := hz.out.cell 2
    simp at y0 y1 y2
    clear u0 u1 u2
    by_cases hx : triB ⟨xn, xl, xh⟩ = true
    · have h2 := wi_iff.1 hx
      have HX2 := Lib.hid hx
      simp only at h2
      have f1 : decide (xn < xl) = false := by simp; omega
      have f1' : ¬ xn < xl := by omega
      have f2 : decide (xh < xn) = false := by simp; omega
      have f2' : ¬ xh < xn := by omega
      clear hx h2
      go_wp2_with fail
      go_roundg (n - (j + 1))
      case measure => omega
      case rel =>
        refine ⟨j + 1, _, rfl, by push_cast; rfl, by omega, rfl, HB2.out, fun i x hi hx => ?_⟩
        rcases Nat.lt_or_ge i j with h | h
        · exact HALL.out i x h hx
        · obtain rfl : i = j := by omega
          rw [HX.out] at hx
          cases hx
          exact HX2.out
    · have HF := Lib.hid (show r = false by
        rw [← HRE.out]
        cases hb : l.all triB
        · rfl
        · rw [List.all_eq_true] at hb
          exact absurd (hb _ (List.mem_of_getElem? HX.out)) hx)
      have h2 : xn < xl ∨ xh < xn := by
        rcases Int.lt_or_le xn xl with h | h
        · exact .inl h
        · rcases Int.lt_or_le xh xn with h' | h'
          · exact .inr h'
          · exact absurd (wi_iff.2 ⟨h, h'⟩) hx
      clear hx
      rcases Int.lt_or_le xn xl with h | h
      · have f1 : decide (xn < xl) = true := by simpa using h
        clear h2
        go_wp2_with fail
        go_ret
        exact ⟨ret_bool HF.out.symm, HB2.out⟩
      · have h3 : xh < xn := by omega
        have f1 : decide (xn < xl) = false := by simp; omega
        have f1' : ¬ xn < xl := by omega
        have f2 : decide (xh < xn) = true := by simpa using h3
        clear h2 h
        go_wp2_with fail
        go_ret
        exact ⟨ret_bool HF.out.symm, HB2.out⟩
  · have k1 : ¬ (j : Int) < (n : Int) := by omega
    have k2 : decide ((j : Int) < (n : Int)) = false := by simp; omega
    have HT := Lib.hid (show r = true by
      rw [← HRE.out, List.all_eq_true]
      intro x hx
      obtain ⟨i, hi⟩ := List.getElem?_of_mem hx
      exact HALL.out i x (by have := (List.getElem?_eq_some_iff.1 hi).1; rw [HL.out] at this; omega) hi)
    clear HALL
    go_wp2_with fail
    go_ret
    exact ⟨ret_bool HT.out.symm, HB.out⟩
end Go.Proofs.Ytodjmeodcmbdoaa
