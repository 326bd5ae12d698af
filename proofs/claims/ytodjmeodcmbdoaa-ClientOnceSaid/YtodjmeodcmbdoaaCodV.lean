/- The walks of package code: may a record be; records' bytes. Conditions: sizes. -/
import Derived.Test.YtodjmeodcmbdoaaCodW
set_option linter.unusedVariables false
set_option linter.unusedSimpArgs false
namespace Go.Proofs.Ytodjmeodcmbdoaa
open Go.RowKit
abbrev tS : TypeId := 9
theorem head_any (n t : Nat) (w : World) (hn : n ≤ 16) (ht : t ≤ 4) :
    Calls Try.prog 48 #[.int .i64 (n : Int), .int .i64 (t : Int)] w fun e w' => e = .returned (.int .u8 ((headB n t).toNat : Int)) ∧ w = w' := by
  by_cases h : n = 16
  · subst h
    have HE := Lib.hid (show ((headB 16 t).toNat : Int) = 240 + t by unfold headB; rw [if_pos rfl, b8_toNat (by omega)]; omega)
    go_enter Try.func48, Try.ntmps48
    go_wp2
    go_ret
    exact ⟨ret_int HE.out.symm, rfl⟩
  · have HE := Lib.hid (show ((headB n t).toNat : Int) = n + 16 * t by unfold headB; rw [if_neg h, b8_toNat (by omega)]; omega)
    have h1 : ((n : Int) == 16) = false := by simp; omega
    clear h
    go_enter Try.func48, Try.ntmps48
    go_wp2
    go_ret
    exact ⟨ret_int HE.out.symm, rfl⟩
def bigB (s : ByteArray) : Bool := decide (200 < s.size)
theorem big_any (s : ByteArray) (w : World) : Calls Try.prog 53 #[.string s] w fun e w' => e = .returned (.bool (bigB s)) ∧ w = w' := by
  go_enter Try.func53, Try.ntmps53
  go_wp2
  go_ret
  exact ⟨ret_bool (by unfold bigB; simp; omega), rfl⟩
def sIdx (l : List ByteArray) : Int := match l.findIdx? bigB with
  | some k => k
  | none => -1
theorem sIdx_at (l : List ByteArray) (k : Nat) (x : ByteArray) (hx : l[k]? = some x) (h : bigB x = true) (hb : ∀ (j : Nat) (y : ByteArray), j < k → l[j]? = some y → bigB y = false) : sIdx l = k := by
  obtain ⟨hk, rfl⟩ := List.getElem?_eq_some_iff.1 hx
  have : l.findIdx? bigB = some k := by
    rw [List.findIdx?_eq_some_iff_getElem]
    exact ⟨hk, h, fun j hj => by simpa using hb j _ hj (List.getElem?_eq_getElem (by omega))⟩
  unfold sIdx; rw [this]
theorem sIdx_none (l : List ByteArray) (hb : ∀ (j : Nat) (y : ByteArray), l[j]? = some y → bigB y = false) : sIdx l = -1 := by
  have : l.findIdx? bigB = none := by
    rw [List.findIdx?_eq_none_iff]
    intro y hy
    obtain ⟨j, hj, rfl⟩ := List.getElem_of_mem hy
    exact hb j _ (List.getElem?_eq_getElem hj)
  unfold sIdx; rw [this]
theorem sIdx_ge (l : List ByteArray) : decide (0 ≤ sIdx l) = l.any bigB := by
  unfold sIdx
  cases h : l.findIdx? bigB with
  | none =>
    rw [List.findIdx?_eq_none_iff] at h
    have : l.any bigB = false := by rw [List.any_eq_false]; intro x hx; simpa using h x hx
    rw [this]; rfl
  | some k =>
    obtain ⟨hk, h1, _⟩ := List.findIdx?_eq_some_iff_getElem.1 h
    have : l.any bigB = true := List.any_eq_true.2 ⟨_, List.getElem_mem hk, h1⟩
    rw [this]; simp
theorem Rd.str {w : World} {A : Option Addr} {l : List ByteArray} (h : Rd w A (eStr.fl l)) (k : Nat) (x : ByteArray) (hx : l[k]? = some x) :
    ∃ b o, A = some ⟨b, o, none⟩ ∧ w.cell? ⟨b, o + k, none⟩ = some (.string x) := by
  obtain ⟨hk, rfl⟩ := List.getElem?_eq_some_iff.1 hx
  obtain ⟨b, o, e, hc⟩ := h.elem k hk (by decide)
  exact ⟨b, o, e, by simpa [eStr] using hc 0 _ rfl⟩
theorem Rd.num {w : World} {A : Option Addr} {l : List Int} (h : Rd w A (eI64.fl l)) (k : Nat) (x : Int) (hx : l[k]? = some x) :
    ∃ b o, A = some ⟨b, o, none⟩ ∧ w.cell? ⟨b, o + k, none⟩ = some (.int .i64 x) := by
  obtain ⟨hk, rfl⟩ := List.getElem?_eq_some_iff.1 hx
  obtain ⟨b, o, e, hc⟩ := h.elem k hk (by decide)
  exact ⟨b, o, e, by simpa [eI64] using hc 0 _ rfl⟩
theorem Rd.byt {w : World} {A : Option Addr} {l : List UInt8} (h : Rd w A (eB.fl l)) (k : Nat) (x : UInt8) (hx : l[k]? = some x) :
    ∃ b o, A = some ⟨b, o, none⟩ ∧ w.cell? ⟨b, o + k, none⟩ = some (.int .u8 (x.toNat : Int)) := by
  obtain ⟨hk, rfl⟩ := List.getElem?_eq_some_iff.1 hx
  obtain ⟨b, o, e, hc⟩ := h.elem k hk (by decide)
  exact ⟨b, o, e, by simpa [eB] using hc 0 _ rfl⟩
theorem sidx_any (A : Option Addr) (n c : Nat) (l : List ByteArray) (w : World) (hl : l.length = n) (hn : n ≤ 140737488355328) (hr : Rd w A (eStr.fl l)) :
    Calls Try.prog 54 #[.slice A n c, .func (.func 53) #[] #[]] w fun e w' => e = .returned (.int .i64 (sIdx l)) ∧ w' = w := by
  have HL := Lib.hid hl; clear hl
  have HR := Lib.hid hr; clear hr
  go_enter Try.func54, Try.ntmps54
  go_wp2_with fail
  go_loopg [8] n (fun gk s8 wr => ∃ k : Nat, s8 = .int .i64 (k : Int) ∧ k ≤ n ∧ gk = n - k ∧ wr = w ∧ ∀ (j : Nat) (y : ByteArray), j < k → l[j]? = some y → bigB y = false)
  case atStart => exact ⟨0, rfl, by omega, by omega, rfl, fun j y h => by omega⟩
  case round =>
    obtain ⟨k, rfl, hk, hgk, rfl, hno⟩ := hrel
    have HN := Lib.hid hno
    clear hno
    by_cases hkn : k < n
    · have k1 : (k : Int) < (n : Int) := by omega
      have k0 : (0 : Int) ≤ (k : Int) := by omega
      have HX := Lib.hid (List.getElem?_eq_getElem (l := l) (i := k) (by rw [HL.out]; exact hkn))
      generalize l[k]'(by rw [HL.out]; exact hkn) = x at *
      obtain ⟨q, o, rfl, u0⟩ := HR.out.str k x HX.out
      cases hp : bigB x
      · have HP := Lib.hid hp
        clear hp
        go_wp2_with (go_at_call 53; with_reducible refine (big_any x _).mono ?_; rintro e w1 ⟨rfl, rfl⟩; simp only [HP.out])
        go_roundg (n - (k + 1))
        case measure => omega
        case rel =>
          refine ⟨k + 1, by push_cast; rfl, by omega, rfl, rfl, fun j y hj hy => ?_⟩
          by_cases hjk : j = k
          · subst hjk
            rw [HX.out] at hy
            cases hy
            exact HP.out
          · exact HN.out j y (by omega) hy
      · have HP := Lib.hid hp
        clear hp
        go_wp2_with (go_at_call 53; with_reducible refine (big_any x _).mono ?_; rintro e w1 ⟨rfl, rfl⟩; simp only [HP.out])
        go_ret
        exact ⟨ret_int (sIdx_at l k x HX.out HP.out HN.out).symm, rfl⟩
    · have k1 : ¬ (k : Int) < (n : Int) := by omega
      have k2 : decide ((k : Int) < (n : Int)) = false := by simp; omega
      go_wp2_with fail
      go_ret
      exact ⟨ret_int (sIdx_none l (fun j y hy => HN.out j y (by have := (List.getElem?_eq_some_iff.1 hy).1; rw [HL.out] at this; omega) hy)).symm, rfl⟩
theorem cont_any (A : Option Addr) (n c : Nat) (l : List ByteArray) (w : World) (hl : l.length = n) (hn : n ≤ 140737488355328) (hr : Rd w A (eStr.fl l)) :
    Calls Try.prog 52 #[.slice A n c, .func (.func 53) #[] #[]] w fun e w' => e = .returned (.bool (l.any bigB)) ∧ w' = w := by
  have HE := Lib.hid (sIdx_ge l)
  go_enter Try.func52, Try.ntmps52
  go_wp2_with (go_at_call 54; refine (sidx_any A n c l w hl hn hr).mono ?_; rintro e w1 ⟨rfl, rfl⟩)
  go_ret
  exact ⟨ret_bool HE.out, rfl⟩
/-- A record that lies in memory. -/
structure RecAt (W : World) (r : Rec) (An At : Option Addr) (n t cn ct : Nat) : Prop where
  hn : r.nums.length = n
  ht : r.texts.length = t
  rn : Rd W An (eI64.fl r.nums)
  rt : Rd W At (eStr.fl r.texts)
  bn : n ≤ 140737488355328
  bt : t ≤ 140737488355328
theorem RecAt.below {W W' : World} {r : Rec} {An At : Option Addr} {n t cn ct : Nat} (h : RecAt W r An At n t cn ct) (b : Below W.heap.size W W') : RecAt W' r An At n t cn ct :=
  ⟨h.hn, h.ht, h.rn.below b, h.rt.below b, h.bn, h.bt⟩
abbrev recV (k : Int) (An At : Option Addr) (n t cn ct : Nat) : Value := .agg #[.int .i64 k, .slice An n cn, .slice At t ct]
theorem may_no {r : Rec} (h : r.kind < 0 ∨ 255 < r.kind ∨ 16 < r.nums.length ∨ 4 < r.texts.length) : mayB r = false := by
  unfold mayB
  have : decide (0 ≤ r.kind ∧ r.kind ≤ 255 ∧ r.nums.length ≤ 16 ∧ r.texts.length ≤ 4) = false := by simp; omega
  rw [this]; rfl
theorem may_yes {r : Rec} (h : ¬ (r.kind < 0 ∨ 255 < r.kind ∨ 16 < r.nums.length ∨ 4 < r.texts.length)) : mayB r = !r.texts.any bigB := by
  unfold mayB
  have : decide (0 ≤ r.kind ∧ r.kind ≤ 255 ∧ r.nums.length ≤ 16 ∧ r.texts.length ≤ 4) = true := decide_eq_true (by omega)
  rw [this, Bool.true_and, List.all_eq_not_any_not]
  congr 1
  congr 1
  funext s
  unfold bigB
  rw [Bool.eq_iff_iff, Bool.not_eq_true', decide_eq_true_eq, decide_eq_false_iff_not]
  omega
theorem may_any (r : Rec) (An At : Option Addr) (n t cn ct : Nat) (w : World) (h : RecAt w r An At n t cn ct) :
    Calls Try.prog 47 #[recV r.kind An At n t cn ct] w fun e w' => e = .returned (.bool (mayB r)) ∧ Below w.heap.size w w' := by
  have HB := Lib.hid (show Below w.heap.size w (w.alloc (.cells #[.int .i64 r.kind, .slice An n cn, .slice At t ct] 72)) from (Below.refl _ _).alloc (Nat.le_refl _) _)
  have HR := Lib.hid (h.below HB.out)
  obtain ⟨k, ns, ts⟩ := r
  obtain ⟨hn, ht, hrn, hrt, bn, bt⟩ := h
  simp only at hn ht HB HR hrn hrt
  have HN := Lib.hid hn; have HT := Lib.hid ht
  clear hrn hrt
  by_cases c1 : k < 0
  · have d1 : decide (0 ≤ k) = false := by simp; omega
    have HM := Lib.hid (may_no (r := ⟨k, ns, ts⟩) (.inl c1))
    clear hn ht c1
    go_enter Try.func47, Try.ntmps47
    go_wp2
    go_ret
    exact ⟨ret_bool HM.out.symm, HB.out⟩
  have d1 : decide (0 ≤ k) = true := by simp; omega
  by_cases c2 : 255 < k
  · have d2 : decide (k ≤ 255) = false := by simp; omega
    have HM := Lib.hid (may_no (r := ⟨k, ns, ts⟩) (.inr (.inl c2)))
    clear hn ht c2 c1
    go_enter Try.func47, Try.ntmps47
    go_wp2
    go_ret
    exact ⟨ret_bool HM.out.symm, HB.out⟩
  have d2 : decide (k ≤ 255) = true := by simp; omega
  by_cases c3 : 16 < n
  · have d3 : decide ((n : Int) ≤ 16) = false := by simp; omega
    have HM := Lib.hid (may_no (r := ⟨k, ns, ts⟩) (.inr (.inr (.inl (by rw [hn]; exact c3)))))
    clear hn ht c3 c2 c1
    go_enter Try.func47, Try.ntmps47
    go_wp2
    go_ret
    exact ⟨ret_bool HM.out.symm, HB.out⟩
  have d3 : decide ((n : Int) ≤ 16) = true := by simp; omega
  by_cases c4 : 4 < t
  · have d4 : decide ((t : Int) ≤ 4) = false := by simp; omega
    have HM := Lib.hid (may_no (r := ⟨k, ns, ts⟩) (.inr (.inr (.inr (by rw [ht]; exact c4)))))
    clear hn ht c4 c3 c2 c1
    go_enter Try.func47, Try.ntmps47
    go_wp2
    go_ret
    exact ⟨ret_bool HM.out.symm, HB.out⟩
  have d4 : decide ((t : Int) ≤ 4) = true := by simp; omega
  have HM := Lib.hid (may_yes (r := ⟨k, ns, ts⟩) (by simp only [hn, ht]; omega))
  clear hn ht c4 c3 c2 c1
  obtain ⟨q, hq⟩ : ∃ q, ts.any bigB = q := ⟨_, rfl⟩
  have HQ := Lib.hid hq
  clear hq
  go_enter Try.func47, Try.ntmps47
  go_wp2_with (go_at_call 52; refine (cont_any At t ct ts _ HT.out bt HR.out.rt).mono ?_; rintro e w1 ⟨rfl, rfl⟩; simp only [HQ.out])
  go_ret
  exact ⟨ret_bool (by rw [HM.out, HQ.out]), HB.out⟩
theorem may_size {r : Rec} : mayB r = true ↔ ¬ (r.kind < 0 ∨ 255 < r.kind ∨ 16 < r.nums.length ∨ 4 < r.texts.length) ∧ ∀ (j : Nat) (y : ByteArray), r.texts[j]? = some y → y.size ≤ 200 := by
  rw [mayB_iff]
  constructor
  · rintro ⟨h1, h2⟩
    exact ⟨by omega, fun j y hy => h2 y (List.mem_of_getElem? hy)⟩
  · rintro ⟨h1, h2⟩
    refine ⟨by omega, fun s hs => ?_⟩
    obtain ⟨j, hj, rfl⟩ := List.getElem_of_mem hs
    exact h2 j _ (List.getElem?_eq_getElem hj)
theorem rmay_any (r : Rec) (An At : Option Addr) (n t cn ct : Nat) (w : World) (h : RecAt w r An At n t cn ct) :
    Calls Try.prog 45 #[recV r.kind An At n t cn ct] w fun e w' => e = .returned (.bool (mayB r)) ∧ Below w.heap.size w w' := by
  have HB := Lib.hid (show Below w.heap.size w (w.alloc (.cells #[.int .i64 r.kind, .slice An n cn, .slice At t ct] 72)) from (Below.refl _ _).alloc (Nat.le_refl _) _)
  have HR := Lib.hid (h.below HB.out)
  obtain ⟨k, ns, ts⟩ := r
  obtain ⟨hn, ht, hrn, hrt, bn, bt⟩ := h
  simp only at hn ht HB HR hrn hrt
  have HN := Lib.hid hn; have HT := Lib.hid ht
  clear hrn hrt
  by_cases c0 : k < 0 ∨ 255 < k ∨ 16 < n ∨ 4 < t
  · have HM := Lib.hid (may_no (r := ⟨k, ns, ts⟩) (by simp only [hn, ht]; exact c0))
    clear hn ht
    by_cases c1 : k < 0
    · have d1 : decide (k < 0) = true := by simpa using c1
      clear c1 c0
      go_enter Try.func45, Try.ntmps45
      go_wp2
      go_ret
      exact ⟨ret_bool HM.out.symm, HB.out⟩
    have d1 : decide (k < 0) = false := by simpa using c1
    by_cases c2 : 255 < k
    · have d2 : decide (255 < k) = true := by simpa using c2
      clear c2 c1 c0
      go_enter Try.func45, Try.ntmps45
      go_wp2
      go_ret
      exact ⟨ret_bool HM.out.symm, HB.out⟩
    have d2 : decide (255 < k) = false := by simpa using c2
    by_cases c3 : 16 < n
    · have d3 : decide (16 < (n : Int)) = true := by simp; omega
      clear c3 c2 c1 c0
      go_enter Try.func45, Try.ntmps45
      go_wp2
      go_ret
      exact ⟨ret_bool HM.out.symm, HB.out⟩
    have d3 : decide (16 < (n : Int)) = false := by simp; omega
    have d4 : decide (4 < (t : Int)) = true := by simp; omega
    clear c3 c2 c1 c0
    go_enter Try.func45, Try.ntmps45
    go_wp2
    go_ret
    exact ⟨ret_bool HM.out.symm, HB.out⟩
  · have d1 : decide (k < 0) = false := by simp; omega
    have d2 : decide (255 < k) = false := by simp; omega
    have d3 : decide (16 < (n : Int)) = false := by simp; omega
    have d4 : decide (4 < (t : Int)) = false := by simp; omega
    have HC := Lib.hid (show ¬ (k < 0 ∨ 255 < k ∨ 16 < ns.length ∨ 4 < ts.length) by rw [hn, ht]; exact c0)
    clear hn ht c0
    go_enter Try.func45, Try.ntmps45
    go_wp2_with fail
    go_loopg [3] t (fun gk s3 wr => ∃ j : Nat, s3 = .int .i64 (j : Int) ∧ j ≤ t ∧ gk = t - j ∧ wr = w.alloc (.cells #[.int .i64 k, .slice An n cn, .slice At t ct] 72) ∧ ∀ (i : Nat) (y : ByteArray), i < j → ts[i]? = some y → y.size ≤ 200)
    case atStart => exact ⟨0, rfl, by omega, by omega, rfl, fun j y h => by omega⟩
    case round =>
      obtain ⟨j, rfl, hj, hgj, rfl, hno⟩ := hrel
      have HNO := Lib.hid hno
      clear hno
      by_cases hjt : j < t
      · have k1 : (j : Int) < (t : Int) := by omega
        have k0 : (0 : Int) ≤ (j : Int) := by omega
        have HX := Lib.hid (List.getElem?_eq_getElem (l := ts) (i := j) (by rw [HT.out]; exact hjt))
        generalize ts[j]'(by rw [HT.out]; exact hjt) = x at *
        obtain ⟨q, o, rfl, u0⟩ := HR.out.rt.str j x HX.out
        by_cases hx : 200 < x.size
        · have hx' : decide ((200 : Int) < (x.size : Int)) = true := by simp; omega
          have HXX := Lib.hid hx
          clear hx
          go_wp2_with fail
          go_ret
          refine ⟨ret_bool ?_, HB.out⟩
          cases hm : mayB ⟨k, ns, ts⟩ with
          | false => rfl
          | true => exact absurd ((may_size.1 hm).2 j x HX.out) (by have := HXX.out; omega)
        · have hx' : decide ((200 : Int) < (x.size : Int)) = false := by simp; omega
          have HXX := Lib.hid hx
          clear hx
          go_wp2_with fail
          go_roundg (t - (j + 1))
          case measure => omega
          case rel =>
            refine ⟨j + 1, by push_cast; rfl, by omega, rfl, rfl, fun i y hi hy => ?_⟩
            by_cases hij : i = j
            · subst hij
              rw [HX.out] at hy
              cases hy
              have := HXX.out
              omega
            · exact HNO.out i y (by omega) hy
      · have k1 : ¬ (j : Int) < (t : Int) := by omega
        have k2 : decide ((j : Int) < (t : Int)) = false := by simp; omega
        go_wp2_with fail
        go_ret
        exact ⟨ret_bool (may_size.2 ⟨HC.out, fun i y hy => HNO.out i y (by have := (List.getElem?_eq_some_iff.1 hy).1; have h2 := HT.out; simp only at this; omega) hy⟩).symm, HB.out⟩
end Go.Proofs.Ytodjmeodcmbdoaa
