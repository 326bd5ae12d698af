/- The walks of package net: all letters, the first to a place; and of the law's 'same'. Conditions: at most 300 letters. -/
import Derived.Test.YtofljgnfbakhoaaNetV
import Derived.Laws.StructEq
set_option linter.unusedVariables false
set_option linter.unusedSimpArgs false
namespace Go.Proofs.Ytofljgnfbakhoaa
open Go.RowKit
/-- slices.Clone of letters: nil of nil; else a row of its own. -/
theorem clone_any (A : Option Addr) (n c : Nat) (l : List Letter) (w : World) (hl : l.length = n) (hn : n * 32 ≤ 140737488355328) (hr : Rd w A (eLet.fl l)) (hz : A = none → n = 0 ∧ c = 0) :
    Calls Try.prog 26 #[.slice A n c] w fun e w' => ∃ v, e = .returned v ∧ Own w' tL 3 v n (eLet.fl l) ∧ Below w.heap.size w w' ∧ ∀ g, v.ownBlock = some g → w.heap.size ≤ g := by
  have qT : ∀ (w : World) (a : Option Addr) (n c n' c' : Nat), (binOp .eql 27 (.slice a n c) (.slice none n' c')).run Try.prog w = .ok (.bool a.isNone) w := fun w a n c n' c' => Lib.run_eql_slice_nil w _ _ a n c n' c' Try.underlying27
  have HL := Lib.hid hl; clear hl
  have HR := Lib.hid hr; clear hr
  cases A with
  | none =>
    obtain ⟨rfl, rfl⟩ := hz rfl
    have hl0 : l = [] := List.eq_nil_of_length_eq_zero HL.out
    subst hl0
    go_enter Try.func26, Try.ntmps26
    go_wp2
    go_ret
    exact ⟨_, rfl, Own.nil _ _ _, Below.refl _ _, fun g hg => by simp [Value.ownBlock] at hg⟩
  | some a =>
    clear hz
    have ho := Lib.hid (Own.empty w tL 3 (g := w.heap.size) rfl)
    have hb : Below w.heap.size w (w.alloc (.cells #[] tL)) := (Below.refl _ _).alloc (Nat.le_refl _) _
    have HB := Lib.hid hb; clear hb
    go_enter Try.func26, Try.ntmps26
    go_wp2_with (at_builtin; go_loud (refine appendO 27 tL (.agg #[.int .i64 0, .int .i64 0, .string ByteArray.empty]) 3 32 (eLet.fl l) n ho.out (by omega) Try.underlying27 Try.infoL rfl (by decide) (by decide) (by rw [Enc.length, HL.out]; rfl) (Enc.ones l) (some a) c (HR.out.below HB.out) (fun e => nomatch e) (.tmp 5) (.tmp 6) rfl rfl rfl rfl ?_); intro v1 w2 hown2 hg2 hat2)
    go_ret
    refine ⟨_, rfl, by simpa using hown2, HB.out.grown hg2 (by simp) (fun k hk => ?_), fun g hg => ?_⟩
    · simp [Value.ownBlock] at hk
      omega
    · have hg : v1.ownBlock = some g := hg
      rcases hat2 with e | e
      · rw [e] at hg; simp [Value.ownBlock] at hg; omega
      · rw [e] at hg; simp at hg; omega
section
variable {w W : World} {r : List Th} {b : Nat} {lv : Value} {l : List Letter}
theorem all_sep (h : Sep w W (tN b lv l :: r)) (hn2 : l.length ≤ 300) :
    Calls Try.prog 18 #[.pointer (some ⟨b, 0, none⟩)] W fun e W' => ∃ A c, e = .returned (.slice A l.length c) ∧ Sep w W' (tOwn tL 3 (.slice A l.length c) l.length (eLet.fl l) :: tN b lv l :: r) := by
  obtain ⟨hb, A, c, rfl, _, hA, hR⟩ := h.box
  have z0 : W.cell? ⟨b, 0, none⟩ = some (.slice A l.length c) := hb.cell 0
  have HT := Lib.hid h
  have HA := Lib.hid hA
  have HR := Lib.hid hR
  clear h hb hA hR
  go_enter Try.func18, Try.ntmps18
  go_wp2_with (go_at_call 26; go_loud (refine (clone_any A l.length c l W rfl (by omega) HR.out HA.out).mono ?_); rintro e w1 ⟨v, rfl, ho1, hB1, hG1⟩)
  go_ret
  obtain ⟨A1, c1, rfl, _⟩ := ho1.form
  exact ⟨A1, c1, rfl, HT.out.new (t := tOwn tL 3 (.slice A1 l.length c1) l.length (eLet.fl l)) hB1 ho1 (fun k hk => hG1 k hk)⟩
end
theorem toK_at (l : List Letter) (p : Int) (k : Nat) (x : Letter) (hx : l[k]? = some x) (h : x.to = p) (hb : ∀ (j : Nat) (y : Letter), j < k → l[j]? = some y → y.to ≠ p) : toK l p = k := by
  obtain ⟨hk, rfl⟩ := List.getElem?_eq_some_iff.1 hx
  have : l.findIdx? (fun x => x.to == p) = some k := by
    rw [List.findIdx?_eq_some_iff_getElem]
    exact ⟨hk, by simpa using h, fun j hj => by simpa using hb j _ hj (List.getElem?_eq_getElem (by omega))⟩
  unfold toK; rw [this]
theorem toK_none (l : List Letter) (p : Int) (hb : ∀ (j : Nat) (y : Letter), l[j]? = some y → y.to ≠ p) : toK l p = -1 := by
  have : l.findIdx? (fun x => x.to == p) = none := by
    rw [List.findIdx?_eq_none_iff]
    intro y hy
    obtain ⟨j, hj, rfl⟩ := List.getElem_of_mem hy
    simpa using hb j _ (List.getElem?_eq_getElem hj)
  unfold toK; rw [this]
theorem clo_any (x : Letter) (p : Int) (g : Nat) (w : World) (hg : Blk w g #[.int .i64 p] 3) :
    Calls Try.prog 28 #[x.agg, .pointer (some ⟨g, 0, none⟩)] w fun e w' => e = .returned (.bool (x.to == p)) ∧ Below w.heap.size w w' := by
  have z0 : ∀ o, (w.alloc o).cell? ⟨g, 0, none⟩ = some (.int .i64 p) := fun o => (hg.alloc o).cell 0
  obtain ⟨xf, xt, xd⟩ := x
  clear hg
  go_enter Try.func28, Try.ntmps28
  go_wp2
  go_ret
  exact ⟨rfl, (Below.refl _ _).alloc (Nat.le_refl _) _⟩
theorem idx_any (A : Option Addr) (n c : Nat) (l : List Letter) (p : Int) (g : Nat) (w : World) (hl : l.length = n) (hn : n ≤ 300) (hr : Rd w A (eLet.fl l)) (hg : Blk w g #[.int .i64 p] 3) :
    Calls Try.prog 27 #[.slice A n c, .func (.func 28) #[] #[.pointer (some ⟨g, 0, none⟩)]] w fun e w' => e = .returned (.int .i64 (toK l p)) ∧ Below w.heap.size w w' := by
  have HL := Lib.hid hl; clear hl
  have HR := Lib.hid hr; clear hr
  have HG := Lib.hid hg; clear hg
  go_enter Try.func27, Try.ntmps27
  go_wp2_with fail
  go_loopg [8] n (fun gk s8 wr => ∃ k : Nat, s8 = .int .i64 (k : Int) ∧ k ≤ n ∧ gk = n - k ∧ Below w.heap.size w wr ∧ ∀ (j : Nat) (y : Letter), j < k → l[j]? = some y → y.to ≠ p)
  case atStart => exact ⟨0, rfl, by omega, by omega, Below.refl _ _, fun j y h => by omega⟩
  case round =>
    obtain ⟨k, rfl, hk, hgk, hb, hno⟩ := hrel
    have HB := Lib.hid hb; have HN := Lib.hid hno
    clear hb hno
    by_cases hkn : k < n
    · have k1 : (k : Int) < (n : Int) := by omega
      have k0 : (0 : Int) ≤ (k : Int) := by omega
      have HX := Lib.hid (List.getElem?_eq_getElem (l := l) (i := k) (by rw [HL.out]; exact hkn))
      generalize l[k]'(by rw [HL.out]; exact hkn) = x at *
      obtain ⟨q, o, rfl, u0, u1, u2⟩ := (HR.out.below HB.out).let3 k x HX.out
      by_cases hp : x.to = p
      · have hp' : (x.to == p) = true := by simpa using hp
        have HP := Lib.hid hp'
        have HPP := Lib.hid hp
        clear hp hp'
        go_wp2_with (go_at_call 28; with_reducible refine (clo_any x p g wr (HG.out.upd (Upd.of_below (S := fun _ => False) HB.out) (fun h => h))).mono ?_; rintro e w1 ⟨rfl, hB1⟩; simp only [HP.out])
        go_ret
        exact ⟨ret_int (toK_at l p k x HX.out HPP.out HN.out).symm, HB.out.trans (hB1.mono HB.out.size)⟩
      · have hp' : (x.to == p) = false := by simpa using hp
        have HP := Lib.hid hp'
        have HPP := Lib.hid hp
        clear hp hp'
        go_wp2_with (go_at_call 28; with_reducible refine (clo_any x p g wr (HG.out.upd (Upd.of_below (S := fun _ => False) HB.out) (fun h => h))).mono ?_; rintro e w1 ⟨rfl, hB1⟩; simp only [HP.out])
        go_roundg (n - (k + 1))
        case measure => omega
        case rel =>
          refine ⟨k + 1, by push_cast; rfl, by omega, rfl, HB.out.trans (hB1.mono HB.out.size), fun j y hj hy => ?_⟩
          by_cases hjk : j = k
          · subst hjk
            rw [HX.out] at hy
            cases hy
            exact HPP.out
          · exact HN.out j y (by omega) hy
    · have k1 : ¬ (k : Int) < (n : Int) := by omega
      have k2 : decide ((k : Int) < (n : Int)) = false := by simp; omega
      go_wp2_with fail
      go_ret
      exact ⟨ret_int (toK_none l p (fun j y hy => HN.out j y (by have := (List.getElem?_eq_some_iff.1 hy).1; rw [HL.out] at this; omega) hy)).symm, HB.out⟩
section
variable {w W : World} {r : List Th} {b : Nat} {lv : Value} {l : List Letter}
theorem to_sep (h : Sep w W (tN b lv l :: r)) (hn2 : l.length ≤ 300) (p t : Int) (ht : toK l p = t) :
    Calls Try.prog 21 #[.pointer (some ⟨b, 0, none⟩), .int .i64 p] W fun e W' => e = .returned (.tuple #[.int .i64 (max t 0), .bool (decide (0 ≤ t))]) ∧ Sep w W' (tN b lv l :: r) := by
  obtain ⟨hb, A, c, rfl, _, hA, hR⟩ := h.box
  have z0 : ∀ o, (W.alloc o).cell? ⟨b, 0, none⟩ = some (.slice A l.length c) := fun o => (hb.alloc o).cell 0
  have HT := Lib.hid (h.alloc (.cells #[.int .i64 p] 3))
  have HR := Lib.hid (hR.below ((Below.refl _ _).alloc (Nat.le_refl _) (.cells #[.int .i64 p] 3)))
  have HK := Lib.hid ht
  clear h hb hA hR ht
  go_enter Try.func21, Try.ntmps21
  go_wp2_with (go_at_call 27; go_loud (refine (idx_any A l.length c l p W.heap.size _ rfl hn2 HR.out (Blk.new W _ _)).mono ?_); rintro e w1 ⟨rfl, hB1⟩; simp only [HK.out]; have HS := Lib.hid (HT.out.step hB1); clear hB1)
  all_goals
    go_ret2
    exact ⟨by simp; omega, HS.out⟩
end
theorem same_any (A B : Option Addr) (n c d : Nat) (xs : List Letter) (w : World) (hx : xs.length = n) (rx : Rd w A (eLet.fl xs)) (ry : Rd w B (eLet.fl xs)) (hn : n ≤ 140737488351232) :
    Calls Try.prog 19 #[.slice A n c, .slice B n d] w fun e w' => e = .returned (.bool true) ∧ ∃ k, w' = w.drewN k := by
  have HX := Lib.hid hx; clear hx
  have RX := Lib.hid rx; clear rx
  have RY := Lib.hid ry; clear ry
  have k0 : ((n : Int) != (n : Int)) = false := by simp
  go_enter Try.func19, Try.ntmps19
  go_wp2
  go_loopw [13] (fun i wr => ∃ k q : Nat, k ≤ n ∧ i = .int .i64 k ∧ wr = w.drewN q) (fun i _ => n - (intOf i).toNat)
  case atStart => exact ⟨0, 0, by omega, rfl, rfl⟩
  case round =>
    obtain ⟨k, q, hk, rfl, rfl⟩ := hrel
    by_cases hlt : k < n
    · have HE := Lib.hid (List.getElem?_eq_getElem (l := xs) (i := k) (by rw [HX.out]; exact hlt))
      generalize xs[k]'(by rw [HX.out]; exact hlt) = x at *
      obtain ⟨b, o, rfl, r0, r1, r2⟩ := RX.out.let3 k x HE.out
      obtain ⟨b2, o2, rfl, s0, s1, s2⟩ := RY.out.let3 k x HE.out
      obtain ⟨x0, x1, x2⟩ := x
      simp only at r0 r1 r2 s0 s1 s2
      have i1 : (k : Int) < (n : Int) := by omega
      have i0 : (0 : Int) ≤ (k : Int) := by omega
      go_wp2_with fail
      go_quiet (fail)
      go_wp2_with fail
      go_roundw
      case rel => exact ⟨k + 1, q + nq, by omega, by go_num, rfl⟩
      case measure => simp [intOf]; omega
    · go_wp2
      go_ret
      exact ⟨rfl, q, rfl⟩
end Go.Proofs.Ytofljgnfbakhoaa
