/- The walk of the law NetTo: it returns true. No condition but the row's own. -/
import Derived.Test.YtofljgnfbakhoaaNetL1
import Derived.Test.YtofljgnfbakhoaaNetC
set_option linter.unusedVariables false
set_option linter.unusedSimpArgs false
namespace Go.Proofs.Ytofljgnfbakhoaa
open Go.RowKit
def isTo (p : Int) (x : Letter) : Bool := x.to == p
def notTo (p : Int) (x : Letter) : Bool := !(x.to == p)
theorem to_split : ∀ (l : List Letter) (p : Int) (x : Letter) (r : List Letter), l.filter (isTo p) = x :: r → ∃ k, toK l p = (k : Nat) ∧ l[k]? = some x ∧ (takeL l k).filter (isTo p) = r ∧ (takeL l k).filter (notTo p) = l.filter (notTo p)
  | [], p, x, r, h => by simp at h
  | y :: l, p, x, r, h => by
    by_cases hy : y.to = p
    · have h1 : isTo p y = true := by simp [isTo, hy]
      have h2 : notTo p y = false := by simp [notTo, hy]
      rw [List.filter_cons, if_pos h1] at h
      simp only [List.cons.injEq] at h
      obtain ⟨rfl, rfl⟩ := h
      refine ⟨0, toK_at _ p 0 y rfl hy (fun j z hj => by omega), rfl, by simp [takeL], ?_⟩
      rw [List.filter_cons, if_neg (by simp [h2])]
      simp [takeL]
    · have h1 : isTo p y = false := by simp [isTo, hy]
      have h2 : notTo p y = true := by simp [notTo, hy]
      rw [List.filter_cons, if_neg (by simp [h1])] at h
      obtain ⟨k, hk, hx, hf, hg⟩ := to_split l p x r h
      have hlt := (List.getElem?_eq_some_iff.1 hx).1
      have hxp : x.to = p := by
        have : x ∈ l.filter (isTo p) := by rw [h]; exact List.mem_cons_self ..
        simpa [isTo] using (List.mem_filter.1 this).2
      refine ⟨k + 1, toK_at _ p (k + 1) x (by simpa using hx) hxp ?_, by simpa using hx, ?_, ?_⟩
      · intro j z hj hz
        cases j with
        | zero => simp at hz; subst hz; exact hy
        | succ j =>
          simp at hz
          intro hzp
          have hfi : l.findIdx? (fun x => x.to == p) = some k := by
            unfold toK at hk
            cases hq : l.findIdx? (fun x => x.to == p) with
            | none => rw [hq] at hk; simp at hk
            | some q => rw [hq] at hk; simp only at hk; congr 1; omega
          obtain ⟨hj2, rfl⟩ := List.getElem?_eq_some_iff.1 hz
          have := (List.findIdx?_eq_some_iff_getElem.1 hfi).2.2 j (by omega)
          simp at this
          exact this hzp
      · have : takeL (y :: l) (k + 1) = y :: takeL l k := by simp [takeL]
        rw [this, List.filter_cons, if_neg (by simp [h1]), hf]
      · have : takeL (y :: l) (k + 1) = y :: takeL l k := by simp [takeL]
        rw [this, List.filter_cons, if_pos h2, hg, List.filter_cons, if_pos h2]
theorem to_none (l : List Letter) (p : Int) (h : l.filter (isTo p) = []) : toK l p = -1 ∧ l.filter (notTo p) = l := by
  rw [List.filter_eq_nil_iff] at h
  refine ⟨toK_none l p (fun j y hy => ?_), List.filter_eq_self.2 (fun y hy => ?_)⟩
  · have := h y (List.mem_of_getElem? hy)
    simpa [isTo] using this
  · have := h y hy
    simpa [isTo, notTo] using this
theorem atK_nat {k n : Nat} (h : k < n) : atK (k : Int) n = k := by unfold atK; rw [Int.emod_eq_of_lt (by omega) (by omega)]; simp
set_option maxRecDepth 100000 in
set_option maxHeartbeats 2000000 in
theorem w_NetTo (a0 : Option Addr) (n0 c0 : Nat) (a1 : Int) (w : World) (b0 : Sh.Is w (.slice 32 (.pair (.int .i64) (.pair (.int .i64) (.pair .str .unit)))) [.slice a0 n0 c0]) (b1 : -9223372036854775808 ≤ a1 ∧ a1 ≤ 9223372036854775807) :
    Calls Try.prog 6 #[.slice a0 n0 c0, .int .i64 a1] w fun e w' => e = .returned (.bool true) ∧ Below w.heap.size w w' := by
  obtain ⟨xs, xl, xr⟩ := is_letters b0
  have HXL := Lib.hid xl; have HXR := Lib.hid xr
  clear b0 xl xr
  go_enter Try.func6, Try.ntmps6
  go_wp2_with fail
  refine (awake_any _).mono ?_
  rintro e w1 ⟨rfl, hB1⟩
  have HS := Lib.hid ((Sep.nil w).step hB1)
  clear hB1
  go_wp2_with fail
  refine (nnew_sep HS.out).mono ?_
  rintro e w2 ⟨rfl, hs⟩
  have hs1 := hs.newRow tL 3 (g := w2.heap.size) rfl
  have HS := Lib.hid (hs1.newRow tL 3 (g := w2.heap.size + 1) (by simp)).r3
  clear hs hs1
  generalize w1.heap.size = b at *
  go_wp2_with fail
  generalize (w2.alloc (.cells #[] tL)).alloc (.cells #[] tL) = w3 at *
  generalize w2.heap.size + 1 = g7 at *
  generalize w2.heap.size = g6 at *
  go_loopg [6, 7, 8] 401 (fun gk s6 s7 s8 wr => ∃ (k : Nat) (lv v6 v7 : Value) (L : List Letter), v6 = s6 ∧ v7 = s7 ∧ s8 = .int .i64 (k : Int) ∧ k ≤ 400 ∧ gk = 401 - k ∧ L.length ≤ 300 ∧ Sep w wr [tN b lv L, tOwn tL 3 v7 (L.filter (notTo a1)).length (eLet.fl (L.filter (notTo a1))), tOwn tL 3 v6 (L.filter (isTo a1)).length (eLet.fl (L.filter (isTo a1)))])
  case atStart => exact ⟨0, _, _, _, [], rfl, rfl, rfl, by decide, rfl, by decide, HS.out⟩
  case round =>
  clear HS
  obtain ⟨k, lv, v6, v7, L, rfl, rfl, rfl, hk, hgk, hl, hs⟩ := hrel
  obtain ⟨A6, c6, rfl, _⟩ := hs.r3.own.form
  obtain ⟨A7, c7, rfl, _⟩ := hs.sw.own.form
  have HS := Lib.hid hs
  have HLL := Lib.hid hl
  clear hs hl
  by_cases q : k < n0 ∧ k < 400
  · obtain ⟨q1, q2⟩ := q
    have q1' : decide ((k : Int) < (n0 : Int)) = true := by simp; omega
    have q2' : decide ((k : Int) < 400) = true := by simp; omega
    have i0 : (0 : Int) ≤ (k : Int) := by omega
    have i1 : (k : Int) < (n0 : Int) := by omega
    have HX := Lib.hid (List.getElem?_eq_getElem (l := xs) (i := k) (by rw [HXL.out]; exact q1))
    generalize xs[k]'(by rw [HXL.out]; exact q1) = x at *
    obtain ⟨g, o, rfl, y0, y1, y2⟩ := (HXR.out.below HS.out.bel).let3 k x HX.out
    obtain ⟨xf, xt, xd⟩ := x
    simp only at y0 y1 y2
    obtain ⟨e0, he0⟩ : ∃ e, sendE L ⟨xf, xt, xd⟩ = e := ⟨_, rfl⟩
    have HE := Lib.hid he0
    by_cases h0 : e0 = 0
    · subst h0
      have HSL := Lib.hid (sendL_ok he0)
      have hlt : L.length < 300 := (sendE_inv he0).2.2
      have HLN := Lib.hid (show (L ++ [(⟨xf, xt, xd⟩ : Letter)]).length ≤ 300 by simp; omega)
      clear he0
      by_cases ht : xt = a1
      · have ht' : (xt == a1) = true := by simpa using ht
        have HF1 := Lib.hid (show (L ++ [(⟨xf, xt, xd⟩ : Letter)]).filter (isTo a1) = L.filter (isTo a1) ++ [⟨xf, xt, xd⟩] by rw [List.filter_append]; simp [isTo, ht])
        have HF2 := Lib.hid (show (L ++ [(⟨xf, xt, xd⟩ : Letter)]).filter (notTo a1) = L.filter (notTo a1) by rw [List.filter_append]; simp [notTo, ht])
        have HL32 := Lib.hid (show ((L.filter (isTo a1)).length + 1) * 32 ≤ 140737488355328 by have := List.length_filter_le (isTo a1) L; omega)
        clear ht
        go_wp2_with (first
          | (go_at_call 11; with_reducible refine (send_sep HS.out ⟨xf, xt, xd⟩).mono ?_; rw [HE.out, HSL.out]; rintro e w4 ⟨rfl, la4, hs⟩; have HS4 := Lib.hid hs.r3; obtain ⟨g', o', he', v0, v1, v2⟩ := (HXR.out.below hs.bel).let3 k _ HX.out; simp only [Option.some.injEq, Addr.mk.injEq, and_true] at he'; rw [← he'.1, ← he'.2] at v0 v1 v2; simp only at v0 v1 v2; clear hs he' y0 y1 y2)
          | (at_builtin; refine app1O 27 tL (.agg #[.int .i64 0, .int .i64 0, .string ByteArray.empty]) 3 32 (eLet.f ⟨xf, xt, xd⟩) HS4.out.own HL32.out Try.underlying27 Try.infoL rfl (by decide) (by decide) rfl (eLet.one _) (.tmp 45) (.tmp 50) rfl rfl rfl rfl ?_; intro v5 w5 ho hg hat; have HS5 := Lib.hid (HS4.out.appG ho hg hat).r3'; clear ho hg hat))
        go_roundg (401 - (k + 1))
        case measure => omega
        case rel => exact ⟨k + 1, _, _, _, L ++ [⟨xf, xt, xd⟩], rfl, rfl, by push_cast; rfl, by omega, rfl, HLN.out, by rw [HF1.out, HF2.out, Enc.snoc, List.length_append]; exact HS5.out⟩
      · have ht' : (xt == a1) = false := by simpa using ht
        have HF1 := Lib.hid (show (L ++ [(⟨xf, xt, xd⟩ : Letter)]).filter (isTo a1) = L.filter (isTo a1) by rw [List.filter_append]; simp [isTo, ht])
        have HF2 := Lib.hid (show (L ++ [(⟨xf, xt, xd⟩ : Letter)]).filter (notTo a1) = L.filter (notTo a1) ++ [⟨xf, xt, xd⟩] by rw [List.filter_append]; simp [notTo, ht])
        have HL32 := Lib.hid (show ((L.filter (notTo a1)).length + 1) * 32 ≤ 140737488355328 by have := List.length_filter_le (notTo a1) L; omega)
        clear ht
        go_wp2_with (first
          | (go_at_call 11; with_reducible refine (send_sep HS.out ⟨xf, xt, xd⟩).mono ?_; rw [HE.out, HSL.out]; rintro e w4 ⟨rfl, la4, hs⟩; have HS4 := Lib.hid hs.sw; obtain ⟨g', o', he', v0, v1, v2⟩ := (HXR.out.below hs.bel).let3 k _ HX.out; simp only [Option.some.injEq, Addr.mk.injEq, and_true] at he'; rw [← he'.1, ← he'.2] at v0 v1 v2; simp only at v0 v1 v2; clear hs he' y0 y1 y2)
          | (at_builtin; refine app1O 27 tL (.agg #[.int .i64 0, .int .i64 0, .string ByteArray.empty]) 3 32 (eLet.f ⟨xf, xt, xd⟩) HS4.out.own HL32.out Try.underlying27 Try.infoL rfl (by decide) (by decide) rfl (eLet.one _) (.tmp 52) (.tmp 57) rfl rfl rfl rfl ?_; intro v5 w5 ho hg hat; have HS5 := Lib.hid (HS4.out.appG ho hg hat).sw; clear ho hg hat))
        go_roundg (401 - (k + 1))
        case measure => omega
        case rel => exact ⟨k + 1, _, _, _, L ++ [⟨xf, xt, xd⟩], rfl, rfl, by push_cast; rfl, by omega, rfl, HLN.out, by rw [HF1.out, HF2.out, Enc.snoc, List.length_append]; exact HS5.out⟩
    · have h0' : (e0 != 0) = true := by simpa using h0
      have HSL := Lib.hid (sendL_no (by rw [he0]; exact h0))
      clear he0 h0
      go_wp2_with (go_at_call 11; with_reducible refine (send_sep HS.out ⟨xf, xt, xd⟩).mono ?_; rw [HE.out, HSL.out]; rintro e w4 ⟨rfl, la4, hs⟩; have HS4 := Lib.hid hs; clear hs)
      go_roundg (401 - (k + 1))
      case measure => omega
      case rel => exact ⟨k + 1, _, _, _, L, rfl, rfl, by push_cast; rfl, by omega, rfl, HLL.out, HS4.out⟩
  · have q3 : (k < n0 → ¬ k < 400) := fun h1 h2 => q ⟨h1, h2⟩
    clear q
    obtain ⟨U, hU⟩ : ∃ U, L.filter (isTo a1) = U := ⟨_, rfl⟩
    obtain ⟨V, hV⟩ : ∃ V, L.filter (notTo a1) = V := ⟨_, rfl⟩
    obtain ⟨n, hn⟩ : ∃ n, U.length = n := ⟨_, rfl⟩
    obtain ⟨m, hm⟩ : ∃ m, V.length = m := ⟨_, rfl⟩
    have hn3 : n ≤ 300 := by rw [← hn, ← hU]; have := List.length_filter_le (isTo a1) L; have := HLL.out; omega
    have hm3 : m ≤ 300 := by rw [← hm, ← hV]; have := List.length_filter_le (notTo a1) L; have := HLL.out; omega
    have hs := HS.out
    rw [hU, hV, hn, hm] at hs
    have HS := Lib.hid hs
    have HN := Lib.hid hn; have HU := Lib.hid hU; have HV := Lib.hid hV; have HM := Lib.hid hm
    clear hs hn hU hV hm
    by_cases q1 : k < n0
    all_goals
      first
        | have q1' : decide ((k : Int) < (n0 : Int)) = true := by simp; omega
        | (have q1' : decide ((k : Int) < (n0 : Int)) = false := by simp; omega
           have q1n : ¬ ((k : Int) < (n0 : Int)) := by omega)
      first
        | have q2' : decide ((k : Int) < 400) = false := by have := q3 q1; simp; omega
        | have q2' : True := trivial
      clear q3
      rw [HU.out, HV.out, HN.out, HM.out]
      go_wp2_with fail
      go_loopg [61] n (fun gk s61 wr => ∃ (j : Nat) (lv : Value) (N : List Letter), s61 = .int .i64 (j : Int) ∧ j ≤ n ∧ gk = n - j ∧ N.length ≤ 300 ∧ N.filter (isTo a1) = U.drop j ∧ N.filter (notTo a1) = V ∧ Sep w wr [tN b lv N, tOwn tL 3 (.slice A7 m c7) m (eLet.fl V), tOwn tL 3 (.slice A6 n c6) n (eLet.fl U)])
      case atStart => exact ⟨0, _, L, rfl, by omega, by omega, HLL.out, by simpa using HU.out, HV.out, HS.out⟩
      case round =>
      clear HS
      obtain ⟨j, lv, N, rfl, hj, hgj, hN3, hNU, hNV, hs⟩ := hrel
      have HS := Lib.hid hs
      have HNL := Lib.hid hN3; have HNU := Lib.hid hNU; have HNV := Lib.hid hNV
      clear hs hN3 hNU hNV
      by_cases hjn : j < n
      · have j0 : (0 : Int) ≤ (j : Int) := by omega
        have j1 : (j : Int) < (n : Int) := by omega
        have HX := Lib.hid (List.getElem?_eq_getElem (l := U) (i := j) (by rw [HN.out]; exact hjn))
        have hd := List.drop_eq_getElem_cons (l := U) (i := j) (by rw [HN.out]; exact hjn)
        generalize U[j]'(by rw [HN.out]; exact hjn) = x at *
        obtain ⟨t, ht, hx, hf, hg⟩ := to_split N a1 x (U.drop (j + 1)) (by rw [HNU.out, hd])
        have htl := (List.getElem?_eq_some_iff.1 hx).1
        have HK := Lib.hid ht; have HXX := Lib.hid hx; have HF := Lib.hid hf
        have HG := Lib.hid (show (takeL N t).filter (notTo a1) = V by rw [hg]; exact HNV.out)
        have HAT := Lib.hid (atK_nat htl)
        have HTL := Lib.hid (Nat.le_trans (takeL_le N t) HNL.out)
        clear ht hx hf hg hd htl
        obtain ⟨xf, xt, xd⟩ := x
        have t0 : max (t : Int) 0 = t := by omega
        have t1 : decide ((0 : Int) ≤ (t : Int)) = true := by simp
        have HT0 := Lib.hid t0; have HT1 := Lib.hid t1
        clear t0 t1
        go_wp2_with fail
        refine (to_sep HS.out HNL.out a1 t HK.out).mono ?_
        rw [HT0.out, HT1.out]
        rintro e w7 ⟨rfl, hs⟩
        have HS7 := Lib.hid hs
        clear hs HS
        go_wp2_with fail
        refine (take_some HS7.out (t : Int) t ⟨xf, xt, xd⟩ HAT.out HXX.out HNL.out).mono ?_
        rintro e w8 ⟨rfl, lv8, hs⟩
        obtain ⟨g, o, rfl, y0, y1, y2⟩ := ((show Own w8 tL 3 (.slice A6 n c6) n (eLet.fl U) from hs.h3).alloc (.cells #[.int .i64 xf, .int .i64 xt, .string xd] tL)).rd.let3 j _ HX.out
        simp only at y0 y1 y2
        have HS8 := Lib.hid (hs.newBlk #[.int .i64 xf, .int .i64 xt, .string xd] tL (g := w8.heap.size) rfl).sw
        clear hs HS7
        go_upto_region 20 with fail
        have v0 := (show Blk (w8.alloc (.cells #[.int .i64 xf, .int .i64 xt, .string xd] tL)) w8.heap.size #[.int .i64 xf, .int .i64 xt, .string xd] tL from HS8.out.h2).cell 0
        have v1 := (show Blk (w8.alloc (.cells #[.int .i64 xf, .int .i64 xt, .string xd] tL)) w8.heap.size #[.int .i64 xf, .int .i64 xt, .string xd] tL from HS8.out.h2).cell 1
        have v2 := (show Blk (w8.alloc (.cells #[.int .i64 xf, .int .i64 xt, .string xd] tL)) w8.heap.size #[.int .i64 xf, .int .i64 xt, .string xd] tL from HS8.out.h2).cell 2
        generalize w8.alloc (.cells #[.int .i64 xf, .int .i64 xt, .string xd] tL) = w9 at *
        generalize w8.heap.size = g9 at *
        simp at v0 v1 v2
        go_quiet (fail)
        go_wp2_with fail
        go_roundg (n - (j + 1))
        case measure => omega
        case rel => exact ⟨j + 1, _, takeL N t, by push_cast; rfl, by omega, rfl, HTL.out, HF.out, HG.out, HS8.out.d2.drewN nq⟩
      · have j2 : ¬ (j : Int) < (n : Int) := by omega
        have j3 : decide ((j : Int) < (n : Int)) = false := by simp; omega
        have hnone := to_none N a1 (by rw [HNU.out, List.drop_eq_nil_iff, HN.out]; omega)
        have HK := Lib.hid hnone.1
        have HNE := Lib.hid (show N = V by rw [← HNV.out, hnone.2])
        clear hnone
        go_wp2_with fail
        refine (to_sep HS.out HNL.out a1 (-1) HK.out).mono ?_
        rw [show max (-1 : Int) 0 = 0 by decide, show decide ((0 : Int) ≤ -1) = false by decide]
        rintro e w7 ⟨rfl, hs⟩
        rw [HNE.out] at hs
        have HS7 := Lib.hid hs
        clear hs HS
        go_wp2_with fail
        refine (all_sep HS7.out (by rw [HM.out]; exact hm3)).mono ?_
        rw [HM.out]
        rintro e w8 ⟨A8, c8, rfl, hs⟩
        have R8 := Lib.hid (show Rd w8 A8 (eLet.fl V) from hs.own.rd)
        have R7 := Lib.hid (show Rd w8 A7 (eLet.fl V) from (show Own w8 tL 3 (.slice A7 m c7) m (eLet.fl V) from hs.h3).rd)
        have HB := Lib.hid hs.bel
        clear hs
        go_wp2_with fail
        refine (same_any A8 A7 m c8 c7 V w8 HM.out R8.out R7.out (by omega)).mono ?_
        rintro e w9 ⟨rfl, q9, rfl⟩
        go_wp2_with fail
        go_ret
        exact ⟨rfl, ⟨HB.out.os, HB.out.tape, HB.out.output, HB.out.size, HB.out.block⟩⟩
end Go.Proofs.Ytofljgnfbakhoaa
