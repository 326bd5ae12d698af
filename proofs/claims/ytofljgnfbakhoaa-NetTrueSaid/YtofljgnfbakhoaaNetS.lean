/- The walks of the document's net: what goes, the first to a place. Conditions: at most 300 letters are under way. -/
import Derived.Test.YtofljgnfbakhoaaNetR
set_option linter.unusedVariables false
set_option linter.unusedSimpArgs false
namespace Go.Proofs.Ytofljgnfbakhoaa
open Go.RowKit
theorem takeL_step (l : List Letter) (j k : Nat) (x : Letter) (hx : l[j]? = some x) (h : j ≠ k) : takeL (l.take (j + 1)) k = takeL (l.take j) k ++ [x] := by
  obtain ⟨hj, rfl⟩ := List.getElem?_eq_some_iff.1 hx
  unfold takeL
  rw [List.take_succ_eq_append_getElem hj]
  by_cases hjk : j < k
  · have d1 : (l.take j).drop (k + 1) = [] := List.drop_eq_nil_of_le (by simp; omega)
    have d2 : (l.take j ++ [l[j]]).drop (k + 1) = [] := List.drop_eq_nil_of_le (by simp; omega)
    rw [d1, d2, List.take_of_length_le (by simp; omega), List.take_of_length_le (l := l.take j) (by simp; omega)]
    simp
  · rw [List.take_append_of_le_length (by simp; omega), List.drop_append_of_le_length (by simp; omega), List.append_assoc]
theorem takeL_skip (l : List Letter) (k : Nat) : takeL (l.take (k + 1)) k = takeL (l.take k) k := by
  unfold takeL
  rw [List.drop_eq_nil_of_le (by simp; omega), List.drop_eq_nil_of_le (by simp; omega), List.take_take, List.take_take, Nat.min_eq_left (by omega), Nat.min_self]
section
variable {w W : World} {r : List Th} {b : Nat} {lv : Value} {l : List Letter}
theorem rtake_none (h : Sep w W (tR b lv [] :: r)) (i : Int) :
    Calls Try.prog 14 #[.pointer (some ⟨b, 0, none⟩), .int .i64 i] W fun e W' => e = .returned (.tuple #[.agg #[.int .i64 0, .int .i64 0, .string ByteArray.empty], .bool false]) ∧ Sep w W' (tR b lv [] :: r) := by
  obtain ⟨hb, A, c, rfl, _⟩ := h.box
  have HB := Lib.hid hb
  have HT := Lib.hid h
  clear h hb
  go_enter Try.func14, Try.ntmps14
  go_wp2_with (go_at_call 25; refine (rat_none A c i _ (HB.out.alloc _)).mono ?_; rintro e w' ⟨rfl, rfl⟩)
  exact ret_cell_tmp (k := 4) (u := 5) (by kernel_rfl) rfl rfl (Blk.new W _ tL) (by kernel_rfl) (by kernel_rfl) ⟨rfl, HT.out.alloc _⟩
set_option maxRecDepth 100000 in
set_option maxHeartbeats 1000000 in
theorem rtake_some (h : Sep w W (tR b lv l :: r)) (i : Int) (k : Nat) (x : Letter) (hk : atK i l.length = k) (hx : l[k]? = some x) (hn2 : l.length ≤ 300) :
    Calls Try.prog 14 #[.pointer (some ⟨b, 0, none⟩), .int .i64 i] W fun e W' => e = .returned (.tuple #[x.agg, .bool true]) ∧ ∃ lv', Sep w W' (tR b lv' (takeL l k) :: r) := by
  obtain ⟨hkl, hx0⟩ := List.getElem?_eq_some_iff.1 hx
  have hn : 0 < l.length := by omega
  obtain ⟨hb, A, c, rfl, hlc, hA, hR⟩ := h.box
  obtain ⟨gb, go, rfl, u0, u1, u2⟩ := hR.let3 k x hx
  have HT4 := Lib.hid (h.newBlk #[.int .i64 0, .int .i64 0, .string ByteArray.empty] tL (g := W.heap.size) rfl)
  have HT8 := Lib.hid (HT4.out.newBlk #[.int .i64 x.frm, .int .i64 x.to, .string x.body] tL (g := W.heap.size + 1) (by simp))
  have HT9 := Lib.hid (HT8.out.newRow tL 3 (g := W.heap.size + 1 + 1) (by simp)).r4.sw
  have hb4 := HT4.out.sw.box.1
  have BB := (Below.refl W.heap.size W).alloc (Nat.le_refl _) (.cells #[.int .i64 0, .int .i64 0, .string ByteArray.empty] tL)
  have v0 := (BB.cell (World.block_lt_of_cell? W _ u0)).trans u0
  have v1 := (BB.cell (World.block_lt_of_cell? W _ u1)).trans u1
  have v2 := (BB.cell (World.block_lt_of_cell? W _ u2)).trans u2
  have z0 : (W.alloc (.cells #[.int .i64 0, .int .i64 0, .string ByteArray.empty] tL)).cell? ⟨b, 0, none⟩ = some (.slice (some ⟨gb, go, none⟩) l.length c) := hb4.cell 0
  have HB4 := Lib.hid hb4
  have i0 : (0 : Int) ≤ (k : Int) := by omega
  have i1 : (k : Int) < (l.length : Int) := by omega
  have i2 : decide ((k : Int) < 0) = false := by simp
  have HK := Lib.hid hk
  have HXK := Lib.hid hx
  clear hb4 u0 u1 u2 BB hk hx hx0 hR hA h hb
  go_enter Try.func14, Try.ntmps14
  go_upto_region 6 with (go_at_call 25; refine (rat_some _ l.length c i _ HB4.out hn hn2).mono ?_; rintro e w' ⟨rfl, rfl⟩; simp only [HK.out])
  clear v0 v1 v2 z0
  go_wp2_with fail
  generalize ((W.alloc (.cells #[.int .i64 0, .int .i64 0, .string ByteArray.empty] tL)).alloc (.cells #[.int .i64 x.frm, .int .i64 x.to, .string x.body] tL)).alloc (.cells #[] tL) = wc at *
  generalize W.heap.size = g4 at *
  clear HT4 HT8 HB4
  go_loopg [8, 9] l.length (fun gk s8 s9 wr => ∃ (j : Nat) (v8 : Value), v8 = s8 ∧ s9 = .int .i64 (j : Int) ∧ j ≤ l.length ∧ gk = l.length - j ∧ Sep w wr (tOwn tL 3 v8 (takeL (l.take j) k).length (eLet.fl (takeL (l.take j) k)) :: tR b (.slice (some ⟨gb, go, none⟩) l.length c) l :: tBlk (g4 + 1) #[.int .i64 x.frm, .int .i64 x.to, .string x.body] tL :: tBlk g4 #[.int .i64 0, .int .i64 0, .string ByteArray.empty] tL :: r))
  case atStart => exact ⟨0, _, rfl, rfl, by omega, by omega, by simpa [takeL, Enc.nil] using HT9.out⟩
  case round =>
    clear HT9
    obtain ⟨j, v8, rfl, rfl, hj, hgj, hs⟩ := hrel
    have HS := Lib.hid hs
    have HBR := Lib.hid (show Blk wr b #[.slice (some ⟨gb, go, none⟩) l.length c] 29 from hs.sw.box.1)
    have z0 : wr.cell? ⟨b, 0, none⟩ = some (.slice (some ⟨gb, go, none⟩) l.length c) := HBR.out.cell 0
    clear hs
    by_cases hjl : j < l.length
    · have j1 : (j : Int) < (l.length : Int) := by omega
      have j0 : (0 : Int) ≤ (j : Int) := by omega
      by_cases hjk : j = k
      · subst hjk
        have jk : ((j : Int) != (j : Int)) = false := by simp
        go_wp2_with fail
        go_roundg (l.length - (j + 1))
        case measure => omega
        case rel =>
          refine ⟨j + 1, _, rfl, by push_cast; rfl, by omega, rfl, ?_⟩
          rw [takeL_skip]
          exact HS.out
      · have jk : ((j : Int) != (k : Int)) = true := by simp; omega
        have HX := Lib.hid (List.getElem?_eq_getElem hjl)
        generalize l[j] = y at *
        have HSt := Lib.hid (takeL_step l j k y HX.out hjk)
        obtain ⟨q, o, he, u0, u1, u2⟩ := (show Rd wr (some ⟨gb, go, none⟩) (eLet.fl l) from HS.out.sw.boxOwn.rd).let3 j y HX.out
        simp only [Option.some.injEq, Addr.mk.injEq, and_true] at he
        obtain ⟨rfl, rfl⟩ := he
        obtain ⟨xf, xt, xd⟩ := y
        simp only at u0 u1 u2
        have HLE := Lib.hid (show ((takeL (l.take j) k).length + 1) * 32 ≤ 140737488355328 by unfold takeL; simp only [List.length_append, List.length_take, List.length_drop]; omega)
        have HO := Lib.hid HS.out.own
        clear hjk
        generalize hL : takeL (l.take j) k = L at *
        go_wp2_with (at_builtin; refine app1O 27 tL (.agg #[.int .i64 0, .int .i64 0, .string ByteArray.empty]) 3 32 (eLet.f ⟨xf, xt, xd⟩) HO.out HLE.out Try.underlying27 Try.infoL rfl (by decide) (by decide) rfl (eLet.one _) (.tmp 36) (.tmp 44) rfl rfl rfl rfl ?_; intro v1 w1 ho1 hg1 hat1; have HS1 := Lib.hid (HS.out.appG ho1 hg1 hat1); clear ho1 hg1 hat1)
        go_roundg (l.length - (j + 1))
        case measure => omega
        case rel =>
          refine ⟨j + 1, _, rfl, by push_cast; rfl, by omega, rfl, ?_⟩
          rw [HSt.out, Enc.snoc, List.length_append]
          exact HS1.out
    · have j1 : ¬ (j : Int) < (l.length : Int) := by omega
      have j2 : decide ((j : Int) < (l.length : Int)) = false := by simp; omega
      have hje : j = l.length := by omega
      have hs := HS.out
      rw [hje, List.take_length] at hs
      obtain ⟨A8, c8, rfl, _⟩ := hs.own.form
      obtain ⟨m8, hm8⟩ : ∃ m, (takeL l k).length = m := ⟨_, rfl⟩
      rw [hm8] at hs
      have hs2 := hs.boxPut hm8
      have HS2 := Lib.hid hs2
      have fz := HBR.out.frozen 0
      clear hs hs2 HS
      have HM8 := Lib.hid hm8
      have hje' : j = l.length := hje
      subst hje'
      clear hje
      try simp only [List.take_length]
      try simp only [HM8.out]
      clear hm8
      go_upto_region 12 with fail
      generalize wr.setCell ⟨b, 0, none⟩ (.slice A8 m8 c8) = W5 at *
      have HX := Lib.hid (show Blk W5 (g4 + 1) #[.int .i64 x.frm, .int .i64 x.to, .string x.body] tL from HS2.out.h2)
      have HZ := Lib.hid (show Blk W5 g4 #[.int .i64 0, .int .i64 0, .string ByteArray.empty] tL from HS2.out.h3)
      have y0 := HX.out.cell 0; have y1 := HX.out.cell 1; have y2 := HX.out.cell 2
      have z0 := HZ.out.cell 0; have z1 := (HZ.out.set 0 (.int .i64 x.frm)).cell 1; have z2 := ((HZ.out.set 0 (.int .i64 x.frm)).set 1 (.int .i64 x.to)).cell 2
      have f0 := HZ.out.frozen 0; have f1 := (HZ.out.set 0 (.int .i64 x.frm)).frozen 1; have f2 := ((HZ.out.set 0 (.int .i64 x.frm)).set 1 (.int .i64 x.to)).frozen 2
      simp at y0 y1 y2 z0 z1 z2
      go_wp2_with fail
      have HQ := ((HZ.out.set 0 (.int .i64 x.frm)).set 1 (.int .i64 x.to)).set 2 (.string x.body)
      refine ret_cell_tmp (k := 4) (u := 5) (by kernel_rfl) rfl rfl HQ (by kernel_rfl) (by kernel_rfl) ⟨rfl, .slice A8 m8 c8, ?_⟩
      exact (HS2.out.r3.opc (t' := tBlk g4 _ tL) (S := fun k => k = g4) HQ (Upd.setCell (S := fun k => k = g4) (p := ⟨g4, 2, none⟩) (Upd.setCell (S := fun k => k = g4) (p := ⟨g4, 1, none⟩) (Upd.setCell (S := fun k => k = g4) (p := ⟨g4, 0, none⟩) (Upd.refl _ W5) (.inr rfl) _) (.inr rfl) _) (.inr rfl) _) (fun _ _ h => h) (fun k hk => .inl hk)).tail.d2
theorem rto_sep (h : Sep w W (tR b lv l :: r)) (hn2 : l.length ≤ 300) (p t : Int) (ht : toK l p = t) :
    Calls Try.prog 22 #[.pointer (some ⟨b, 0, none⟩), .int .i64 p] W fun e W' => e = .returned (.tuple #[.int .i64 (max t 0), .bool (decide (0 ≤ t))]) ∧ Sep w W' (tR b lv l :: r) := by
  obtain ⟨hb, A, c, rfl, _, hA, hR⟩ := h.box
  have z0 : W.cell? ⟨b, 0, none⟩ = some (.slice A l.length c) := hb.cell 0
  have HT := Lib.hid h
  have HR := Lib.hid hR
  have HK := Lib.hid ht
  clear h hb hA hR ht
  go_enter Try.func22, Try.ntmps22
  go_wp2_with fail
  go_loopg [6] l.length (fun gk s6 wr => ∃ k : Nat, s6 = .int .i64 (k : Int) ∧ k ≤ l.length ∧ gk = l.length - k ∧ wr = W ∧ ∀ (j : Nat) (y : Letter), j < k → l[j]? = some y → y.to ≠ p)
  case atStart => exact ⟨0, rfl, by omega, by omega, rfl, fun j y h => by omega⟩
  case round =>
    obtain ⟨k, rfl, hk, hgk, rfl, hno⟩ := hrel
    have HN := Lib.hid hno
    clear hno
    by_cases hkn : k < l.length
    · have k1 : (k : Int) < (l.length : Int) := by omega
      have k0 : (0 : Int) ≤ (k : Int) := by omega
      have HX := Lib.hid (List.getElem?_eq_getElem hkn)
      generalize l[k] = x at *
      obtain ⟨q, o, rfl, u0, u1, u2⟩ := HR.out.let3 k x HX.out
      by_cases hp : x.to = p
      · have hp' : (x.to == p) = true := by simpa using hp
        have HPP := Lib.hid hp
        clear hp
        go_wp2_with fail
        go_ret2
        have e : t = k := by rw [← HK.out]; exact toK_at l p k x HX.out HPP.out HN.out
        subst e
        exact ⟨by first | (simp; done) | (simp; omega), HT.out⟩
      · have hp' : (x.to == p) = false := by simpa using hp
        have HPP := Lib.hid hp
        clear hp
        go_wp2_with fail
        go_roundg (l.length - (k + 1))
        case measure => omega
        case rel =>
          refine ⟨k + 1, by push_cast; rfl, by omega, rfl, rfl, fun j y hj hy => ?_⟩
          by_cases hjk : j = k
          · subst hjk
            rw [HX.out] at hy
            cases hy
            exact HPP.out
          · exact HN.out j y (by omega) hy
    · have k1 : ¬ (k : Int) < (l.length : Int) := by omega
      have k2 : decide ((k : Int) < (l.length : Int)) = false := by simp; omega
      go_wp2_with fail
      go_ret2
      have e : t = -1 := by rw [← HK.out]; exact toK_none l p (fun j y hy => HN.out j y (by have := (List.getElem?_eq_some_iff.1 hy).1; omega) hy)
      subst e
      exact ⟨by simp; decide, HT.out⟩
end
end Go.Proofs.Ytofljgnfbakhoaa
