/- The walk of the law LinTurned: it returns true; with what all laws of this chapter begin with. No condition but the row's own. -/
import Derived.Test.YtkajkomljgdghaaLinA
import Derived.Test.YtkajkomljgdghaaRow
set_option linter.unusedVariables false
set_option linter.unusedSimpArgs false
namespace Go.Proofs.Ytkajkomljgdghaa
open Go.RowKit Go.Maps
theorem is_lop {w : World} {cs : List Value} (h : Sh.Is w (.pair (.pair (.int .i64) (.pair (.int .i64) (.pair .str .unit))) (.pair (.int .i64) (.pair (.int .i64) (.pair .bool (.pair (.pair (.int .i64) (.pair .str .unit)) .unit))))) cs) : ∃ x : LOp, cs = eOp.f x ∧ x.ok := by
  obtain ⟨_, _, rfl, ⟨_, _, rfl, ⟨a, rfl, ha⟩, _, _, rfl, ⟨b, rfl, hb⟩, _, _, rfl, ⟨s, rfl, hs⟩, rfl⟩, _, _, rfl, ⟨c, rfl, hc⟩, _, _, rfl, ⟨d, rfl, hd⟩, _, _, rfl, ⟨k, rfl⟩, _, _, rfl, ⟨_, _, rfl, ⟨e, rfl, he⟩, _, _, rfl, ⟨t, rfl, ht⟩, rfl⟩, rfl⟩ := h
  exact ⟨⟨a, b, s, c, d, k, e, t⟩, rfl, bd_i64 ha, bd_i64 hb, hs, bd_i64 hc, bd_i64 hd, bd_i64 he, ht⟩
theorem Sep.newOwnN {w W : World} {l : List Th} (h : Sep w W l) (cs : Array Value) (e : TypeId) (sz n : Nat) {g : Nat} (hg : W.heap.size = g) (hn : cs.size = n * sz) (hm : n ≤ maxLen) : Sep w (W.alloc (.cells cs e)) (tOwn e sz (.slice (some ⟨g, 0, none⟩) n n) n cs.toList :: l) :=
  h.new (t := tOwn e sz (.slice (some ⟨g, 0, none⟩) n n) n cs.toList) ((Below.refl _ _).alloc (Nat.le_refl _) _) (Own.made W cs e sz n cs.toList hg hm rfl (by simpa using hn)) (fun k hk => by
    have hk : some g = some k := hk
    cases hk; omega)
theorem ok_perm {L M : List LOp} (h : ∀ o ∈ L, o.ok) (hm : ∀ o ∈ M, o ∈ L) : ∀ o ∈ M, o.ok := fun o ho => h o (hm o ho)
set_option maxRecDepth 100000 in
set_option maxHeartbeats 1000000 in
theorem w_LinTurned (a0 : Option Addr) (n0 c0 : Nat) (w : World) (b0 : Sh.Is w (.slice 80 (.pair (.pair (.int .i64) (.pair (.int .i64) (.pair .str .unit))) (.pair (.int .i64) (.pair (.int .i64) (.pair .bool (.pair (.pair (.int .i64) (.pair .str .unit)) .unit)))))) [.slice a0 n0 c0]) :
    Calls Try.prog 5 #[.slice a0 n0 c0] w fun e w' => e = .returned (.bool true) ∧ Below w.heap.size w w' := by
  obtain ⟨L, hl, _, hnc, hz, hr, hok⟩ := Enc.of_slice (E := eOp) (p := LOp.ok) b0 (fun cs hc => is_lop hc)
  have HL := Lib.hid hl; have HOK := Lib.hid hok; have HNC := Lib.hid hnc; have HZ := Lib.hid (show a0 = none → n0 = 0 ∧ c0 = 0 from fun h => ⟨by have := hz h; omega, hz h⟩)
  have HRD : Hid (∀ W' (l : List Th), Sep w W' l → Rd W' a0 (eOp.fl L)) := Lib.hid (fun W' l h => hr.below h.bel)
  clear b0 hl hok hr hz
  go_enter Try.func5, Try.ntmps5
  go_wp2_with fail
  refine (awake_any _).mono ?_
  rintro e w1 ⟨rfl, hB1⟩
  have HS := Lib.hid ((Sep.nil w).step hB1)
  clear hB1
  by_cases hn60 : 60 < n0
  · have q1 : decide ((60 : Int) < (n0 : Int)) = true := by simp; omega
    have q2 : (60 : Int) < (n0 : Int) := by omega
    go_wp2_with fail
    go_ret
    exact ⟨rfl, HS.out.bel⟩
  have q1 : decide ((60 : Int) < (n0 : Int)) = false := by simp; omega
  have q2 : ¬ (60 : Int) < (n0 : Int) := by omega
  have HT := Lib.hid (HS.out.newRow tOp 8 (g := w1.heap.size) rfl)
  go_upto_region 6 with fail
  generalize w1.alloc (.cells #[] tOp) = w2 at *
  generalize w1.heap.size = g2 at *
  go_wp2_with fail
  go_loopg [3, 21] n0 (fun gk s3 s21 wr => ∃ (k : Nat) (A : Option Addr) (c : Nat), s3 = .slice A k c ∧ s21 = .int .i64 (k : Int) ∧ k ≤ n0 ∧ gk = n0 - k ∧ Sep w wr [tOwn tOp 8 (.slice A k c) k (eOp.fl (L.take k).reverse)])
  case atStart => exact ⟨0, _, _, rfl, rfl, by omega, by omega, HT.out⟩
  case round =>
  clear HT
  obtain ⟨k, A, c, rfl, rfl, hk, hgk, hs⟩ := hrel
  have HT := Lib.hid hs
  clear hs
  by_cases hkn : k < n0
  · skip
    · have j1 : decide ((k : Int) < (n0 : Int)) = true := by simp; omega
      have j2 : (k : Int) < (n0 : Int) := by omega
      have j3 : (0 : Int) ≤ (k : Int) := by omega
      have hwk : IntKind.i64.wrap ((k : Int) + 1) = (k : Int) + 1 := IntWalk.i64_in _ (by omega)
      have HX := Lib.hid (List.getElem?_eq_getElem (l := L) (i := k) (by rw [HL.out]; exact hkn))
      generalize L[k]'(by rw [HL.out]; exact hkn) = x at *
      obtain ⟨gb, go, rfl, hu⟩ := (HRD.out wr _ HT.out).op k x HX.out
      have hlen : (L.take k).reverse.length = k := by rw [List.length_reverse, List.length_take, HL.out]; omega
      have HLE := Lib.hid hlen
      have HC := Lib.hid (show Own wr tOp 8 (.slice A k c) k (eOp.fl (L.take k).reverse) from HT.out.hd)
      obtain ⟨xo, xb, xd, xf, xt, xk, xe, xr⟩ := x
      have HT := Lib.hid (HT.out.newOwnN #[.int .i64 xo, .int .i64 xb, .string xd, .int .i64 xf, .int .i64 xt, .bool xk, .int .i64 xe, .string xr] tOp 8 1 (g := wr.heap.size) rfl rfl (by decide))
      clear hlen
      have HBD := Lib.hid (show (1 + k) * 80 ≤ 140737488355328 by omega)
      have u0 : wr.cell? ⟨gb, go + k * 8, none⟩ = some (.int .i64 xo) := hu 0 _ rfl
      have u1 : wr.cell? ⟨gb, go + k * 8 + 1, none⟩ = some (.int .i64 xb) := hu 1 _ rfl
      have u2 : wr.cell? ⟨gb, go + k * 8 + 2, none⟩ = some (.string xd) := hu 2 _ rfl
      have u3 : wr.cell? ⟨gb, go + k * 8 + 3, none⟩ = some (.int .i64 xf) := hu 3 _ rfl
      have u4 : wr.cell? ⟨gb, go + k * 8 + 4, none⟩ = some (.int .i64 xt) := hu 4 _ rfl
      have u5 : wr.cell? ⟨gb, go + k * 8 + 5, none⟩ = some (.bool xk) := hu 5 _ rfl
      have u6 : wr.cell? ⟨gb, go + k * 8 + 6, none⟩ = some (.int .i64 xe) := hu 6 _ rfl
      have u7 : wr.cell? ⟨gb, go + k * 8 + 7, none⟩ = some (.string xr) := hu 7 _ rfl
      clear hu
      go_wp2_with (at_builtin; refine appendO 22 tOp (.agg #[.int .i64 0, .int .i64 0, .string ByteArray.empty, .int .i64 0, .int .i64 0, .bool false, .int .i64 0, .string ByteArray.empty]) 8 80 (eOp.fl (L.take k).reverse) k HT.out.own HBD.out Try.underlying22 Try.infoO rfl (by decide) (by decide) (by rw [Enc.length, HLE.out]; rfl) (Enc.ones _) A c (show Own _ tOp 8 (.slice A k c) k _ from HT.out.h2).rd HC.out.cap.2 (.tmp 28) (.tmp 29) rfl rfl rfl rfl ?_; intro v1 w5 ho1 hg1 hat1; rw [Nat.add_comm 1 k] at ho1; obtain ⟨A1, c1, rfl, _⟩ := ho1.form; have HT := Lib.hid ((HT.out.app ho1 hg1 hat1).d2); clear ho1 hg1 hat1)
      go_roundg (n0 - (k + 1))
      case measure => omega
      case rel =>
        refine ⟨k + 1, A1, c1, rfl, by push_cast; rfl, by omega, rfl, ?_⟩
        rw [show L.take (k + 1) = L.take k ++ [⟨xo, xb, xd, xf, xt, xk, xe, xr⟩] by rw [List.take_add_one, HX.out]; rfl, List.reverse_append, List.reverse_cons, List.reverse_nil, List.nil_append, List.singleton_append, Enc.cons]
        exact HT.out
  · as_aux_lemma =>
      have j1 : decide ((k : Int) < (n0 : Int)) = false := by simp; omega
      have j2 : ¬ (k : Int) < (n0 : Int) := by omega
      have hkn : k = n0 := by omega
      subst hkn
      have hall : L.take k = L := by rw [← HL.out, List.take_length]
      rw [hall] at HT
      obtain ⟨t1, t2, t3⟩ := turned (List.reverse_perm L).symm
      have HTR := Lib.hid (And.intro t1 t3)
      have HR2 : Hid (∀ W', Sep w W' [tOwn tOp 8 (.slice A k c) k (eOp.fl L.reverse)] → Rd W' A (eOp.fl L.reverse)) := Lib.hid (fun W' h => h.own.rd)
      have g1 : (errs L.reverse == 0) = (errs L == 0) := by rw [Bool.eq_iff_iff, beq_iff_eq, beq_iff_eq]; exact t2.symm
      clear t1 t2 t3 hall
      have HRL := Lib.hid (show L.reverse.length = k by rw [List.length_reverse]; exact HL.out)
      have HOR := Lib.hid (ok_perm HOK.out (M := L.reverse) (fun o ho => List.mem_reverse.1 ho))
      go_upto_region 12 with (go_at_call 15; refine (check_any L a0 k c0 HL.out (by omega) HOK.out (fun W' h => HRD.out W' _ h) HT.out).mono ?_; rintro e w11 ⟨rfl, hS⟩; have HT := Lib.hid hS; clear hS)
      go_upto_region 13 with (go_at_call 15; refine (check_any L.reverse A k c HRL.out (by omega) HOR.out (fun W' h => HR2.out W' h) HT.out).mono ?_; rw [← HTR.out.1]; rintro e w12 ⟨rfl, hS⟩; have HT := Lib.hid hS; clear hS)
      go_upto_region 14 with (go_at_call 16; refine (wrong_any L a0 k c0 HL.out (by omega) HOK.out (fun W' h => HRD.out W' _ h) HT.out).mono ?_; rintro e w13 ⟨rfl, hS⟩; have HT := Lib.hid hS; clear hS)
      go_upto_region 15 with (go_at_call 16; refine (wrong_any L.reverse A k c HRL.out (by omega) HOR.out (fun W' h => HR2.out W' h) HT.out).mono ?_; rw [← HTR.out.2]; rintro e w14 ⟨rfl, hS⟩; have HT := Lib.hid hS; clear hS)
      have HTW := Lib.hid HT.out.bel
      generalize errs L.reverse = e2 at *
      generalize errs L = e1 at *
      generalize chkB L = b1 at *
      generalize wrong L = p1 at *
      go_wp2_with fail
      all_goals (go_ret; exact ⟨by simp, HTW.out⟩)
end Go.Proofs.Ytkajkomljgdghaa
