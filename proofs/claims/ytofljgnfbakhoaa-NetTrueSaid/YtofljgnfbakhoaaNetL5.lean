/- The walk of the law NetDoes: it returns true. No condition but the row's own. -/
import Derived.Test.YtofljgnfbakhoaaNetL1
import Derived.Test.YtofljgnfbakhoaaNetL3
import Derived.Test.YtofljgnfbakhoaaNetC
import Derived.Deep.CutBlock
set_option linter.unusedVariables false
set_option linter.unusedSimpArgs false
namespace Go.Proofs.Ytofljgnfbakhoaa
open Go.RowKit
structure NAct where
  kind : Int
  i : Int
  x : Letter
def eAct : Enc NAct := ⟨fun a => [.int .i64 a.kind, .int .i64 a.i, .int .i64 a.x.frm, .int .i64 a.x.to, .string a.x.body], 5, fun _ => rfl, fun x u hu => by
  simp only [List.mem_cons, List.not_mem_nil, or_false] at hu
  rcases hu with rfl | rfl | rfl | rfl | rfl <;> rfl⟩
def NAct.ok (a : NAct) : Prop := -9223372036854775808 ≤ a.i ∧ a.i ≤ 9223372036854775807
theorem is_nact {w : World} {cs : List Value} (h : Sh.Is w (.pair (.int .i64) (.pair (.int .i64) (.pair (.pair (.int .i64) (.pair (.int .i64) (.pair .str .unit))) .unit))) cs) : ∃ x : NAct, cs = eAct.f x ∧ x.ok := by
  obtain ⟨_, _, rfl, ⟨a, rfl, ha⟩, _, _, rfl, ⟨b, rfl, hb⟩, _, _, rfl, hx, rfl⟩ := h
  obtain ⟨x, rfl, _⟩ := is_letter hx
  exact ⟨⟨a, b, x⟩, rfl, bd_i64 hb⟩
theorem Rd.act5 {w : World} {A : Option Addr} {l : List NAct} (h : Rd w A (eAct.fl l)) (k : Nat) (x : NAct) (hx : l[k]? = some x) :
    ∃ b o, A = some ⟨b, o, none⟩ ∧ w.cell? ⟨b, o + k * 5, none⟩ = some (.int .i64 x.kind) ∧ w.cell? ⟨b, o + k * 5 + 1, none⟩ = some (.int .i64 x.i) ∧ w.cell? ⟨b, o + k * 5 + 2, none⟩ = some (.int .i64 x.x.frm) ∧ w.cell? ⟨b, o + k * 5 + 3, none⟩ = some (.int .i64 x.x.to) ∧ w.cell? ⟨b, o + k * 5 + 4, none⟩ = some (.string x.x.body) := by
  obtain ⟨hk, rfl⟩ := List.getElem?_eq_some_iff.1 hx
  obtain ⟨b, o, e, hc⟩ := h.elem k hk (by decide)
  exact ⟨b, o, e, hc 0 _ rfl, hc 1 _ rfl, hc 2 _ rfl, hc 3 _ rfl, hc 4 _ rfl⟩
theorem rnew_sep {w W : World} {r : List Th} (h : Sep w W r) {g : Nat} (hg : W.heap.size = g) : Sep w (W.alloc (.cells #[.slice none 0 0] 29)) (tR g (.slice none 0 0) [] :: r) := by
  subst hg
  refine h.new (t := tR W.heap.size (.slice none 0 0) []) ((Below.refl _ _).alloc (Nat.le_refl _) _) ⟨Blk.new _ _ _, Own.nil _ _ _, by decide⟩ (fun k hk => ?_)
  rcases hk with rfl | hk
  · exact Nat.le_refl _
  · simp [Value.ownBlock] at hk
set_option maxRecDepth 100000 in
set_option maxHeartbeats 8000000 in
theorem w_NetDoes (a0 : Option Addr) (n0 c0 : Nat) (a1 : Int) (w : World) (b0 : Sh.Is w (.slice 48 (.pair (.int .i64) (.pair (.int .i64) (.pair (.pair (.int .i64) (.pair (.int .i64) (.pair .str .unit))) .unit)))) [.slice a0 n0 c0]) (b1 : -9223372036854775808 ≤ a1 ∧ a1 ≤ 9223372036854775807) :
    Calls Try.prog 3 #[.slice a0 n0 c0, .int .i64 a1] w fun e w' => e = .returned (.bool true) ∧ Below w.heap.size w w' := by
  obtain ⟨xs, xl, _, _, _, xr, xok⟩ := Enc.of_slice (E := eAct) (p := NAct.ok) b0 (fun cs hc => is_nact hc)
  have HXL := Lib.hid xl; have HXR := Lib.hid xr; have HXO := Lib.hid xok
  clear b0 xl xr xok
  go_enter Try.func3, Try.ntmps3
  go_wp2_with fail
  refine (awake_any _).mono ?_
  rintro e w1 ⟨rfl, hB1⟩
  have HS := Lib.hid ((Sep.nil w).step hB1)
  clear hB1
  go_wp2_with fail
  refine (nnew_sep HS.out).mono ?_
  rintro e w2 ⟨rfl, hs⟩
  have HS := Lib.hid (rnew_sep hs (g := w2.heap.size) rfl).sw
  clear hs
  generalize w1.heap.size = ba at *
  go_wp2_with fail
  generalize w2.alloc (.cells #[.slice none 0 0] 29) = w3 at *
  generalize w2.heap.size = bb at *
  go_loopg [7] 101 (fun gk s7 wr => ∃ (k : Nat) (la lb : Value) (L : List Letter), s7 = .int .i64 (k : Int) ∧ k ≤ 100 ∧ gk = 101 - k ∧ Good L ∧ Sep w wr [tN ba la L, tR bb lb L])
  case atStart => exact ⟨0, _, _, [], rfl, by decide, rfl, Good.nil, HS.out⟩
  case round =>
  clear HS
  obtain ⟨k, la, lb, L, rfl, hk, hgk, hgood, hs⟩ := hrel
  have HS := Lib.hid hs
  have HGD := Lib.hid hgood
  clear hs hgood
  by_cases q1 : k < n0
  case neg =>
    have q1' : decide ((k : Int) < (n0 : Int)) = false := by simp; omega
    have q1n : ¬ ((k : Int) < (n0 : Int)) := by omega
    go_wp2_with fail
    go_ret
    exact ⟨rfl, HS.out.bel⟩
  have q1' : decide ((k : Int) < (n0 : Int)) = true := by simp; omega
  have i1 : (k : Int) < (n0 : Int) := by omega
  by_cases q2 : k < 100
  case neg =>
    have q2' : decide ((k : Int) < 100) = false := by simp; omega
    go_wp2_with fail
    go_ret
    exact ⟨rfl, HS.out.bel⟩
  have q2' : decide ((k : Int) < 100) = true := by simp; omega
  have i0 : (0 : Int) ≤ (k : Int) := by omega
  have HX := Lib.hid (List.getElem?_eq_getElem (l := xs) (i := k) (by rw [HXL.out]; exact q1))
  have HOK := Lib.hid (HXO.out _ (List.mem_of_getElem? HX.out))
  generalize xs[k]'(by rw [HXL.out]; exact q1) = x at *
  obtain ⟨g, o, rfl, y0, y1, y2, y3, y4⟩ := (HXR.out.below HS.out.bel).act5 k x HX.out
  obtain ⟨xk, xi, xf, xt, xd⟩ := x
  simp only at y0 y1 y2 y3 y4
  obtain ⟨g8, hg8⟩ : ∃ g, wr.heap.size = g := ⟨_, rfl⟩
  have HT := Lib.hid ((HS.out.newBlk #[.int .i64 xk, .int .i64 xi, .int .i64 xf, .int .i64 xt, .string xd] 33 hg8).r3')
  have HG8 := Lib.hid hg8; clear hg8
  go_upto_block 2 with fail
  rw [HG8.out]
  go_cut [] (fun wx => ∃ (la lb : Value) (L : List Letter), Good L ∧ Sep w wx [tN ba la L, tR bb lb L])
  case first =>
    generalize wr.alloc (.cells #[.int .i64 xk, .int .i64 xi, .int .i64 xf, .int .i64 xt, .string xd] 33) = W at *
    clear y0 y1 y2 y3 y4 HS
    have HG := Lib.hid (show Blk W g8 #[.int .i64 xk, .int .i64 xi, .int .i64 xf, .int .i64 xt, .string xd] 33 from HT.out.h3)
    have d0 : W.cell? ⟨g8, 0, none⟩ = some (.int .i64 xk) := HG.out.cell 0
    have d1 : W.cell? ⟨g8, 1, none⟩ = some (.int .i64 xi) := HG.out.cell 1
    by_cases hk0 : xk = 0
    · have p0 : (xk == 0) = true := by simp [hk0]
      clear hk0
      obtain ⟨e0, he0⟩ : ∃ e, sendE L ⟨xf, xt, xd⟩ = e := ⟨_, rfl⟩
      have HE := Lib.hid he0
      clear he0
      go_upto_region 11 with fail
      refine wp_region_L (fun w' => w'.cell? ⟨g8, 2, none⟩ = some (.int .i64 xf) ∧ w'.cell? ⟨g8, 3, none⟩ = some (.int .i64 xt) ∧ w'.cell? ⟨g8, 4, none⟩ = some (.string xd)) 9 (by kernel_rfl) ⟨HG.out.cell 2, HG.out.cell 3, HG.out.cell 4⟩ (fun hHeld => ?_)
      refine reg_take (i := 0) (d := 45) (v := ?_) [] rfl rfl (by kernel_rfl) (by kernel_rfl) (fun _ _ _ h => h) (Or.inl ⟨by rfl, ?_⟩) (by assumption) ?_
      rotate_left
      · (intro w hSw; (try dsimp only at hSw); go_simp; first | done | with_reducible rfl)
      try simp only [List.setIfInBounds_toArray, List.set_cons_zero, List.set_cons_succ]
      refine reg_take (i := 1) (d := 46) (v := ?_) [] rfl rfl (by kernel_rfl) (by kernel_rfl) (fun _ _ _ h => h) (Or.inl ⟨by rfl, ?_⟩) (by assumption) ?_
      rotate_left
      · (intro w hSw; (try dsimp only at hSw); go_simp; first | done | with_reducible rfl)
      try simp only [List.setIfInBounds_toArray, List.set_cons_zero, List.set_cons_succ]
      refine reg_take (i := 2) (d := 47) (v := ?_) [] rfl rfl (by kernel_rfl) (by kernel_rfl) (fun _ _ _ h => h) (Or.inl ⟨by rfl, ?_⟩) (by assumption) ?_
      rotate_left
      · (intro w hSw; (try dsimp only at hSw); go_simp; first | done | with_reducible rfl)
      try simp only [List.setIfInBounds_toArray, List.set_cons_zero, List.set_cons_succ]
      refine reg_take (i := 4) (d := 49) (v := ?_) [] rfl rfl (by kernel_rfl) (by kernel_rfl) (fun _ _ _ h => h) (Or.inl ⟨by rfl, ?_⟩) (by assumption) ?_
      rotate_left
      · (intro w hSw; (try dsimp only at hSw); go_simp; first | done | with_reducible rfl)
      try simp only [List.setIfInBounds_toArray, List.set_cons_zero, List.set_cons_succ]
      refine reg_take (i := 5) (d := 50) (v := ?_) [] rfl rfl (by kernel_rfl) (by kernel_rfl) (fun _ _ _ h => h) (Or.inl ⟨by rfl, ?_⟩) (by assumption) ?_
      rotate_left
      · (intro w hSw; (try dsimp only at hSw); go_simp; first | done | with_reducible rfl)
      try simp only [List.setIfInBounds_toArray, List.set_cons_zero, List.set_cons_succ]
      refine reg_take (i := 6) (d := 51) (v := ?_) [] rfl rfl (by kernel_rfl) (by kernel_rfl) (fun _ _ _ h => h) (Or.inl ⟨by rfl, ?_⟩) (by assumption) ?_
      rotate_left
      · (intro w hSw; (try dsimp only at hSw); go_simp; first | done | with_reducible rfl)
      try simp only [List.setIfInBounds_toArray, List.set_cons_zero, List.set_cons_succ]
      refine wpAnyL_ready (rs := [3]) (by kernel_rfl) rfl ?_
      refine (AllL.cons rfl (fun K hK => ?_) AllL.nil)
      go_simp
      go_wp2_with (go_at_call 11; go_loud (with_reducible refine (send_sep HT.out.drew ⟨xf, xt, xd⟩).mono ?_; rw [HE.out]; rintro e1 w2 ⟨rfl, la2, hs2⟩; have HT2 := Lib.hid hs2.r3'; clear hs2))
      refine hK.out _ _ ⟨HT2.out.h2.cell 2, HT2.out.h2.cell 3, HT2.out.h2.cell 4⟩ (fun hHeld => ?_)
      try simp only [List.setIfInBounds_toArray, List.set_cons_zero, List.set_cons_succ]
      refine wpAnyL_ready (rs := [7]) (by kernel_rfl) rfl ?_
      refine (AllL.cons rfl (fun K hK => ?_) AllL.nil)
      go_simp
      go_wp2_with (go_at_call 12; go_loud (with_reducible refine (rsend_sep HT2.out ⟨xf, xt, xd⟩).mono ?_; rw [HE.out]; rintro e1 w3 ⟨rfl, lb3, hs3⟩; have HT3 := Lib.hid hs3; clear hs3))
      refine hK.out _ _ ⟨HT3.out.h2.cell 2, HT3.out.h2.cell 3, HT3.out.h2.cell 4⟩ (fun hHeld => ?_)
      try simp only [List.setIfInBounds_toArray, List.set_cons_zero, List.set_cons_succ]
      refine reg_take (i := 8) (d := 53) (v := ?_) [] rfl rfl (by kernel_rfl) (by kernel_rfl) (fun _ _ _ h => h) (Or.inl ⟨by rfl, ?_⟩) (by assumption) ?_
      rotate_left
      · (intro w hSw; (try dsimp only at hSw); go_simp; first | done | with_reducible rfl)
      try simp only [List.setIfInBounds_toArray, List.set_cons_zero, List.set_cons_succ]
      refine wpAnyL_done (by kernel_rfl) ?_ _
      skip
      go_wp2_with fail
      go_meet
      exact ⟨_, _, _, HGD.out.send _, HT3.out.r3.d3⟩
    have p0 : (xk == 0) = false := by simpa using hk0
    clear hk0
    by_cases hk1 : xk = 1
    · have p1 : (xk == 1) = true := by simp [hk1]
      clear hk1
      obtain ⟨X, hX⟩ : ∃ X, tkX L xi = X := ⟨_, rfl⟩
      obtain ⟨t, ht⟩ : ∃ t, tkB L = t := ⟨_, rfl⟩
      have HX1 := Lib.hid hX; have HT0 := Lib.hid ht
      clear hX ht
      obtain ⟨zf, zt, zd⟩ := X
      go_wp2_with fail
      refine (take_sep HT.out xi HGD.out.1).mono ?_
      rw [HX1.out, HT0.out]
      rintro e w4 ⟨rfl, la4, hs⟩
      have hs1 := (hs.newBlk #[.int .i64 zf, .int .i64 zt, .string zd] tL (g := w4.heap.size) rfl).r3
      have d1 : (w4.alloc (.cells #[.int .i64 zf, .int .i64 zt, .string zd] tL)).cell? ⟨g8, 1, none⟩ = some (.int .i64 xi) := (show Blk (w4.alloc (.cells #[.int .i64 zf, .int .i64 zt, .string zd] tL)) g8 _ _ from hs1.h4).cell 1
      have HT4 := Lib.hid hs1
      clear hs hs1 d0
      go_upto_region 15 with fail
      generalize w4.alloc (.cells #[.int .i64 zf, .int .i64 zt, .string zd] tL) = w5 at *
      generalize w4.heap.size = g9 at *
      go_wp2_with fail
      refine (rtake_sep HT4.out xi HGD.out.1).mono ?_
      rw [HX1.out, HT0.out]
      rintro e w6 ⟨rfl, lb6, hs⟩
      have hs1 := hs.newBlk #[.int .i64 zf, .int .i64 zt, .string zd] tL (g := w6.heap.size) rfl
      have v0 := (show Blk (w6.alloc (.cells #[.int .i64 zf, .int .i64 zt, .string zd] tL)) w6.heap.size #[.int .i64 zf, .int .i64 zt, .string zd] tL from hs1.hd).cell 0
      have v1 := (show Blk (w6.alloc (.cells #[.int .i64 zf, .int .i64 zt, .string zd] tL)) w6.heap.size #[.int .i64 zf, .int .i64 zt, .string zd] tL from hs1.hd).cell 1
      have v2 := (show Blk (w6.alloc (.cells #[.int .i64 zf, .int .i64 zt, .string zd] tL)) w6.heap.size #[.int .i64 zf, .int .i64 zt, .string zd] tL from hs1.hd).cell 2
      have u0 := (show Blk (w6.alloc (.cells #[.int .i64 zf, .int .i64 zt, .string zd] tL)) g9 #[.int .i64 zf, .int .i64 zt, .string zd] tL from hs1.h3).cell 0
      have u1 := (show Blk (w6.alloc (.cells #[.int .i64 zf, .int .i64 zt, .string zd] tL)) g9 #[.int .i64 zf, .int .i64 zt, .string zd] tL from hs1.h3).cell 1
      have u2 := (show Blk (w6.alloc (.cells #[.int .i64 zf, .int .i64 zt, .string zd] tL)) g9 #[.int .i64 zf, .int .i64 zt, .string zd] tL from hs1.h3).cell 2
      have HT6 := Lib.hid hs1.tail.r3
      clear hs hs1
      go_upto_region 16 with fail
      generalize w6.alloc (.cells #[.int .i64 zf, .int .i64 zt, .string zd] tL) = w7 at *
      generalize w6.heap.size = g11 at *
      simp at v0 v1 v2 u0 u1 u2
      go_wp2_with fail
      go_meet
      exact ⟨_, _, _, HGD.out.take xi, HT6.out.d3.d3⟩
    have p1 : (xk == 1) = false := by simpa using hk1
    clear hk1
    by_cases hk2 : xk = 2
    · have p2 : (xk == 2) = true := by simp [hk2]
      clear hk2
      obtain ⟨t, ht⟩ : ∃ t, cpB L xi = t := ⟨_, rfl⟩
      have HT0 := Lib.hid ht
      clear ht
      have HL3 := Lib.hid (show L.length ≤ 300 from HGD.out.1)
      go_upto_region 19 with fail
      refine wp_region_L (fun w' => w'.cell? ⟨g8, 1, none⟩ = some (.int .i64 xi)) 9 (by kernel_rfl) (HG.out.cell 1) (fun hHeld => ?_)
      refine reg_take (i := 0) (d := 80) (v := ?_) [] rfl rfl (by kernel_rfl) (by kernel_rfl) (fun _ _ _ h => h) (Or.inl ⟨by rfl, ?_⟩) (by assumption) ?_
      rotate_left
      · (intro w hSw; (try dsimp only at hSw); go_simp; first | done | with_reducible rfl)
      try simp only [List.setIfInBounds_toArray, List.set_cons_zero, List.set_cons_succ]
      refine reg_take (i := 1) (d := 81) (v := ?_) [] rfl rfl (by kernel_rfl) (by kernel_rfl) (fun _ _ _ h => h) (Or.inl ⟨by rfl, ?_⟩) (by assumption) ?_
      rotate_left
      · (intro w hSw; (try dsimp only at hSw); go_simp; first | done | with_reducible rfl)
      try simp only [List.setIfInBounds_toArray, List.set_cons_zero, List.set_cons_succ]
      refine reg_take (i := 2) (d := 82) (v := ?_) [] rfl rfl (by kernel_rfl) (by kernel_rfl) (fun _ _ _ h => h) (Or.inl ⟨by rfl, ?_⟩) (by assumption) ?_
      rotate_left
      · (intro w hSw; (try dsimp only at hSw); go_simp; first | done | with_reducible rfl)
      try simp only [List.setIfInBounds_toArray, List.set_cons_zero, List.set_cons_succ]
      refine reg_take (i := 4) (d := 84) (v := ?_) [] rfl rfl (by kernel_rfl) (by kernel_rfl) (fun _ _ _ h => h) (Or.inl ⟨by rfl, ?_⟩) (by assumption) ?_
      rotate_left
      · (intro w hSw; (try dsimp only at hSw); go_simp; first | done | with_reducible rfl)
      try simp only [List.setIfInBounds_toArray, List.set_cons_zero, List.set_cons_succ]
      refine reg_take (i := 5) (d := 85) (v := ?_) [] rfl rfl (by kernel_rfl) (by kernel_rfl) (fun _ _ _ h => h) (Or.inl ⟨by rfl, ?_⟩) (by assumption) ?_
      rotate_left
      · (intro w hSw; (try dsimp only at hSw); go_simp; first | done | with_reducible rfl)
      try simp only [List.setIfInBounds_toArray, List.set_cons_zero, List.set_cons_succ]
      refine reg_take (i := 6) (d := 86) (v := ?_) [] rfl rfl (by kernel_rfl) (by kernel_rfl) (fun _ _ _ h => h) (Or.inl ⟨by rfl, ?_⟩) (by assumption) ?_
      rotate_left
      · (intro w hSw; (try dsimp only at hSw); go_simp; first | done | with_reducible rfl)
      try simp only [List.setIfInBounds_toArray, List.set_cons_zero, List.set_cons_succ]
      refine wpAnyL_ready (rs := [3]) (by kernel_rfl) rfl ?_
      refine (AllL.cons rfl (fun K hK => ?_) AllL.nil)
      go_simp
      go_wp2_with (go_at_call 15; go_loud (with_reducible refine (copy_sep HT.out.drew xi HL3.out).mono ?_; rw [HT0.out]; rintro e1 w2 ⟨rfl, la2, hs2⟩; have HT2 := Lib.hid hs2.r3'; clear hs2))
      refine hK.out _ _ (HT2.out.h2.cell 1) (fun hHeld => ?_)
      try simp only [List.setIfInBounds_toArray, List.set_cons_zero, List.set_cons_succ]
      refine wpAnyL_ready (rs := [7]) (by kernel_rfl) rfl ?_
      refine (AllL.cons rfl (fun K hK => ?_) AllL.nil)
      go_simp
      go_wp2_with (go_at_call 16; go_loud (with_reducible refine (rcopy_sep HT2.out xi HGD.out).mono ?_; rw [HT0.out]; rintro e1 w3 ⟨rfl, lb3, hs3⟩; have HT3 := Lib.hid hs3; clear hs3))
      refine hK.out _ _ (HT3.out.h2.cell 1) (fun hHeld => ?_)
      try simp only [List.setIfInBounds_toArray, List.set_cons_zero, List.set_cons_succ]
      refine reg_take (i := 8) (d := 88) (v := ?_) [] rfl rfl (by kernel_rfl) (by kernel_rfl) (fun _ _ _ h => h) (Or.inl ⟨by rfl, ?_⟩) (by assumption) ?_
      rotate_left
      · (intro w hSw; (try dsimp only at hSw); go_simp; first | done | with_reducible rfl)
      try simp only [List.setIfInBounds_toArray, List.set_cons_zero, List.set_cons_succ]
      refine wpAnyL_done (by kernel_rfl) ?_ _
      skip
      go_wp2_with fail
      go_meet
      exact ⟨_, _, _, HGD.out.copy xi, HT3.out.r3.d3⟩
    have p2 : (xk == 2) = false := by simpa using hk2
    clear hk2
    by_cases hk3 : xk = 3
    · have p3 : (xk == 3) = true := by simp [hk3]
      clear hk3
      obtain ⟨X, hX⟩ : ∃ X, tkX L xi = X := ⟨_, rfl⟩
      obtain ⟨t, ht⟩ : ∃ t, tkB L = t := ⟨_, rfl⟩
      have HX1 := Lib.hid hX; have HT0 := Lib.hid ht
      clear hX ht
      obtain ⟨zf, zt, zd⟩ := X
      go_wp2_with fail
      refine (rtake_sep HT.out.sw xi HGD.out.1).mono ?_
      rw [HX1.out, HT0.out]
      rintro e w4 ⟨rfl, lb4, hs⟩
      have hs1 := hs.alloc (.cells #[.int .i64 zf, .int .i64 zt, .string zd] tL)
      have d1 : (w4.alloc (.cells #[.int .i64 zf, .int .i64 zt, .string zd] tL)).cell? ⟨g8, 1, none⟩ = some (.int .i64 xi) := (show Blk (w4.alloc (.cells #[.int .i64 zf, .int .i64 zt, .string zd] tL)) g8 _ _ from hs1.h3).cell 1
      have HT4 := Lib.hid hs1.sw
      clear hs hs1 d0
      go_upto_region 23 with fail
      generalize w4.alloc (.cells #[.int .i64 zf, .int .i64 zt, .string zd] tL) = w5 at *
      generalize w4.heap.size = g9 at *
      go_wp2_with fail
      refine (drop_sep HT4.out xi HGD.out.1).mono ?_
      rw [HT0.out]
      rintro e w6 ⟨rfl, la6, hs⟩
      have HT6 := Lib.hid hs.d3
      clear hs
      go_wp2_with fail
      go_meet
      exact ⟨_, _, _, HGD.out.take xi, HT6.out⟩
    have p3 : (xk == 3) = false := by simpa using hk3
    clear hk3
    by_cases hk4 : xk = 4
    · have p4 : (xk == 4) = true := by simp [hk4]
      clear hk4
      have hok := HOK.out
      unfold NAct.ok at hok
      simp only at hok
      have hmd := tmod_bd xi (n := 400) (by decide)
      obtain ⟨m, hm⟩ : ∃ m, xi.tmod 400 = m := ⟨_, rfl⟩
      have hm2 : m < 400 := by have := hmd.2; rw [← hm]; exact this
      clear hmd hok
      go_wp2_with fail
      go_loopg [15] 401 (fun gk s15 wr => ∃ (j : Nat) (la lb : Value) (L : List Letter), s15 = .int .i64 (j : Int) ∧ j ≤ 400 ∧ gk = 401 - j ∧ Good L ∧ Sep w wr [tN ba la L, tR bb lb L, tBlk g8 #[.int .i64 xk, .int .i64 xi, .int .i64 xf, .int .i64 xt, .string xd] 33])
      case atStart => exact ⟨0, _, _, L, rfl, by decide, rfl, HGD.out, HT.out⟩
      case round =>
      clear HT HGD HG d0 d1
      obtain ⟨j, la, lb, L, rfl, hj, hgj, hgood, ht⟩ := hrel
      have HT := Lib.hid ht; have HGD := Lib.hid hgood
      have HG := Lib.hid (show Blk wr g8 #[.int .i64 xk, .int .i64 xi, .int .i64 xf, .int .i64 xt, .string xd] 33 from HT.out.h3)
      have d1 : wr.cell? ⟨g8, 1, none⟩ = some (.int .i64 xi) := HG.out.cell 1
      clear ht hgood
      by_cases hjm : (j : Int) < m
      · have j1 : decide ((j : Int) < m) = true := by simpa using hjm
        obtain ⟨e0, he0⟩ : ∃ e, sendE L ⟨xf, xt, xd⟩ = e := ⟨_, rfl⟩
        have HE := Lib.hid he0
        clear he0
        go_upto_region 29 with fail
        obtain ⟨W, hW⟩ : ∃ W : World, W = wr := ⟨_, rfl⟩
        rw [← hW] at HT HG
        rw [← hW]
        clear d1 hW
        refine wp_region_L (fun w' => w'.cell? ⟨g8, 2, none⟩ = some (.int .i64 xf) ∧ w'.cell? ⟨g8, 3, none⟩ = some (.int .i64 xt) ∧ w'.cell? ⟨g8, 4, none⟩ = some (.string xd)) 9 (by kernel_rfl) ⟨HG.out.cell 2, HG.out.cell 3, HG.out.cell 4⟩ (fun hHeld => ?_)
        refine reg_take (i := 0) (d := 113) (v := ?_) [] rfl rfl (by kernel_rfl) (by kernel_rfl) (fun _ _ _ h => h) (Or.inl ⟨by rfl, ?_⟩) (by assumption) ?_
        rotate_left
        · (intro w hSw; (try dsimp only at hSw); go_simp; first | done | with_reducible rfl)
        try simp only [List.setIfInBounds_toArray, List.set_cons_zero, List.set_cons_succ]
        refine reg_take (i := 1) (d := 114) (v := ?_) [] rfl rfl (by kernel_rfl) (by kernel_rfl) (fun _ _ _ h => h) (Or.inl ⟨by rfl, ?_⟩) (by assumption) ?_
        rotate_left
        · (intro w hSw; (try dsimp only at hSw); go_simp; first | done | with_reducible rfl)
        try simp only [List.setIfInBounds_toArray, List.set_cons_zero, List.set_cons_succ]
        refine reg_take (i := 2) (d := 115) (v := ?_) [] rfl rfl (by kernel_rfl) (by kernel_rfl) (fun _ _ _ h => h) (Or.inl ⟨by rfl, ?_⟩) (by assumption) ?_
        rotate_left
        · (intro w hSw; (try dsimp only at hSw); go_simp; first | done | with_reducible rfl)
        try simp only [List.setIfInBounds_toArray, List.set_cons_zero, List.set_cons_succ]
        refine reg_take (i := 4) (d := 117) (v := ?_) [] rfl rfl (by kernel_rfl) (by kernel_rfl) (fun _ _ _ h => h) (Or.inl ⟨by rfl, ?_⟩) (by assumption) ?_
        rotate_left
        · (intro w hSw; (try dsimp only at hSw); go_simp; first | done | with_reducible rfl)
        try simp only [List.setIfInBounds_toArray, List.set_cons_zero, List.set_cons_succ]
        refine reg_take (i := 5) (d := 118) (v := ?_) [] rfl rfl (by kernel_rfl) (by kernel_rfl) (fun _ _ _ h => h) (Or.inl ⟨by rfl, ?_⟩) (by assumption) ?_
        rotate_left
        · (intro w hSw; (try dsimp only at hSw); go_simp; first | done | with_reducible rfl)
        try simp only [List.setIfInBounds_toArray, List.set_cons_zero, List.set_cons_succ]
        refine reg_take (i := 6) (d := 119) (v := ?_) [] rfl rfl (by kernel_rfl) (by kernel_rfl) (fun _ _ _ h => h) (Or.inl ⟨by rfl, ?_⟩) (by assumption) ?_
        rotate_left
        · (intro w hSw; (try dsimp only at hSw); go_simp; first | done | with_reducible rfl)
        try simp only [List.setIfInBounds_toArray, List.set_cons_zero, List.set_cons_succ]
        refine wpAnyL_ready (rs := [3]) (by kernel_rfl) rfl ?_
        refine (AllL.cons rfl (fun K hK => ?_) AllL.nil)
        go_simp
        go_wp2_with (go_at_call 11; go_loud (with_reducible refine (send_sep HT.out.drew ⟨xf, xt, xd⟩).mono ?_; rw [HE.out]; rintro e1 w2 ⟨rfl, la2, hs2⟩; have HT2 := Lib.hid hs2.r3'; clear hs2))
        refine hK.out _ _ ⟨HT2.out.h2.cell 2, HT2.out.h2.cell 3, HT2.out.h2.cell 4⟩ (fun hHeld => ?_)
        try simp only [List.setIfInBounds_toArray, List.set_cons_zero, List.set_cons_succ]
        refine wpAnyL_ready (rs := [7]) (by kernel_rfl) rfl ?_
        refine (AllL.cons rfl (fun K hK => ?_) AllL.nil)
        go_simp
        go_wp2_with (go_at_call 12; go_loud (with_reducible refine (rsend_sep HT2.out ⟨xf, xt, xd⟩).mono ?_; rw [HE.out]; rintro e1 w3 ⟨rfl, lb3, hs3⟩; have HT3 := Lib.hid hs3; clear hs3))
        refine hK.out _ _ ⟨HT3.out.h2.cell 2, HT3.out.h2.cell 3, HT3.out.h2.cell 4⟩ (fun hHeld => ?_)
        try simp only [List.setIfInBounds_toArray, List.set_cons_zero, List.set_cons_succ]
        refine reg_take (i := 8) (d := 121) (v := ?_) [] rfl rfl (by kernel_rfl) (by kernel_rfl) (fun _ _ _ h => h) (Or.inl ⟨by rfl, ?_⟩) (by assumption) ?_
        rotate_left
        · (intro w hSw; (try dsimp only at hSw); go_simp; first | done | with_reducible rfl)
        try simp only [List.setIfInBounds_toArray, List.set_cons_zero, List.set_cons_succ]
        refine wpAnyL_done (by kernel_rfl) ?_ _
        skip
        go_wp2_with fail
        go_roundg (401 - (j + 1))
        case measure => omega
        case rel => exact ⟨j + 1, _, _, _, by push_cast; rfl, by omega, rfl, HGD.out.send _, HT3.out.r3⟩
      · have j1 : decide ((j : Int) < m) = false := by simpa using hjm
        go_wp2_with fail
        go_meet
        exact ⟨_, _, _, HGD.out, HT.out.d3⟩
    have p4 : (xk == 4) = false := by simpa using hk4
    clear hk4
    go_wp2_with fail
    go_meet
    exact ⟨_, _, _, HGD.out, HT.out.d3⟩
  case rest =>
    clear HT HS HG8 HGD y0 y1 y2 y3 y4
    obtain ⟨la, lb, L, hgood, ht⟩ := hcut
    have HGD := Lib.hid hgood
    obtain ⟨n, hn⟩ : ∃ n, L.length = n := ⟨_, rfl⟩
    have hn3 : n ≤ 300 := by rw [← hn]; exact hgood.1
    have HN := Lib.hid hn
    obtain ⟨_, AR, cR, hlb, _⟩ := ht.sw.box
    rw [hn] at hlb
    subst hlb
    have HT := Lib.hid ht
    clear ht hn hgood
    obtain ⟨tt, htt⟩ : ∃ t, toK L a1 = t := ⟨_, rfl⟩
    have HTO := Lib.hid htt
    clear htt
    go_wp2_with fail
    refine (all_sep HT.out HGD.out.1).mono ?_
    rw [HN.out]
    rintro e w2 ⟨A2, c2, rfl, hs⟩
    have HT2 := Lib.hid hs
    have HBR := Lib.hid (show Blk w2 bb #[.slice AR n cR] 29 from hs.tail.sw.box.1)
    have RA := Lib.hid (show Rd w2.drew A2 (eLet.fl L) from hs.own.rd)
    have RR := Lib.hid (show Rd w2.drew AR (eLet.fl L) from (show Own w2 tL 3 (.slice AR n cR) n (eLet.fl L) by have := hs.tail.sw.boxOwn; rw [HN.out] at this; exact this).rd)
    clear hs HT
    go_upto_region 32 with fail
    refine wp_region_L (fun w' => w'.cell? ⟨bb, 0, none⟩ = some (.slice AR n cR)) 17 (by kernel_rfl) (HBR.out.cell 0) (fun hHeld => ?_)
    refine reg_take (i := 0) (d := 124) (v := ?_) [] rfl rfl (by kernel_rfl) (by kernel_rfl) (fun _ _ _ h => h) (Or.inl ⟨by rfl, ?_⟩) (by assumption) ?_
    rotate_left
    · (intro w hSw; (try dsimp only at hSw); go_simp; first | done | with_reducible rfl)
    try simp only [List.setIfInBounds_toArray, List.set_cons_zero, List.set_cons_succ]
    refine reg_take (i := 1) (d := 125) (v := ?_) [] rfl rfl (by kernel_rfl) (by kernel_rfl) (fun _ _ _ h => h) (Or.inl ⟨by rfl, ?_⟩) (by assumption) ?_
    rotate_left
    · (intro w hSw; (try dsimp only at hSw); go_simp; first | done | with_reducible rfl)
    try simp only [List.setIfInBounds_toArray, List.set_cons_zero, List.set_cons_succ]
    refine reg_take (i := 2) (d := 126) (v := ?_) [] rfl rfl (by kernel_rfl) (by kernel_rfl) (fun _ _ _ h => h) (Or.inl ⟨by rfl, ?_⟩) (by assumption) ?_
    rotate_left
    · (intro w hSw; (try dsimp only at hSw); go_simp; first | done | with_reducible rfl)
    try simp only [List.setIfInBounds_toArray, List.set_cons_zero, List.set_cons_succ]
    refine reg_take (i := 3) (d := 127) (v := ?_) [] rfl rfl (by kernel_rfl) (by kernel_rfl) (fun _ _ _ h => h) (Or.inl ⟨by rfl, ?_⟩) (by assumption) ?_
    rotate_left
    · (intro w hSw; (try dsimp only at hSw); go_simp; first | done | with_reducible rfl)
    try simp only [List.setIfInBounds_toArray, List.set_cons_zero, List.set_cons_succ]
    refine reg_take (i := 4) (d := 128) (v := ?_) [] rfl rfl (by kernel_rfl) (by kernel_rfl) (fun _ _ _ h => h) (Or.inl ⟨by rfl, ?_⟩) (by assumption) ?_
    rotate_left
    · (intro w hSw; (try dsimp only at hSw); go_simp; first | done | with_reducible rfl)
    try simp only [List.setIfInBounds_toArray, List.set_cons_zero, List.set_cons_succ]
    refine wpAnyL_ready (rs := [5]) (by kernel_rfl) rfl ?_
    refine (AllL.cons rfl (fun K hK => ?_) AllL.nil)
    go_simp
    go_wp2_with (go_at_call 19; go_loud (with_reducible refine (same_any A2 AR n c2 cR L _ HN.out RA.out RR.out (by omega)).mono ?_; rintro e1 w3 ⟨rfl, q3, rfl⟩; have HT3 := Lib.hid (HT2.out.drewN (1 + q3)).sw; have HBR3 := Lib.hid (HBR.out.drewN (1 + q3))))
    refine hK.out _ _ (HBR3.out.cell 0) (fun hHeld => ?_)
    try simp only [List.setIfInBounds_toArray, List.set_cons_zero, List.set_cons_succ]
    refine reg_take (i := 6) (d := 130) (v := ?_) [] rfl rfl (by kernel_rfl) (by kernel_rfl) (fun _ _ _ h => h) (Or.inl ⟨by rfl, ?_⟩) (by assumption) ?_
    rotate_left
    · (intro w hSw; (try dsimp only at hSw); go_simp; first | done | with_reducible rfl)
    try simp only [List.setIfInBounds_toArray, List.set_cons_zero, List.set_cons_succ]
    refine reg_take (i := 7) (d := 131) (v := ?_) [] rfl rfl (by kernel_rfl) (by kernel_rfl) (fun _ _ _ h => h) (Or.inl ⟨by rfl, ?_⟩) (by assumption) ?_
    rotate_left
    · (intro w hSw; (try dsimp only at hSw); go_simp; first | done | with_reducible rfl)
    try simp only [List.setIfInBounds_toArray, List.set_cons_zero, List.set_cons_succ]
    refine reg_take (i := 8) (d := 132) (v := ?_) [] rfl rfl (by kernel_rfl) (by kernel_rfl) (fun _ _ _ h => h) (Or.inl ⟨by rfl, ?_⟩) (by assumption) ?_
    rotate_left
    · (intro w hSw; (try dsimp only at hSw); go_simp; first | done | with_reducible rfl)
    try simp only [List.setIfInBounds_toArray, List.set_cons_zero, List.set_cons_succ]
    refine reg_take (i := 10) (d := 134) (v := ?_) [] rfl rfl (by kernel_rfl) (by kernel_rfl) (fun _ _ _ h => h) (Or.inl ⟨by rfl, ?_⟩) (by assumption) ?_
    rotate_left
    · (intro w hSw; (try dsimp only at hSw); go_simp; first | done | with_reducible rfl)
    try simp only [List.setIfInBounds_toArray, List.set_cons_zero, List.set_cons_succ]
    refine reg_take (i := 11) (d := 135) (v := ?_) [] rfl rfl (by kernel_rfl) (by kernel_rfl) (fun _ _ _ h => h) (Or.inl ⟨by rfl, ?_⟩) (by assumption) ?_
    rotate_left
    · (intro w hSw; (try dsimp only at hSw); go_simp; first | done | with_reducible rfl)
    try simp only [List.setIfInBounds_toArray, List.set_cons_zero, List.set_cons_succ]
    refine reg_take (i := 12) (d := 136) (v := ?_) [] rfl rfl (by kernel_rfl) (by kernel_rfl) (fun _ _ _ h => h) (Or.inl ⟨by rfl, ?_⟩) (by assumption) ?_
    rotate_left
    · (intro w hSw; (try dsimp only at hSw); go_simp; first | done | with_reducible rfl)
    try simp only [List.setIfInBounds_toArray, List.set_cons_zero, List.set_cons_succ]
    refine reg_take (i := 13) (d := 137) (v := ?_) [] rfl rfl (by kernel_rfl) (by kernel_rfl) (fun _ _ _ h => h) (Or.inl ⟨by rfl, ?_⟩) (by assumption) ?_
    rotate_left
    · (intro w hSw; (try dsimp only at hSw); go_simp; first | done | with_reducible rfl)
    try simp only [List.setIfInBounds_toArray, List.set_cons_zero, List.set_cons_succ]
    refine reg_take (i := 14) (d := 138) (v := ?_) [] rfl rfl (by kernel_rfl) (by kernel_rfl) (fun _ _ _ h => h) (Or.inl ⟨by rfl, ?_⟩) (by assumption) ?_
    rotate_left
    · (intro w hSw; (try dsimp only at hSw); go_simp; first | done | with_reducible rfl)
    try simp only [List.setIfInBounds_toArray, List.set_cons_zero, List.set_cons_succ]
    refine wpAnyL_ready (rs := [9]) (by kernel_rfl) rfl ?_
    refine (AllL.cons rfl (fun K hK => ?_) AllL.nil)
    go_simp
    go_wp2_with (go_at_call 20; go_loud (with_reducible refine (len_sep HT3.out).mono ?_; rw [HN.out]; rintro e1 w4 ⟨rfl, hs4⟩; have HT4 := Lib.hid hs4; have HBR4 := Lib.hid (show Blk w4 bb #[.slice AR n cR] 29 from hs4.tail.sw.box.1); clear hs4))
    refine hK.out _ _ (HBR4.out.cell 0) (fun hHeld => ?_)
    try simp only [List.setIfInBounds_toArray, List.set_cons_zero, List.set_cons_succ]
    refine reg_take (i := 15) (d := 139) (v := ?_) [] rfl rfl (by kernel_rfl) (by kernel_rfl) (fun _ _ _ h => h) (Or.inl ⟨by rfl, ?_⟩) (by assumption) ?_
    rotate_left
    · (intro w hSw; (try dsimp only at hSw); go_simp; first | done | with_reducible rfl)
    try simp only [List.setIfInBounds_toArray, List.set_cons_zero, List.set_cons_succ]
    refine reg_take (i := 16) (d := 140) (v := ?_) [] rfl rfl (by kernel_rfl) (by kernel_rfl) (fun _ _ _ h => h) (Or.inl ⟨by rfl, ?_⟩) (by assumption) ?_
    rotate_left
    · (intro w hSw; (try dsimp only at hSw); go_simp; first | done | with_reducible rfl)
    try simp only [List.setIfInBounds_toArray, List.set_cons_zero, List.set_cons_succ]
    refine wpAnyL_done (by kernel_rfl) ?_ _
    skip
    go_wp2_with fail
    refine (to_sep HT4.out HGD.out.1 a1 tt HTO.out).mono ?_
    rintro e w5 ⟨rfl, hs⟩
    have HT5 := Lib.hid hs.r3'
    clear hs HT4 HT2 HBR RA RR
    go_wp2_with fail
    refine (rto_sep HT5.out.sw HGD.out.1 a1 tt HTO.out).mono ?_
    rintro e w6 ⟨rfl, hs⟩
    have HT6 := Lib.hid hs.sw
    clear hs HT5
    go_wp2_with fail
    go_loopg [163] n (fun gk s163 wr => ∃ (j : Nat) (ys : List Letter), s163 = .int .i64 (j : Int) ∧ j ≤ n ∧ gk = n - j ∧ ys.length = n ∧ Sep w wr [tOwn tL 3 (.slice A2 n c2) n (eLet.fl ys), tR bb (.slice AR n cR) L, tN ba la L])
    case atStart => exact ⟨0, L, rfl, by omega, by omega, HN.out, HT6.out⟩
    case round =>
    clear HT6
    obtain ⟨j, ys, rfl, hj, hgj, hys, ht⟩ := hrel
    have HT := Lib.hid ht
    have HYS := Lib.hid hys
    clear ht hys
    by_cases hjn : j < n
    · have j1 : (j : Int) < (n : Int) := by omega
      have j0 : (0 : Int) ≤ (j : Int) := by omega
      have HO := Lib.hid (show Own wr tL 3 (.slice A2 n c2) n (eLet.fl ys) from HT.out.hd)
      obtain ⟨g3, c3', hv⟩ := HO.out.pos (by omega)
      simp only [Value.slice.injEq, true_and] at hv
      obtain ⟨rfl, rfl⟩ := hv
      have hjy : j < ys.length := by rw [HYS.out]; exact hjn
      have y2 : wr.cell? ⟨g3, j * 3 + 2, none⟩ = some (.string ys[j].body) := HO.out.cell (j * 3 + 2) _ (Enc.get (E := eLet) ys j 2 hjy (by decide))
      have f2 := HO.out.frozen (j * 3 + 2)
      have HSS := Lib.hid (HO.out.set (j * 3 + 2) (.string ⟨#[63]⟩))
      have HF := Lib.hid (Enc.set (E := eLet) ys j 2 hjy (.string ⟨#[63]⟩) { ys[j] with body := ⟨#[63]⟩ } (by decide) rfl)
      generalize hz : ys.set j { ys[j] with body := ⟨#[63]⟩ } = zs at HF
      have HZ := Lib.hid (show zs.length = n by rw [← hz, List.length_set]; exact HYS.out)
      clear hz
      generalize ys[j].body = dd at *
      go_wp2_with fail
      go_roundg (n - (j + 1))
      case measure => omega
      case rel =>
        have h := HSS.out
        have hF := HF.out
        rw [show eLet.sz = 3 from rfl] at hF
        rw [hF] at h
        exact ⟨j + 1, zs, by push_cast; rfl, by omega, rfl, HZ.out, HT.out.op (t' := tOwn tL 3 (.slice (some ⟨g3, 0, none⟩) n c2) n (eLet.fl zs)) h (Upd.setCell (S := fun k => (Value.slice (some ⟨g3, 0, none⟩) n c2).ownBlock = some k) (p := ⟨g3, j * 3 + 2, none⟩) (Upd.refl _ wr) (.inr rfl) (.string ⟨#[63]⟩)) (fun k hk => .inl hk)⟩
    · have j2 : ¬ (j : Int) < (n : Int) := by omega
      have j3 : decide ((j : Int) < (n : Int)) = false := by simp; omega
      go_wp2_with fail
      go_roundg (101 - (k + 1))
      case measure => omega
      case rel => exact ⟨k + 1, _, _, L, by push_cast; rfl, by omega, rfl, HGD.out, HT.out.tail.sw⟩
end Go.Proofs.Ytofljgnfbakhoaa
