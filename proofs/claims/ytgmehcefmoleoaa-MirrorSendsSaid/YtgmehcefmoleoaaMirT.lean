/- The walk of the document's Add. Conditions: as its numbers are counted. -/
import Derived.Test.YtgmehcefmoleoaaMirR
import Derived.Test.YtgmehcefmoleoaaMirO
import Derived.Test.YtgmehcefmoleoaaReg
set_option linter.unusedVariables false
set_option linter.unusedSimpArgs false
namespace Go.Proofs.Ytgmehcefmoleoaa
open Go.RowKit

theorem own_nilC {w : World} {base n sz : Nat} {e : TypeId} {v : Value} {xs : List Value} (h : w.ownsRow base e sz v n xs) : ∀ (A : Option Addr) (c : Nat), v = .slice A n c → A = none → n = 0 ∧ c = 0 := by
  rintro A c rfl rfl
  rcases h.2 with ⟨hv, _⟩ | ⟨g, cap, cur, hv, _⟩
  · simp only [Value.slice.injEq, true_and] at hv; exact hv
  · simp at hv
theorem item_oneX (x : Item) : ∀ u ∈ x.cells, u.oneCell' = true := by
  intro u hu
  simp only [Item.cells, List.mem_cons, List.not_mem_nil, or_false] at hu
  rcases hu with rfl | rfl | rfl | rfl | rfl <;> rfl
theorem Blk.below {w w' : World} {b : Nat} {cs : Array Value} {T : TypeId} (h : Blk w b cs T) (hB : Below w.heap.size w w') : Blk w' b cs T := (hB.block b h.lt).trans h
section
variable {P : Program} {ops : Array Oper} {o : Oper} {a : Act} {W : World} {Q : Exit → Act → World → Prop}
/-- An append of whatever lies there, be it nothing. -/
theorem stepO {K : Act → World → Prop} {E : Prop} (base : Nat) (t e : TypeId) (z : Value) (sz bytes : Nat) (news : List Value) (m : Nat) {v : Value} {n : Nat} {xs : List Value}
    (HO : W.ownsRow base e sz v n xs) (hbase : base ≤ W.heap.size) (hl : (n + m) * bytes ≤ 140737488355328)
    (ht : P.underlying t = some (.slice e)) (hinfo : (P.info? e).map (fun i => (i.zero, i.size, i.bytes)) = some (some z, sz, bytes)) (hz : z.cells.size = sz) (hsz : 0 < sz) (hb0 : 0 < bytes)
    (hnl : news.length = m * sz) (h1 : ∀ u ∈ news, u.oneCell' = true) (A : Option Addr) (c : Nat) (hr : Rd W A news) (hA : A = none → m = 0 ∧ c = 0)
    (s x : Operand) (hgd : o.guard = none) (ho : o.op = .call { callee := .builtin .append, args := #[s, x], argTypes := #[t, t] })
    (hs : a.eval s = v) (hx : a.eval x = .slice A m c)
    (h : ∀ v1 w1, w1.ownsRow base e sz v1 (n + m) (xs ++ news) → W.grownBy w1 v.ownBlock → (v1.ownBlock = v.ownBlock ∨ ∃ b, v1.ownBlock = some b ∧ W.heap.size ≤ b) → K (a.put o.dst v1) w1) :
    if Region.wanted o (yielded ops a.tmps) = true then Oper.wp P o a W K Q else E := by
  cases A with
  | some p => exact stepN base t e z sz bytes news m HO hbase hl ht hinfo hz hsz hb0 hnl h1 p c hr s x hgd ho hs hx h
  | none =>
    obtain ⟨rfl, rfl⟩ := hA rfl
    have hn : news = [] := List.length_eq_zero_iff.1 (by rw [hnl]; simp)
    subst hn
    refine stepNone base t e z sz bytes HO ht hinfo s x hgd ho hs hx (h v W ?_ ?_ (.inl rfl))
    · rw [List.append_nil]; exact HO
    · exact ⟨rfl, rfl, rfl, Nat.le_refl _, fun _ _ _ => rfl⟩
end
theorem it5 {w : World} {g : Nat} {T : TypeId} {v0 v1 v2 v3 v4 : Value} (h : Blk w g #[v0, v1, v2, v3, v4] T) : w.cell? ⟨g, 0, none⟩ = some v0 ∧ w.cell? ⟨g, 1, none⟩ = some v1 ∧ w.cell? ⟨g, 2, none⟩ = some v2 ∧ w.cell? ⟨g, 3, none⟩ = some v3 ∧ w.cell? ⟨g, 4, none⟩ = some v4 :=
  ⟨h.cell 0, h.cell 1, h.cell 2, h.cell 3, h.cell 4⟩
structure StL (wc W : World) (g : Nat) (cs : Array Value) : Prop where
  bel : Below wc.heap.size wc W
  blk : Blk W g cs tI
structure StO (wc W : World) (v : Value) (n : Nat) (xs : List Value) : Prop where
  bel : Below wc.heap.size wc W
  own : W.ownsRow wc.heap.size tI 5 v n xs
structure StB (wc W : World) (v : Value) (n : Nat) (xs : List Value) (g : Nat) (cs : Array Value) : Prop where
  bel : Below wc.heap.size wc W
  own : W.ownsRow wc.heap.size tI 5 v n xs
  blk : Blk W g cs tI
  ne : v.ownBlock ≠ some g
section
variable {wc W W1 : World} {v v1 : Value} {n m : Nat} {xs ys : List Value} {g : Nat} {cs : Array Value}
theorem St0.row (h : Below wc.heap.size wc W) {g0 : Nat} (e0 : W.heap.size = g0) : StO wc (W.alloc (.cells #[] tI)) (.slice (some ⟨g0, 0, none⟩) 0 0) 0 [] := e0 ▸
  ⟨h.alloc h.size _, own_zero (Blk.new _ _ _) h.size⟩
theorem St0.lit (h : Below wc.heap.size wc W) (cs : Array Value) {g0 : Nat} (e0 : W.heap.size = g0) : StL wc (W.alloc (.cells cs tI)) g0 cs := e0 ▸ ⟨h.alloc h.size _, Blk.new _ _ _⟩
theorem StL.row (h : StL wc W g cs) {g0 : Nat} (e0 : W.heap.size = g0) : StB wc (W.alloc (.cells #[] tI)) (.slice (some ⟨g0, 0, none⟩) 0 0) 0 [] g cs := e0 ▸
  ⟨h.bel.alloc h.bel.size _, own_zero (Blk.new _ _ _) h.bel.size, h.blk.alloc _, by have := h.blk.lt; simp [Value.ownBlock]; omega⟩
theorem StO.lit (h : StO wc W v n xs) (cs : Array Value) {g0 : Nat} (e0 : W.heap.size = g0) : StB wc (W.alloc (.cells cs tI)) v n xs g0 cs := e0 ▸
  ⟨h.bel.alloc h.bel.size _, h.own.alloc _, Blk.new _ _ _, fun e => by have := (h.own.lt _ e).2; omega⟩
theorem StO.app (h : StO wc W v n xs) (ho : W1.ownsRow wc.heap.size tI 5 v1 m ys) (hg : W.grownBy W1 v.ownBlock) (ha : v1.ownBlock = v.ownBlock ∨ ∃ b, v1.ownBlock = some b ∧ W.heap.size ≤ b) : StO wc W1 v1 m ys :=
  ⟨Below.grown h.bel hg h.bel.size (fun q hq => (h.own.lt q hq).1), ho⟩
theorem StB.app (h : StB wc W v n xs g cs) (ho : W1.ownsRow wc.heap.size tI 5 v1 m ys) (hg : W.grownBy W1 v.ownBlock) (ha : v1.ownBlock = v.ownBlock ∨ ∃ b, v1.ownBlock = some b ∧ W.heap.size ≤ b) : StB wc W1 v1 m ys g cs :=
  ⟨Below.grown h.bel hg h.bel.size (fun q hq => (h.own.lt q hq).1), ho, h.blk.upd (Upd.of_grown hg) (fun e => h.ne e.symm), fun e => by
    rcases ha with ha | ⟨b, ha, hb⟩
    · exact h.ne (by rw [← ha]; exact e)
    · have := h.blk.lt; rw [ha] at e; cases e; omega⟩
theorem StB.fin (h : StB wc W v n xs g cs) (ho : W1.ownsRow wc.heap.size tI 5 v1 m ys) (hg : W.grownBy W1 v.ownBlock) (ha : v1.ownBlock = v.ownBlock ∨ ∃ b, v1.ownBlock = some b ∧ W.heap.size ≤ b) : StO wc W1 v1 m ys :=
  ⟨Below.grown h.bel hg h.bel.size (fun q hq => (h.own.lt q hq).1), ho⟩
end
theorem radd_fin {w wc w2 : World} {B b : Nat} {v v2 : Value} {base acked sq xb xc xn : Int} {xd : ByteArray} {l : List Item} (hb : Blk wc b #[v, .int .i64 base, .int .i64 acked] 41) (hge : B ≤ b) (h0 : 0 ≤ base) (h1 : base + l.length ≤ 4611686018427387904) (hlt : base + l.length < 4611686018427387904)
    (hw : Below w.heap.size w wc) (he : StO wc w2 v2 (l.length + 1) ([] ++ flat l ++ [.int .i64 sq, .int .i64 xb, .string xd, .int .i64 xc, .int .i64 xn])) {y : Item} (hy : y = ⟨sq, xb, xd, xc, xn⟩) (hbw : b < w.heap.size) :
    RSnd (w2.setCell ⟨b, 0, none⟩ v2) B b v2 (l ++ [y]) base acked ∧ Upd (fun k => k = b) w (w2.setCell ⟨b, 0, none⟩ v2) ∧ ∀ g, v2.ownBlock = some g → w.heap.size ≤ g := by
  have hbb := hb.below he.bel
  have hs := hw.size
  have ho : w2.ownsRow wc.heap.size tI 5 v2 (l ++ [y]).length (flat (l ++ [y])) := by
    rw [hy, List.length_append, flat_append]
    have := he.own
    rw [List.nil_append] at this
    exact this
  refine ⟨⟨hbb.set 0 v2, own_setOther (own_base' ho (by omega)) (own_ne ho hbb (by decide)) v2, hge, h0, by rw [List.length_append, List.length_singleton]; push_cast; omega⟩, ?_, fun g hg => by have := (ho.lt g hg).1; omega⟩
  exact Upd.setCell (S := fun k => k = b) (p := ⟨b, 0, none⟩) ((Upd.of_below hw).trans (Upd.of_below he.bel)) (.inr rfl) _
set_option maxRecDepth 100000 in
set_option maxHeartbeats 4000000 in
theorem radd_any (B b c : Nat) (A : Option Addr) (l : List Item) (base acked : Int) (x : Item) (w : World) (hs : RSnd w B b (.slice A l.length c) l base acked) (hlt : base + l.length < 4611686018427387904) (hn : (l.length + 1) * 48 ≤ 140737488351232) :
    Calls Try.prog 13 #[.pointer (some ⟨b, 0, none⟩), .agg #[.int .i64 x.seq, .int .i64 x.blk, .string x.data, .int .i64 x.cl, .int .i64 x.n]] w fun e w' => e = .returned (.tuple #[.int .i64 (base + l.length + 1), .int .i64 0]) ∧ ∃ lv', RSnd w' B b lv' (l ++ [{ x with seq := base + l.length + 1 }]) base acked ∧ Upd (fun k => k = b) w w' ∧ (∀ g, lv'.ownBlock = some g → w.heap.size ≤ g) := by
  obtain ⟨hb, ho, hge, h0, h1⟩ := hs
  obtain ⟨A', c', he, hnc, hr⟩ := own_rd ho
  simp only [Value.slice.injEq, true_and] at he
  obtain ⟨rfl, rfl⟩ := he
  have HNC := Lib.hid (own_nilC ho A c rfl)
  obtain ⟨xs, xb, xd, xc, xn⟩ := x
  have HLT := Lib.hid hlt
  have hbA := Lib.hid (fun (o : Obj) => hb.alloc o)
  have HL0 := Lib.hid (show (0 + l.length) * 48 ≤ 140737488355328 by omega)
  have HL1 := Lib.hid (show (0 + l.length + 1) * 48 ≤ 140737488355328 by rw [Nat.zero_add]; exact Nat.le_trans hn (by decide))
  clear hn
  have e1 : decide (4611686018427387904 ≤ base + l.length) = false := by simp; omega
  go_enter Try.func13, Try.ntmps13
  go_upto_region 3 with (go_at_call 20; refine (rlast_any b A l.length c base acked _ (by exact hbA.out _) h0 h1).mono ?_; rintro e w' ⟨rfl, k, rfl⟩)
  go_cut [3] (fun s3 wx => s3 = .pointer (some ⟨w.heap.size, 0, none⟩) ∧ Blk wx w.heap.size #[.int .i64 (base + l.length + 1), .int .i64 xb, .string xd, .int .i64 xc, .int .i64 xn] tI ∧ Below w.heap.size w wx)
  case first =>
    go_wp2_with (go_at_call 20; refine (rlast_any b A l.length c base acked _ (by exact hbA.out _) h0 h1).mono ?_; rintro e w' ⟨rfl, k, rfl⟩)
    go_meet
    exact ⟨rfl, ((Blk.new w _ _).drewN _).set 0 _, (pw_drewN ((Below.refl _ _).alloc (Nat.le_refl _) _) _).setCell (Nat.le_refl _) _⟩
  case rest =>
    obtain ⟨rfl, hX, hB⟩ := hcut
    have HNB := Lib.hid (show b < w.heap.size from hb.lt)
    generalize hsq : base + (l.length : Int) + 1 = sq at *
    have HSQ := Lib.hid hsq; clear hsq
    have HX := Lib.hid hX
    have HBC := Lib.hid (show Blk wc b #[.slice A l.length c, .int .i64 base, .int .i64 acked] 41 from hb.upd (Upd.of_below (S := fun _ => False) hB) (fun h => h))
    have HR := Lib.hid (hr.below hB)
    have HWB := Lib.hid hB
    have HS : Hid (∀ W, Below wc.heap.size wc W → (fun w' => w'.cell? ⟨w.heap.size, 0, none⟩ = some (.int .i64 sq) ∧ w'.cell? ⟨w.heap.size, 1, none⟩ = some (.int .i64 xb) ∧ w'.cell? ⟨w.heap.size, 2, none⟩ = some (.string xd) ∧ w'.cell? ⟨w.heap.size, 3, none⟩ = some (.int .i64 xc) ∧ w'.cell? ⟨w.heap.size, 4, none⟩ = some (.int .i64 xn) ∧ w'.cell? ⟨b, 0, none⟩ = some (.slice A l.length c)) W) := Lib.hid (fun W hW => by
      obtain ⟨y0, y1, y2, y3, y4⟩ := it5 (HX.out.below hW)
      exact ⟨y0, y1, y2, y3, y4, (HBC.out.below hW).cell 0⟩)
    clear hX hB hbA e1 ho hr hnc hlt
    go_wp2_with fail
    have HW := Lib.hid (show Below wc.heap.size wc wc.drew from (Below.refl _ _).drew)
    refine wp_region_L (fun w' => w'.cell? ⟨w.heap.size, 0, none⟩ = some (.int .i64 sq) ∧ w'.cell? ⟨w.heap.size, 1, none⟩ = some (.int .i64 xb) ∧ w'.cell? ⟨w.heap.size, 2, none⟩ = some (.string xd) ∧ w'.cell? ⟨w.heap.size, 3, none⟩ = some (.int .i64 xc) ∧ w'.cell? ⟨w.heap.size, 4, none⟩ = some (.int .i64 xn) ∧ w'.cell? ⟨b, 0, none⟩ = some (.slice A l.length c)) 12 (by kernel_rfl) (HS.out _ HW.out) (fun hHeld => ?_)
    refine reg_take (i := 0) (d := 13) (v := ?_) [] rfl rfl (by kernel_rfl) (by kernel_rfl) (fun _ _ _ h => h) (Or.inl ⟨by rfl, ?_⟩) (by assumption) ?_
    rotate_left
    · (intro w hSw; (try dsimp only at hSw); go_simp; first | done | with_reducible rfl)
    try simp only [List.setIfInBounds_toArray, List.set_cons_zero, List.set_cons_succ]
    refine reg_take (i := 2) (d := 15) (v := ?_) [] rfl rfl (by kernel_rfl) (by kernel_rfl) (fun _ _ _ h => h) (Or.inl ⟨by rfl, ?_⟩) (by assumption) ?_
    rotate_left
    · (intro w hSw; (try dsimp only at hSw); go_simp; first | done | with_reducible rfl)
    try simp only [List.setIfInBounds_toArray, List.set_cons_zero, List.set_cons_succ]
    refine reg_take (i := 3) (d := 16) (v := ?_) [] rfl rfl (by kernel_rfl) (by kernel_rfl) (fun _ _ _ h => h) (Or.inl ⟨by rfl, ?_⟩) (by assumption) ?_
    rotate_left
    · (intro w hSw; (try dsimp only at hSw); go_simp; first | done | with_reducible rfl)
    try simp only [List.setIfInBounds_toArray, List.set_cons_zero, List.set_cons_succ]
    refine reg_take (i := 4) (d := 17) (v := ?_) [] rfl rfl (by kernel_rfl) (by kernel_rfl) (fun _ _ _ h => h) (Or.inl ⟨by rfl, ?_⟩) (by assumption) ?_
    rotate_left
    · (intro w hSw; (try dsimp only at hSw); go_simp; first | done | with_reducible rfl)
    try simp only [List.setIfInBounds_toArray, List.set_cons_zero, List.set_cons_succ]
    refine reg_take (i := 5) (d := 18) (v := ?_) [] rfl rfl (by kernel_rfl) (by kernel_rfl) (fun _ _ _ h => h) (Or.inl ⟨by rfl, ?_⟩) (by assumption) ?_
    rotate_left
    · (intro w hSw; (try dsimp only at hSw); go_simp; first | done | with_reducible rfl)
    try simp only [List.setIfInBounds_toArray, List.set_cons_zero, List.set_cons_succ]
    refine reg_take (i := 7) (d := 20) (v := ?_) [] rfl rfl (by kernel_rfl) (by kernel_rfl) (fun _ _ _ h => h) (Or.inl ⟨by rfl, ?_⟩) (by assumption) ?_
    rotate_left
    · (intro w hSw; (try dsimp only at hSw); go_simp; first | done | with_reducible rfl)
    try simp only [List.setIfInBounds_toArray, List.set_cons_zero, List.set_cons_succ]
    refine wpAnyL_ready (rs := [1, 8]) (by kernel_rfl) rfl ?_
    refine (AllL.cons rfl (fun K hK => ?_) (AllL.cons rfl (fun K hK => ?_) AllL.nil))
    · go_simp
      have HO := Lib.hid (St0.row HW.out (g0 := wc.heap.size) (by simp))
      refine hK.out _ _ (HS.out _ HO.out.bel) (fun hHeld => ?_)
      try simp only [List.setIfInBounds_toArray, List.set_cons_zero, List.set_cons_succ]
      refine wpAnyL_ready (rs := [6, 8]) (by kernel_rfl) rfl ?_
      refine (AllL.cons rfl (fun K hK => ?_) (AllL.cons rfl (fun K hK => ?_) AllL.nil))
      · refine stepO wc.heap.size 36 tI (.agg #[.int .i64 0, .int .i64 0, .string ByteArray.empty, .int .i64 0, .int .i64 0]) 5 48 (flat l) l.length HO.out.own HO.out.bel.size HL0.out Try.underlying36 Try.infoItem rfl (by decide) (by decide) (flat_length l) (flat_one l) A c (HR.out.below HO.out.bel) HNC.out (.tmp 14) (.tmp 18) rfl rfl rfl rfl ?_
        intro v1 w1 hown1 hg1 hat1
        have HO := Lib.hid (HO.out.app hown1 hg1 hat1)
        clear hown1 hg1 hat1
        refine hK.out _ _ (HS.out _ HO.out.bel) (fun hHeld => ?_)
        try simp only [List.setIfInBounds_toArray, List.set_cons_zero, List.set_cons_succ]
        refine wpAnyL_ready (rs := [8]) (by kernel_rfl) rfl ?_
        refine (AllL.cons rfl (fun K hK => ?_) AllL.nil)
        go_simp
        have HB := Lib.hid (StO.lit HO.out #[.int .i64 sq, .int .i64 xb, .string xd, .int .i64 xc, .int .i64 xn] (g0 := w1.heap.size) (by simp))
        refine hK.out _ _ (HS.out _ HB.out.bel) (fun hHeld => ?_)
        try simp only [List.setIfInBounds_toArray, List.set_cons_zero, List.set_cons_succ]
        refine wpAnyL_ready (rs := [9]) (by kernel_rfl) rfl ?_
        refine (AllL.cons rfl (fun K hK => ?_) AllL.nil)
        refine stepO wc.heap.size 36 tI (.agg #[.int .i64 0, .int .i64 0, .string ByteArray.empty, .int .i64 0, .int .i64 0]) 5 48 [.int .i64 sq, .int .i64 xb, .string xd, .int .i64 xc, .int .i64 xn] 1 HB.out.own HB.out.bel.size HL1.out Try.underlying36 Try.infoItem rfl (by decide) (by decide) rfl (item_oneX ⟨sq, xb, xd, xc, xn⟩) _ _ HB.out.blk.rd (fun e => nomatch e) (.tmp 19) (.tmp 21) rfl rfl rfl rfl ?_
        intro v2 w2 hown2 hg2 hat2
        rw [Nat.zero_add] at hown2
        have HE := Lib.hid (HB.out.fin hown2 hg2 hat2)
        clear hown2 hg2 hat2
        refine hK.out _ _ (HS.out _ HE.out.bel) (fun hHeld => ?_)
        try simp only [List.setIfInBounds_toArray, List.set_cons_zero, List.set_cons_succ]
        refine reg_take (i := 10) (d := 23) (v := ?_) [11] rfl rfl (by kernel_rfl) (by kernel_rfl) (fun _ _ _ h => h) (Or.inl ⟨by rfl, ?_⟩) (by assumption) ?_
        rotate_left
        · (intro w hSw; (try dsimp only at hSw); go_simp; first | done | with_reducible rfl)
        try simp only [List.setIfInBounds_toArray, List.set_cons_zero, List.set_cons_succ]
        refine reg_take (i := 11) (d := 24) (v := ?_) [] rfl rfl (by kernel_rfl) (by kernel_rfl) (fun _ _ _ h => h) (Or.inl ⟨by rfl, ?_⟩) (by assumption) ?_
        rotate_left
        · (intro w hSw; (try dsimp only at hSw); go_simp; first | done | with_reducible rfl)
        try simp only [List.setIfInBounds_toArray, List.set_cons_zero, List.set_cons_succ]
        refine wpAnyL_ready (rs := [12]) (by kernel_rfl) rfl ?_
        refine (AllL.consJ rfl (by kernel_rfl) (fun K hK => ?_) AllL.nil)
        obtain ⟨A2, c2, rfl, _, _⟩ := own_rd HE.out.own
        have z0 : w2.cell? ⟨b, 0, none⟩ = some (.slice A l.length c) := (HBC.out.below HE.out.bel).cell 0
        have fz : w2.frozen? ⟨b, 0, none⟩ = false := (HBC.out.below HE.out.bel).frozen 0
        go_simp
        refine hK.out _ _ ?_
        try simp only [List.setIfInBounds_toArray, List.set_cons_zero, List.set_cons_succ]
        refine wpAnyL_done (by kernel_rfl) ?_ _
        have HY := (HX.out.below HE.out.bel).setOther (p := ⟨b, 0, none⟩) (Nat.ne_of_lt HNB.out) (.slice A2 (l.length + 1) c2)
        have y0 := HY.cell 0
        go_wp2
        go_ret2
        rw [HSQ.out]
        exact ⟨rfl, _, radd_fin HBC.out hge h0 h1 HLT.out HWB.out HE.out rfl HNB.out⟩
      · go_simp
        have HB := Lib.hid (StO.lit HO.out #[.int .i64 sq, .int .i64 xb, .string xd, .int .i64 xc, .int .i64 xn] (g0 := wc.heap.size + 1) (by simp))
        refine hK.out _ _ (HS.out _ HB.out.bel) (fun hHeld => ?_)
        try simp only [List.setIfInBounds_toArray, List.set_cons_zero, List.set_cons_succ]
        refine wpAnyL_ready (rs := [6]) (by kernel_rfl) rfl ?_
        refine (AllL.cons rfl (fun K hK => ?_) AllL.nil)
        refine stepO wc.heap.size 36 tI (.agg #[.int .i64 0, .int .i64 0, .string ByteArray.empty, .int .i64 0, .int .i64 0]) 5 48 (flat l) l.length HB.out.own HB.out.bel.size HL0.out Try.underlying36 Try.infoItem rfl (by decide) (by decide) (flat_length l) (flat_one l) A c (HR.out.below HB.out.bel) HNC.out (.tmp 14) (.tmp 18) rfl rfl rfl rfl ?_
        intro v1 w1 hown1 hg1 hat1
        have HB := Lib.hid (HB.out.app hown1 hg1 hat1)
        clear hown1 hg1 hat1
        refine hK.out _ _ (HS.out _ HB.out.bel) (fun hHeld => ?_)
        try simp only [List.setIfInBounds_toArray, List.set_cons_zero, List.set_cons_succ]
        refine wpAnyL_ready (rs := [9]) (by kernel_rfl) rfl ?_
        refine (AllL.cons rfl (fun K hK => ?_) AllL.nil)
        refine stepO wc.heap.size 36 tI (.agg #[.int .i64 0, .int .i64 0, .string ByteArray.empty, .int .i64 0, .int .i64 0]) 5 48 [.int .i64 sq, .int .i64 xb, .string xd, .int .i64 xc, .int .i64 xn] 1 HB.out.own HB.out.bel.size HL1.out Try.underlying36 Try.infoItem rfl (by decide) (by decide) rfl (item_oneX ⟨sq, xb, xd, xc, xn⟩) _ _ HB.out.blk.rd (fun e => nomatch e) (.tmp 19) (.tmp 21) rfl rfl rfl rfl ?_
        intro v2 w2 hown2 hg2 hat2
        rw [Nat.zero_add] at hown2
        have HE := Lib.hid (HB.out.fin hown2 hg2 hat2)
        clear hown2 hg2 hat2
        refine hK.out _ _ (HS.out _ HE.out.bel) (fun hHeld => ?_)
        try simp only [List.setIfInBounds_toArray, List.set_cons_zero, List.set_cons_succ]
        refine reg_take (i := 10) (d := 23) (v := ?_) [11] rfl rfl (by kernel_rfl) (by kernel_rfl) (fun _ _ _ h => h) (Or.inl ⟨by rfl, ?_⟩) (by assumption) ?_
        rotate_left
        · (intro w hSw; (try dsimp only at hSw); go_simp; first | done | with_reducible rfl)
        try simp only [List.setIfInBounds_toArray, List.set_cons_zero, List.set_cons_succ]
        refine reg_take (i := 11) (d := 24) (v := ?_) [] rfl rfl (by kernel_rfl) (by kernel_rfl) (fun _ _ _ h => h) (Or.inl ⟨by rfl, ?_⟩) (by assumption) ?_
        rotate_left
        · (intro w hSw; (try dsimp only at hSw); go_simp; first | done | with_reducible rfl)
        try simp only [List.setIfInBounds_toArray, List.set_cons_zero, List.set_cons_succ]
        refine wpAnyL_ready (rs := [12]) (by kernel_rfl) rfl ?_
        refine (AllL.consJ rfl (by kernel_rfl) (fun K hK => ?_) AllL.nil)
        obtain ⟨A2, c2, rfl, _, _⟩ := own_rd HE.out.own
        have z0 : w2.cell? ⟨b, 0, none⟩ = some (.slice A l.length c) := (HBC.out.below HE.out.bel).cell 0
        have fz : w2.frozen? ⟨b, 0, none⟩ = false := (HBC.out.below HE.out.bel).frozen 0
        go_simp
        refine hK.out _ _ ?_
        try simp only [List.setIfInBounds_toArray, List.set_cons_zero, List.set_cons_succ]
        refine wpAnyL_done (by kernel_rfl) ?_ _
        have HY := (HX.out.below HE.out.bel).setOther (p := ⟨b, 0, none⟩) (Nat.ne_of_lt HNB.out) (.slice A2 (l.length + 1) c2)
        have y0 := HY.cell 0
        go_wp2
        go_ret2
        rw [HSQ.out]
        exact ⟨rfl, _, radd_fin HBC.out hge h0 h1 HLT.out HWB.out HE.out rfl HNB.out⟩
    · go_simp
      have HL := Lib.hid (St0.lit HW.out #[.int .i64 sq, .int .i64 xb, .string xd, .int .i64 xc, .int .i64 xn] (g0 := wc.heap.size) (by simp))
      refine hK.out _ _ (HS.out _ HL.out.bel) (fun hHeld => ?_)
      try simp only [List.setIfInBounds_toArray, List.set_cons_zero, List.set_cons_succ]
      refine wpAnyL_ready (rs := [1]) (by kernel_rfl) rfl ?_
      refine (AllL.cons rfl (fun K hK => ?_) AllL.nil)
      go_simp
      have HB := Lib.hid (StL.row HL.out (g0 := wc.heap.size + 1) (by simp))
      refine hK.out _ _ (HS.out _ HB.out.bel) (fun hHeld => ?_)
      try simp only [List.setIfInBounds_toArray, List.set_cons_zero, List.set_cons_succ]
      refine wpAnyL_ready (rs := [6]) (by kernel_rfl) rfl ?_
      refine (AllL.cons rfl (fun K hK => ?_) AllL.nil)
      refine stepO wc.heap.size 36 tI (.agg #[.int .i64 0, .int .i64 0, .string ByteArray.empty, .int .i64 0, .int .i64 0]) 5 48 (flat l) l.length HB.out.own HB.out.bel.size HL0.out Try.underlying36 Try.infoItem rfl (by decide) (by decide) (flat_length l) (flat_one l) A c (HR.out.below HB.out.bel) HNC.out (.tmp 14) (.tmp 18) rfl rfl rfl rfl ?_
      intro v1 w1 hown1 hg1 hat1
      have HB := Lib.hid (HB.out.app hown1 hg1 hat1)
      clear hown1 hg1 hat1
      refine hK.out _ _ (HS.out _ HB.out.bel) (fun hHeld => ?_)
      try simp only [List.setIfInBounds_toArray, List.set_cons_zero, List.set_cons_succ]
      refine wpAnyL_ready (rs := [9]) (by kernel_rfl) rfl ?_
      refine (AllL.cons rfl (fun K hK => ?_) AllL.nil)
      refine stepO wc.heap.size 36 tI (.agg #[.int .i64 0, .int .i64 0, .string ByteArray.empty, .int .i64 0, .int .i64 0]) 5 48 [.int .i64 sq, .int .i64 xb, .string xd, .int .i64 xc, .int .i64 xn] 1 HB.out.own HB.out.bel.size HL1.out Try.underlying36 Try.infoItem rfl (by decide) (by decide) rfl (item_oneX ⟨sq, xb, xd, xc, xn⟩) _ _ HB.out.blk.rd (fun e => nomatch e) (.tmp 19) (.tmp 21) rfl rfl rfl rfl ?_
      intro v2 w2 hown2 hg2 hat2
      rw [Nat.zero_add] at hown2
      have HE := Lib.hid (HB.out.fin hown2 hg2 hat2)
      clear hown2 hg2 hat2
      refine hK.out _ _ (HS.out _ HE.out.bel) (fun hHeld => ?_)
      try simp only [List.setIfInBounds_toArray, List.set_cons_zero, List.set_cons_succ]
      refine reg_take (i := 10) (d := 23) (v := ?_) [11] rfl rfl (by kernel_rfl) (by kernel_rfl) (fun _ _ _ h => h) (Or.inl ⟨by rfl, ?_⟩) (by assumption) ?_
      rotate_left
      · (intro w hSw; (try dsimp only at hSw); go_simp; first | done | with_reducible rfl)
      try simp only [List.setIfInBounds_toArray, List.set_cons_zero, List.set_cons_succ]
      refine reg_take (i := 11) (d := 24) (v := ?_) [] rfl rfl (by kernel_rfl) (by kernel_rfl) (fun _ _ _ h => h) (Or.inl ⟨by rfl, ?_⟩) (by assumption) ?_
      rotate_left
      · (intro w hSw; (try dsimp only at hSw); go_simp; first | done | with_reducible rfl)
      try simp only [List.setIfInBounds_toArray, List.set_cons_zero, List.set_cons_succ]
      refine wpAnyL_ready (rs := [12]) (by kernel_rfl) rfl ?_
      refine (AllL.consJ rfl (by kernel_rfl) (fun K hK => ?_) AllL.nil)
      obtain ⟨A2, c2, rfl, _, _⟩ := own_rd HE.out.own
      have z0 : w2.cell? ⟨b, 0, none⟩ = some (.slice A l.length c) := (HBC.out.below HE.out.bel).cell 0
      have fz : w2.frozen? ⟨b, 0, none⟩ = false := (HBC.out.below HE.out.bel).frozen 0
      go_simp
      refine hK.out _ _ ?_
      try simp only [List.setIfInBounds_toArray, List.set_cons_zero, List.set_cons_succ]
      refine wpAnyL_done (by kernel_rfl) ?_ _
      have HY := (HX.out.below HE.out.bel).setOther (p := ⟨b, 0, none⟩) (Nat.ne_of_lt HNB.out) (.slice A2 (l.length + 1) c2)
      have y0 := HY.cell 0
      go_wp2
      go_ret2
      rw [HSQ.out]
      exact ⟨rfl, _, radd_fin HBC.out hge h0 h1 HLT.out HWB.out HE.out rfl HNB.out⟩
end Go.Proofs.Ytgmehcefmoleoaa
