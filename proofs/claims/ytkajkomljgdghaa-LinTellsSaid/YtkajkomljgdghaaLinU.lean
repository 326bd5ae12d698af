/- The reference of ch. 18: order. Condition: at most 100 ops, each of which counts. -/
import Derived.Test.YtkajkomljgdghaaLinT
set_option linter.unusedVariables false
set_option linter.unusedSimpArgs false
namespace Go.Proofs.Ytkajkomljgdghaa
open Go.RowKit Go.Maps
theorem picks_idx {α : Type} : ∀ {l : List α} {p : α × List α}, p ∈ picks l ↔ ∃ i : Nat, l[i]? = some p.1 ∧ p.2 = l.eraseIdx i
  | [], p => by simp [picks]
  | x :: l, p => by
    simp only [picks, List.mem_cons, List.mem_map]
    constructor
    · rintro (rfl | ⟨q, hq, rfl⟩)
      · exact ⟨0, rfl, rfl⟩
      · obtain ⟨i, h1, h2⟩ := picks_idx.1 hq
        exact ⟨i + 1, h1, by rw [List.eraseIdx_cons_succ, h2]⟩
    · rintro ⟨i, h1, h2⟩
      obtain ⟨p1, p2⟩ := p
      cases i with
      | zero =>
        simp at h1 h2
        exact .inl (by rw [h1, h2])
      | succ i =>
        refine .inr ⟨(p1, l.eraseIdx i), picks_idx.2 ⟨i, by simpa using h1, rfl⟩, ?_⟩
        simp only [List.eraseIdx_cons_succ] at h2
        rw [h2]
def overX (xs : List LOp) (k : Nat) : Bool := (xs.take k).all (fun x => !x.sure)
theorem overX_succ {xs : List LOp} {k : Nat} {x : LOp} (h : xs[k]? = some x) : overX xs (k + 1) = (overX xs k && !x.sure) := by
  unfold overX
  rw [List.take_add_one, h, List.all_append]
  simp
def frontX (xs : List LOp) (i : Nat) (o : LOp) (k : Nat) : Bool := ((xs.take k).eraseIdx i).all (fun x => !ahd x o)
theorem erase_take {α : Type} {xs : List α} {k : Nat} {x : α} (h : xs[k]? = some x) (i : Nat) : (xs.take (k + 1)).eraseIdx i = if k = i then (xs.take k).eraseIdx i else (xs.take k).eraseIdx i ++ [x] := by
  have hk : (xs.take k).length = k := by rw [List.length_take]; have := (List.getElem?_eq_some_iff.1 h).1; omega
  rw [List.take_add_one, h]
  show (xs.take k ++ [x]).eraseIdx i = _
  split
  · rename_i e
    subst e
    rw [List.eraseIdx_append_of_length_le (by omega), hk, Nat.sub_self, List.eraseIdx_of_length_le (l := xs.take k) (by omega)]
    simp
  · rename_i e
    rcases Nat.lt_or_ge i k with hi | hi
    · rw [List.eraseIdx_append_of_lt_length (by omega)]
    · rw [List.eraseIdx_of_length_le (by rw [List.length_append, hk]; simp; omega), List.eraseIdx_of_length_le (l := xs.take k) (by omega)]
theorem frontX_succ {xs : List LOp} {k : Nat} {x : LOp} (h : xs[k]? = some x) (i : Nat) (o : LOp) : frontX xs i o (k + 1) = if k = i then frontX xs i o k else (frontX xs i o k && !ahd x o) := by
  unfold frontX
  rw [erase_take h]
  split
  · rfl
  · rw [List.all_append]; simp
/-- None of the first k can come first. -/
def NoneX (xs : List LOp) (d : ByteArray) (k : Nat) : Prop := ∀ (i : Nat) (o : LOp), i < k → xs[i]? = some o → frontX xs i o xs.length = true → o.fits d = true → ord (xs.eraseIdx i) (o.nxt d) = false
theorem NoneX.succ {xs : List LOp} {d : ByteArray} {k : Nat} {o : LOp} (h : NoneX xs d k) (ho : xs[k]? = some o) (hn : frontX xs k o xs.length = true → o.fits d = true → ord (xs.eraseIdx k) (o.nxt d) = false) : NoneX xs d (k + 1) := fun i o' hi ho' => by
  rcases Nat.lt_or_ge i k with hik | hik
  · exact h i o' hik ho'
  · obtain rfl : i = k := by omega
    rw [ho] at ho'
    cases ho'
    exact hn
theorem ordX_over {xs : List LOp} {d : ByteArray} {n : Nat} (hl : xs.length = n) (h : overX xs n = true) : ord xs d = true := by
  rw [ord_unfold]
  unfold overX at h
  rw [← hl, List.take_length] at h
  rw [h]; rfl
theorem ordX_none {xs : List LOp} {d : ByteArray} {n : Nat} (hl : xs.length = n) (h0 : overX xs n = false) (h : NoneX xs d n) : ord xs d = false := by
  rw [ord_unfold]
  unfold overX at h0
  rw [← hl, List.take_length] at h0
  rw [h0, Bool.false_or]
  cases e : (picks xs).any _ with
  | false => rfl
  | true =>
    obtain ⟨p, hp, hc⟩ := List.any_eq_true.1 e
    obtain ⟨i, h1, h2⟩ := picks_idx.1 hp
    simp only [Bool.and_eq_true] at hc
    have := h i p.1 (by rw [← hl]; exact (List.getElem?_eq_some_iff.1 h1).1) h1 (by unfold frontX; rw [List.take_length, ← h2]; exact hc.1.1) hc.1.2
    rw [← h2] at this
    rw [this] at hc
    cases hc.2
theorem ordX_hit {xs : List LOp} {d : ByteArray} {n i : Nat} {o : LOp} (hl : xs.length = n) (ho : xs[i]? = some o) (h1 : frontX xs i o n = true) (h2 : o.fits d = true) (h3 : ord (xs.eraseIdx i) (o.nxt d) = true) : ord xs d = true := by
  rw [ord_unfold]
  have : (picks xs).any (fun p => p.2.all (fun x => !ahd x p.1) && p.1.fits d && ord p.2 (p.1.nxt d)) = true := List.any_eq_true.2 ⟨(o, xs.eraseIdx i), picks_idx.2 ⟨i, ho, rfl⟩, by
    unfold frontX at h1
    rw [← hl, List.take_length] at h1
    simp only [h1, h2, h3, Bool.and_self]⟩
  rw [this, Bool.or_true]
/-- The indices ix name the ops xs. -/
def Pts (L : List LOp) (ix : List Nat) (xs : List LOp) : Prop := ix.length = xs.length ∧ ∀ (k i : Nat) (x : LOp), ix[k]? = some i → xs[k]? = some x → L[i]? = some x
theorem Pts.erase {L : List LOp} {ix : List Nat} {xs : List LOp} (h : Pts L ix xs) (j : Nat) : Pts L (ix.eraseIdx j) (xs.eraseIdx j) := by
  refine ⟨by rw [List.length_eraseIdx, List.length_eraseIdx, h.1], fun k i x h1 h2 => ?_⟩
  rw [List.getElem?_eraseIdx] at h1 h2
  split at h1
  · rename_i hk
    rw [if_pos hk] at h2
    exact h.2 k i x h1 h2
  · rename_i hk
    rw [if_neg hk] at h2
    exact h.2 (k + 1) i x h1 h2
abbrev iI (i : Nat) : Int := (i : Int)
def OrderAt (L : List LOp) (A : Option Addr) (n c r : Nat) : Prop := ∀ (ix : List Nat) (xs : List LOp) (B : Option Addr) (cb : Nat) (d : ByteArray) (w : World), ix.length = r → Pts L ix xs → (∀ x ∈ xs, x.never = false) → r ≤ 100 → Rd w A (eOp.fl L) → Rd w B (eI64.fl (ix.map iI)) →
    Calls Try.prog 28 #[.slice A n c, .slice B r cb, .string d] w fun e w' => e = .returned (.bool (ord xs d)) ∧ Below w.heap.size w w'
set_option maxRecDepth 100000 in
set_option maxHeartbeats 8000000 in
theorem order_step (L : List LOp) (A : Option Addr) (n c : Nat) (hl : L.length = n) (hn : n ≤ 100) (r : Nat) (ih : ∀ s, s + 1 = r → OrderAt L A n c s) : OrderAt L A n c r := by
  intro ix xs B cb d w hr hp hnv hr1 hra hrb
  have hxl : xs.length = r := by rw [← hp.1, hr]
  have HL := Lib.hid hl
  have HIH := Lib.hid ih
  have HIX := Lib.hid hr
  have HXL := Lib.hid hxl
  have HP := Lib.hid hp
  have HNV := Lib.hid hnv
  have HA := Lib.hid hra
  have HB := Lib.hid hrb
  clear hl ih hr hxl hp hnv hra hrb
  go_enter Try.func28, Try.ntmps28
  go_wp2_with fail
  go_loopg [7, 8] r (fun gk s7 s8 wr => ∃ (k : Nat), s7 = .bool (overX xs k) ∧ s8 = .int .i64 (k : Int) ∧ k ≤ r ∧ gk = r - k ∧ Below w.heap.size w wr)
  case atStart => exact ⟨0, rfl, rfl, by omega, by omega, Below.refl _ _⟩
  case round =>
  obtain ⟨k, rfl, rfl, hk, hgk, hB⟩ := hrel
  have HT := Lib.hid ((Sep.nil w).step hB)
  clear hB
  by_cases hkr : k < r
  case pos =>
    as_aux_lemma =>
      have q1 : decide ((k : Int) < (r : Int)) = true := by simp; omega
      have q2 : (k : Int) < (r : Int) := by omega
      have q3 : (0 : Int) ≤ (k : Int) := by omega
      have hwk : IntKind.i64.wrap ((k : Int) + 1) = (k : Int) + 1 := IntWalk.i64_in _ (by omega)
      have HX := Lib.hid (List.getElem?_eq_getElem (l := xs) (i := k) (by rw [HXL.out]; exact hkr))
      generalize xs[k]'(by rw [HXL.out]; exact hkr) = x at *
      have HI := Lib.hid (List.getElem?_eq_getElem (l := ix) (i := k) (by rw [HIX.out]; exact hkr))
      generalize ix[k]'(by rw [HIX.out]; exact hkr) = i at *
      have HLX := Lib.hid (HP.out.2 k i x HI.out HX.out)
      have hin : i < n := by rw [← HL.out]; exact (List.getElem?_eq_some_iff.1 HLX.out).1
      have i2 : (i : Int) < (n : Int) := by omega
      have i3 : (0 : Int) ≤ (i : Int) := by omega
      have HSU := Lib.hid ((LOp.must_sure (HNV.out x (List.mem_of_getElem? HX.out))))
      have HOV := Lib.hid (overX_succ HX.out)
      obtain ⟨gb, go, rfl, hu⟩ := (HA.out.below HT.out.bel).op i x HLX.out
      obtain ⟨hb, ho, rfl, hv⟩ := (HB.out.below HT.out.bel).int k (i : Int) (by rw [List.getElem?_map, HI.out]; rfl)
      obtain ⟨xo, xb, xd, xf, xt, xk, xe, xr⟩ := x
      have v0 : wr.cell? ⟨gb, go + i * 8, none⟩ = some (.int .i64 xo) := hu 0 _ rfl
      have v1 : wr.cell? ⟨gb, go + i * 8 + 1, none⟩ = some (.int .i64 xb) := hu 1 _ rfl
      have v2 : wr.cell? ⟨gb, go + i * 8 + 2, none⟩ = some (.string xd) := hu 2 _ rfl
      have v3 : wr.cell? ⟨gb, go + i * 8 + 3, none⟩ = some (.int .i64 xf) := hu 3 _ rfl
      have v4 : wr.cell? ⟨gb, go + i * 8 + 4, none⟩ = some (.int .i64 xt) := hu 4 _ rfl
      have v5 : wr.cell? ⟨gb, go + i * 8 + 5, none⟩ = some (.bool xk) := hu 5 _ rfl
      have v6 : wr.cell? ⟨gb, go + i * 8 + 6, none⟩ = some (.int .i64 xe) := hu 6 _ rfl
      have v7 : wr.cell? ⟨gb, go + i * 8 + 7, none⟩ = some (.string xr) := hu 7 _ rfl
      clear hu
      obtain ⟨su, hsu⟩ : ∃ s, (LOp.mk xo xb xd xf xt xk xe xr).sure = s := ⟨_, rfl⟩
      have HSV := Lib.hid hsu
      rw [hsu] at HSU HOV
      clear hsu
      generalize overX xs k = ov at *
      cases ov
      · go_wp2_with fail
        go_roundg (r - (k + 1))
        case measure => omega
        case rel => exact ⟨k + 1, by rw [HOV.out]; rfl, by push_cast; rfl, by omega, rfl, HT.out.bel⟩
      · go_wp2_with (go_at_call 24; refine (must_any ⟨xo, xb, xd, xf, xt, xk, xe, xr⟩ _).mono ?_; rw [HSU.out]; rintro e w5 ⟨rfl, hB⟩; have HT := Lib.hid (HT.out.step hB); clear hB)
        go_roundg (r - (k + 1))
        case measure => omega
        case rel => exact ⟨k + 1, by rw [HOV.out]; rfl, by push_cast; rfl, by omega, rfl, HT.out.bel⟩
  have q1 : decide ((k : Int) < (r : Int)) = false := by simp; omega
  have q2 : ¬ (k : Int) < (r : Int) := by omega
  have hkr : k = r := by omega
  subst hkr
  obtain ⟨ov, hov⟩ : ∃ v, overX xs k = v := ⟨_, rfl⟩
  have HOV := Lib.hid hov
  rw [hov]
  clear hov
  cases ov
  case true =>
    as_aux_lemma =>
      have HE := Lib.hid (ordX_over (d := d) HXL.out HOV.out)
      go_wp2_with fail
      go_ret
      exact ⟨by rw [HE.out]; rfl, HT.out.bel⟩
  go_wp2_with fail
  clear q1 q2
  go_loopg [9] k (fun gk s9 wr => ∃ (i : Nat), s9 = .int .i64 (i : Int) ∧ i ≤ k ∧ gk = k - i ∧ NoneX xs d i ∧ Below w.heap.size w wr)
  case atStart => exact ⟨0, rfl, by omega, by omega, fun i o hi => by omega, HT.out.bel⟩
  case round =>
  clear HT
  obtain ⟨i, rfl, hi, hgk, hno, hB⟩ := hrel
  have HNO := Lib.hid hno
  have HT := Lib.hid ((Sep.nil w).step hB)
  clear hno hB
  by_cases hik : i < k
  case neg =>
    as_aux_lemma =>
      have q1 : decide ((i : Int) < (k : Int)) = false := by simp; omega
      have q2 : ¬ (i : Int) < (k : Int) := by omega
      have hik : i = k := by omega
      subst hik
      have HE := Lib.hid (ordX_none HXL.out HOV.out HNO.out)
      go_wp2_with fail
      go_ret
      exact ⟨by rw [HE.out]; rfl, HT.out.bel⟩
  have q1 : decide ((i : Int) < (k : Int)) = true := by simp; omega
  have q2 : (i : Int) < (k : Int) := by omega
  have q3 : (0 : Int) ≤ (i : Int) := by omega
  have hwi : IntKind.i64.wrap ((i : Int) + 1) = (i : Int) + 1 := IntWalk.i64_in _ (by omega)
  have HO := Lib.hid (List.getElem?_eq_getElem (l := xs) (i := i) (by rw [HXL.out]; exact hik))
  generalize xs[i]'(by rw [HXL.out]; exact hik) = x at *
  have HI := Lib.hid (List.getElem?_eq_getElem (l := ix) (i := i) (by rw [HIX.out]; exact hik))
  generalize ix[i]'(by rw [HIX.out]; exact hik) = ii at *
  have HLX := Lib.hid (HP.out.2 i ii x HI.out HO.out)
  have hin : ii < n := by rw [← HL.out]; exact (List.getElem?_eq_some_iff.1 HLX.out).1
  have i2 : (ii : Int) < (n : Int) := by omega
  have i3 : (0 : Int) ≤ (ii : Int) := by omega
  have HNX := Lib.hid (HNV.out x (List.mem_of_getElem? HO.out))
  obtain ⟨gb, go, rfl, hu⟩ := (HA.out.below HT.out.bel).op ii x HLX.out
  obtain ⟨hb, ho, rfl, hv⟩ := (HB.out.below HT.out.bel).int i (ii : Int) (by rw [List.getElem?_map, HI.out]; rfl)
  obtain ⟨g10, hg10⟩ : ∃ g, wr.heap.size = g := ⟨_, rfl⟩
  have HT := Lib.hid (HT.out.newBlk #[.int .i64 0, .int .i64 0, .string { data := #[] }, .int .i64 0, .int .i64 0, .bool false, .int .i64 0, .string { data := #[] }] tRop hg10)
  have HG10 := Lib.hid hg10
  clear hg10
  go_upto_region 11 with fail
  refine wp_region_lit (l := [_, _, _, _, _, _, _, _, _]) ?_
  iterate 6 (refine wpList_plain rfl fun _ hK => ?_; go_simp; refine hK _ _ ?_)
  refine loadMid (cs := x.cs) _ rfl (.tmp 45) rfl rfl hu Try.underlying51 rfl infoRp8 ?_
  refine wpList_plain rfl fun _ hK => ?_
  go_simp
  (try rw [HG10.out])
  refine hK _ _ ?_
  refine storeR x.cs (show Blk _ g10 #[.int .i64 0, .int .i64 0, .string { data := #[] }, .int .i64 0, .int .i64 0, .bool false, .int .i64 0, .string { data := #[] }] tRop from HT.out.hd) rfl infoRp8 (op1 x) rfl (.tmp 10) (.tmp 46) rfl rfl rfl ?_
  intro W hb10 hu10
  have HT := Lib.hid (HT.out.put hb10 hu10)
  clear hb10 hu10 hu hv HG10
  obtain ⟨xo, xb, xd, xf, xt, xk, xe, xr⟩ := x
  unfold LOp.cs at HT
  simp only at HT
  have HT := Lib.hid (HT.out.newRow tIn 1 (g := W.heap.size) rfl)
  go_upto_region 14 with fail
  generalize W.alloc (.cells #[] tIn) = W2 at *
  generalize W.heap.size = gW at *
  go_wp2_with fail
  go_loopg [11, 12, 13] k (fun gm s11 s12 s13 wr => ∃ (j : Nat) (P : Option Addr) (m cP : Nat), s11 = .bool (frontX xs i (LOp.mk xo xb xd xf xt xk xe xr) j) ∧ s12 = .slice P m cP ∧ s13 = .int .i64 (j : Int) ∧ j ≤ k ∧ gm = k - j ∧ ((ix.take j).eraseIdx i).length = m ∧ m ≤ 100 ∧ Sep w wr (tOwn tIn 1 (.slice P m cP) m (eI64.fl (((ix.take j).eraseIdx i).map iI)) :: tBlk g10 #[.int .i64 xo, .int .i64 xb, .string xd, .int .i64 xf, .int .i64 xt, .bool xk, .int .i64 xe, .string xr] tRop :: []))
  case atStart => exact ⟨0, _, _, _, rfl, rfl, rfl, by omega, by omega, rfl, by omega, HT.out⟩
  case round =>
  clear HT
  obtain ⟨j, P, m, cP, rfl, rfl, rfl, hj, hgm, hml, hm, hs⟩ := hrel
  have HML := Lib.hid hml
  have HT := Lib.hid hs
  clear hml hs
  by_cases hjk : j < k
  case pos =>
    as_aux_lemma =>
      have r1 : decide ((j : Int) < (k : Int)) = true := by simp; omega
      have r2 : (j : Int) < (k : Int) := by omega
      have r3 : (0 : Int) ≤ (j : Int) := by omega
      have hwj : IntKind.i64.wrap ((j : Int) + 1) = (j : Int) + 1 := IntWalk.i64_in _ (by omega)
      have HY := Lib.hid (List.getElem?_eq_getElem (l := xs) (i := j) (by rw [HXL.out]; exact hjk))
      generalize xs[j]'(by rw [HXL.out]; exact hjk) = y at *
      have HJ := Lib.hid (List.getElem?_eq_getElem (l := ix) (i := j) (by rw [HIX.out]; exact hjk))
      generalize ix[j]'(by rw [HIX.out]; exact hjk) = jj at *
      have HF := Lib.hid (frontX_succ HY.out i (LOp.mk xo xb xd xf xt xk xe xr))
      have HR := Lib.hid (erase_take HJ.out i)
      have HLY := Lib.hid (HP.out.2 j jj y HJ.out HY.out)
      have hjn : jj < n := by rw [← HL.out]; exact (List.getElem?_eq_some_iff.1 HLY.out).1
      have j2 : (jj : Int) < (n : Int) := by omega
      have j3 : (0 : Int) ≤ (jj : Int) := by omega
      by_cases hji : j = i
      · have p1 : ((j : Int) == (i : Int)) = true := by rw [hji]; simp
        have HF2 := Lib.hid (show frontX xs i (LOp.mk xo xb xd xf xt xk xe xr) (j + 1) = frontX xs i (LOp.mk xo xb xd xf xt xk xe xr) j by rw [HF.out, if_pos hji])
        have HR2 := Lib.hid (show (ix.take (j + 1)).eraseIdx i = (ix.take j).eraseIdx i by rw [HR.out, if_pos hji])
        clear hji
        generalize frontX xs i (LOp.mk xo xb xd xf xt xk xe xr) j = fb at *
        go_wp2_with fail
        go_roundg (k - (j + 1))
        case measure => omega
        case rel => exact ⟨j + 1, P, m, cP, by rw [HF2.out], rfl, by push_cast; rfl, by omega, rfl, by rw [HR2.out]; exact HML.out, hm, by rw [HR2.out]; exact HT.out⟩
      have p1 : ((j : Int) == (i : Int)) = false := beq_eq_false_iff_ne.2 (by omega)
      have HF2 := Lib.hid (show frontX xs i (LOp.mk xo xb xd xf xt xk xe xr) (j + 1) = (frontX xs i (LOp.mk xo xb xd xf xt xk xe xr) j && !ahd y (LOp.mk xo xb xd xf xt xk xe xr)) by rw [HF.out, if_neg hji])
      have HR2 := Lib.hid (show (ix.take (j + 1)).eraseIdx i = (ix.take j).eraseIdx i ++ [jj] by rw [HR.out, if_neg hji])
      have HSU := Lib.hid (LOp.must_sure (HNV.out y (List.mem_of_getElem? HY.out)))
      have hv : Hid (∀ W' l, Sep w W' l → ∃ b o, (some (⟨hb, ho, none⟩ : Addr)) = some ⟨b, o, none⟩ ∧ W'.cell? ⟨b, o + j, none⟩ = some (.int .i64 (jj : Int))) := Lib.hid (fun W' l h => (HB.out.below h.bel).int j (jj : Int) (by rw [List.getElem?_map, HJ.out]; rfl))
      have HVJ : Hid (∀ W' l, Sep w W' l → W'.cell? ⟨hb, ho + j, none⟩ = some (.int .i64 (jj : Int))) := Lib.hid (fun W' l h => by
        obtain ⟨b, o, e, h2⟩ := hv.out W' l h
        cases e
        exact h2)
      clear hv hji
      have v9 := HVJ.out _ _ HT.out
      have HBD := Lib.hid (show (m + 1) * 8 ≤ 140737488355328 by omega)
      obtain ⟨yo, yb, yd, yf, yt, yk, ye, yr⟩ := y
      have HU : Hid (∀ W' l, Sep w W' (l ++ [tBlk g10 #[.int .i64 xo, .int .i64 xb, .string xd, .int .i64 xf, .int .i64 xt, .bool xk, .int .i64 xe, .string xr] tRop]) → (W'.rangeAt gb (go + jj * 8) #[.int .i64 yo, .int .i64 yb, .string yd, .int .i64 yf, .int .i64 yt, .bool yk, .int .i64 ye, .string yr].toList ∧ W'.cell? ⟨gb, go + jj * 8 + 4, none⟩ = some (.int .i64 yt)) ∧ W'.cell? ⟨hb, ho + j, none⟩ = some (.int .i64 (jj : Int)) ∧ W'.cell? ⟨g10, 3, none⟩ = some (.int .i64 xf)) := Lib.hid (fun W' l h => by
        obtain ⟨b, o, e, hu⟩ := (HA.out.below h.bel).op jj _ HLY.out
        cases e
        exact ⟨⟨hu, hu 4 _ rfl⟩, HVJ.out _ _ h, (show Blk W' g10 _ tRop from h.ok _ (List.mem_append_right _ (List.mem_cons_self ..))).cell 3⟩)
      generalize frontX xs i (LOp.mk xo xb xd xf xt xk xe xr) j = fb at *
      go_upto_region 19 with (at_builtin; refine app1O 56 tIn (.int .i64 0) 1 8 [iV (jj : Int)] (show Own _ tIn 1 (.slice P m cP) m (eI64.fl _) from HT.out.hd) HBD.out Try.underlying56 Try.infoI rfl (by decide) (by decide) rfl (one_i (jj : Int)) (.tmp 57) (.tmp 62) rfl rfl rfl rfl ?_; intro v1 w11 ho1 hg1 hat1; obtain ⟨A1, c1, rfl, _⟩ := ho1.form; have HT := Lib.hid (HT.out.appG ho1 hg1 hat1); clear ho1 hg1 hat1)
      have HT : Hid (Sep w w11 ([tOwn tIn 1 (.slice A1 (m + 1) c1) (m + 1) (eI64.fl (((ix.take j).eraseIdx i).map iI) ++ [iV (jj : Int)])] ++ [tBlk g10 #[.int .i64 xo, .int .i64 xb, .string xd, .int .i64 xf, .int .i64 xt, .bool xk, .int .i64 xe, .string xr] tRop])) := Lib.hid HT.out
      have HFIN : Hid (∀ W', Sep w W' ([tOwn tIn 1 (.slice A1 (m + 1) c1) (m + 1) (eI64.fl (((ix.take j).eraseIdx i).map iI) ++ [iV (jj : Int)])] ++ [tBlk g10 #[.int .i64 xo, .int .i64 xb, .string xd, .int .i64 xf, .int .i64 xt, .bool xk, .int .i64 xe, .string xr] tRop]) → Sep w W' (tOwn tIn 1 (.slice A1 (m + 1) c1) (m + 1) (eI64.fl (((ix.take (j + 1)).eraseIdx i).map iI)) :: tBlk g10 #[.int .i64 xo, .int .i64 xb, .string xd, .int .i64 xf, .int .i64 xt, .bool xk, .int .i64 xe, .string xr] tRop :: [])) := Lib.hid (fun W' h => by
        rw [HR2.out, List.map_append]
        show Sep _ _ (tOwn _ _ _ _ (eI64.fl (_ ++ [iI jj])) :: _)
        rw [Enc.snoc]; exact h)
      have HML2 := Lib.hid (show ((ix.take (j + 1)).eraseIdx i).length = m + 1 ∧ m + 1 ≤ 100 by
        have h1 : ((ix.take (j + 1)).eraseIdx i).length = m + 1 := by rw [HR2.out, List.length_append, HML.out]; rfl
        refine ⟨h1, ?_⟩
        rw [← h1]
        have h2 := List.length_eraseIdx_le (ix.take (j + 1)) i
        rw [List.length_take] at h2
        omega)
      clear v9
      obtain ⟨su, hsu⟩ : ∃ s, (LOp.mk yo yb yd yf yt yk ye yr).sure = s := ⟨_, rfl⟩
      have HSV := Lib.hid hsu
      have HSU := Lib.hid (HSU.out.trans hsu)
      clear hsu
      cases su
      · have HF3 := Lib.hid (show frontX xs i (LOp.mk xo xb xd xf xt xk xe xr) (j + 1) = fb by rw [HF2.out]; unfold ahd; rw [HSV.out]; simp)
        have HT := Lib.hid HT.out.drew
        refine wp_region_L (fun w' => (w'.rangeAt gb (go + jj * 8) #[.int .i64 yo, .int .i64 yb, .string yd, .int .i64 yf, .int .i64 yt, .bool yk, .int .i64 ye, .string yr].toList ∧ w'.cell? ⟨gb, go + jj * 8 + 4, none⟩ = some (.int .i64 yt)) ∧ w'.cell? ⟨hb, ho + j, none⟩ = some (.int .i64 (jj : Int)) ∧ w'.cell? ⟨g10, 3, none⟩ = some (.int .i64 xf)) 21 (by kernel_rfl) (HU.out _ _ HT.out) (fun hHeld => ?_)
        refine reg_take (i := 0) (d := 64) (v := ?_) [] rfl rfl (by kernel_rfl) (by kernel_rfl) (fun _ _ _ h => h) (Or.inl ⟨by rfl, ?_⟩) (by assumption) ?_
        rotate_left
        · (intro w hSw; (try dsimp only at hSw); go_simp; first | done | with_reducible rfl)
        try simp only [List.setIfInBounds_toArray, List.set_cons_zero, List.set_cons_succ]
        refine reg_take (i := 1) (d := 65) (v := ?_) [] rfl rfl (by kernel_rfl) (by kernel_rfl) (fun _ _ _ h => h) (Or.inl ⟨by rfl, ?_⟩) (by assumption) ?_
        rotate_left
        · (intro w hSw; (try dsimp only at hSw); go_simp; first | done | with_reducible rfl)
        try simp only [List.setIfInBounds_toArray, List.set_cons_zero, List.set_cons_succ]
        refine reg_take (i := 2) (d := 66) (v := ?_) [] rfl rfl (by kernel_rfl) (by kernel_rfl) (fun _ _ _ h => h) (Or.inl ⟨by rfl, ?_⟩) (by assumption) ?_
        rotate_left
        · (intro w hSw; (try dsimp only at hSw); go_simp; first | done | with_reducible rfl)
        try simp only [List.setIfInBounds_toArray, List.set_cons_zero, List.set_cons_succ]
        refine reg_take (i := 3) (d := 67) (v := ?_) [] rfl rfl (by kernel_rfl) (by kernel_rfl) (fun _ _ _ h => h) (Or.inl ⟨by rfl, ?_⟩) (by assumption) ?_
        rotate_left
        · (intro w hSw; (try dsimp only at hSw); go_simp; first | done | with_reducible rfl)
        try simp only [List.setIfInBounds_toArray, List.set_cons_zero, List.set_cons_succ]
        refine reg_take (i := 4) (d := 68) (v := ?_) [] rfl rfl (by kernel_rfl) (by kernel_rfl) (fun _ _ _ h => h) (Or.inl ⟨by rfl, ?_⟩) (by assumption) ?_
        rotate_left
        · (intro w hSw; (try dsimp only at hSw); go_simp; first | done | with_reducible rfl)
        try simp only [List.setIfInBounds_toArray, List.set_cons_zero, List.set_cons_succ]
        refine reg_take (i := 5) (d := 69) (v := ?_) [] rfl rfl (by kernel_rfl) (by kernel_rfl) (fun _ _ _ h => h) (Or.inl ⟨by rfl, ?_⟩) (by assumption) ?_
        rotate_left
        · (intro w hSw; (try dsimp only at hSw); go_simp; first | done | with_reducible rfl)
        try simp only [List.setIfInBounds_toArray, List.set_cons_zero, List.set_cons_succ]
        refine reg_take (i := 6) (d := 70) (v := .agg #[.int .i64 yo, .int .i64 yb, .string yd, .int .i64 yf, .int .i64 yt, .bool yk, .int .i64 ye, .string yr]) [] rfl rfl (by kernel_rfl) (by kernel_rfl) (fun _ _ _ h => h) (yieldsIf_load_mid (by rfl) _ (.tmp 69) rfl gb (go + jj * 8) rfl #[.int .i64 yo, .int .i64 yb, .string yd, .int .i64 yf, .int .i64 yt, .bool yk, .int .i64 ye, .string yr].toList _ (fun w h => h.1.1) Try.underlying51 rfl infoRp8) (by assumption) ?_
        try simp only [List.setIfInBounds_toArray, List.set_cons_zero, List.set_cons_succ]
        refine wpAnyL_ready (rs := [7]) (by kernel_rfl) rfl ?_
        refine (AllL.cons rfl (fun K hK => ?_) AllL.nil)
        go_simp
        go_at_call 24
        refine (must_any ⟨yo, yb, yd, yf, yt, yk, ye, yr⟩ _).mono ?_
        rw [HSU.out]
        rintro e5 w5 ⟨rfl, hB⟩
        have HT := Lib.hid (HT.out.step hB)
        clear hB
        go_simp
        refine hK.out _ _ (HU.out _ _ HT.out) (fun hHeld => ?_)
        try simp only [List.setIfInBounds_toArray, List.set_cons_zero, List.set_cons_succ]
        refine reg_take (i := 8) (d := 72) (v := ?_) [] rfl rfl (by kernel_rfl) (by kernel_rfl) (fun _ _ _ h => h) (Or.inl ⟨by rfl, ?_⟩) (by assumption) ?_
        rotate_left
        · (intro w hSw; (try dsimp only at hSw); go_simp; first | done | with_reducible rfl)
        try simp only [List.setIfInBounds_toArray, List.set_cons_zero, List.set_cons_succ]
        refine reg_take (i := 9) (d := 73) (v := undef) [] rfl rfl (by kernel_rfl) (by kernel_rfl) (fun _ _ _ h => h) (Or.inr ⟨by rfl, rfl⟩) (by assumption) ?_
        try simp only [List.setIfInBounds_toArray, List.set_cons_zero, List.set_cons_succ]
        refine reg_take (i := 10) (d := 74) (v := undef) [] rfl rfl (by kernel_rfl) (by kernel_rfl) (fun _ _ _ h => h) (Or.inr ⟨by rfl, rfl⟩) (by assumption) ?_
        try simp only [List.setIfInBounds_toArray, List.set_cons_zero, List.set_cons_succ]
        refine reg_take (i := 11) (d := 75) (v := undef) [] rfl rfl (by kernel_rfl) (by kernel_rfl) (fun _ _ _ h => h) (Or.inr ⟨by rfl, rfl⟩) (by assumption) ?_
        try simp only [List.setIfInBounds_toArray, List.set_cons_zero, List.set_cons_succ]
        refine reg_take (i := 12) (d := 76) (v := undef) [] rfl rfl (by kernel_rfl) (by kernel_rfl) (fun _ _ _ h => h) (Or.inr ⟨by rfl, rfl⟩) (by assumption) ?_
        try simp only [List.setIfInBounds_toArray, List.set_cons_zero, List.set_cons_succ]
        refine reg_take (i := 13) (d := 77) (v := undef) [] rfl rfl (by kernel_rfl) (by kernel_rfl) (fun _ _ _ h => h) (Or.inr ⟨by rfl, rfl⟩) (by assumption) ?_
        try simp only [List.setIfInBounds_toArray, List.set_cons_zero, List.set_cons_succ]
        refine reg_take (i := 14) (d := 78) (v := undef) [] rfl rfl (by kernel_rfl) (by kernel_rfl) (fun _ _ _ h => h) (Or.inr ⟨by rfl, rfl⟩) (by assumption) ?_
        try simp only [List.setIfInBounds_toArray, List.set_cons_zero, List.set_cons_succ]
        refine reg_take (i := 15) (d := 79) (v := undef) [] rfl rfl (by kernel_rfl) (by kernel_rfl) (fun _ _ _ h => h) (Or.inr ⟨by rfl, rfl⟩) (by assumption) ?_
        try simp only [List.setIfInBounds_toArray, List.set_cons_zero, List.set_cons_succ]
        refine reg_take (i := 16) (d := 80) (v := undef) [] rfl rfl (by kernel_rfl) (by kernel_rfl) (fun _ _ _ h => h) (Or.inr ⟨by rfl, rfl⟩) (by assumption) ?_
        try simp only [List.setIfInBounds_toArray, List.set_cons_zero, List.set_cons_succ]
        refine reg_take (i := 17) (d := 81) (v := undef) [] rfl rfl (by kernel_rfl) (by kernel_rfl) (fun _ _ _ h => h) (Or.inr ⟨by rfl, rfl⟩) (by assumption) ?_
        try simp only [List.setIfInBounds_toArray, List.set_cons_zero, List.set_cons_succ]
        refine reg_take (i := 18) (d := 82) (v := undef) [] rfl rfl (by kernel_rfl) (by kernel_rfl) (fun _ _ _ h => h) (Or.inr ⟨by rfl, rfl⟩) (by assumption) ?_
        try simp only [List.setIfInBounds_toArray, List.set_cons_zero, List.set_cons_succ]
        refine reg_take (i := 19) (d := 83) (v := undef) [] rfl rfl (by kernel_rfl) (by kernel_rfl) (fun _ _ _ h => h) (Or.inr ⟨by rfl, rfl⟩) (by assumption) ?_
        try simp only [List.setIfInBounds_toArray, List.set_cons_zero, List.set_cons_succ]
        refine reg_take (i := 20) (d := 84) (v := ?_) [] rfl rfl (by kernel_rfl) (by kernel_rfl) (fun _ _ _ h => h) (Or.inl ⟨by rfl, ?_⟩) (by assumption) ?_
        rotate_left
        · (intro w hSw; (try dsimp only at hSw); go_simp; first | done | with_reducible rfl)
        try simp only [List.setIfInBounds_toArray, List.set_cons_zero, List.set_cons_succ]
        refine wpAnyL_done (by kernel_rfl) ?_ _
        go_wp2_with fail
        go_roundg (k - (j + 1))
        case measure => omega
        case rel => exact ⟨j + 1, _, _, _, by rw [HF3.out], rfl, by push_cast; rfl, by omega, rfl, HML2.out.1, HML2.out.2, HFIN.out _ HT.out⟩
      · by_cases hlt : yt < xf
        · have p2 : decide (yt < xf) = true := decide_eq_true hlt
          have HF3 := Lib.hid (show frontX xs i (LOp.mk xo xb xd xf xt xk xe xr) (j + 1) = false by rw [HF2.out]; unfold ahd; rw [HSV.out, p2]; simp)
          clear hlt
          have HT := Lib.hid HT.out.drew
          refine wp_region_L (fun w' => (w'.rangeAt gb (go + jj * 8) #[.int .i64 yo, .int .i64 yb, .string yd, .int .i64 yf, .int .i64 yt, .bool yk, .int .i64 ye, .string yr].toList ∧ w'.cell? ⟨gb, go + jj * 8 + 4, none⟩ = some (.int .i64 yt)) ∧ w'.cell? ⟨hb, ho + j, none⟩ = some (.int .i64 (jj : Int)) ∧ w'.cell? ⟨g10, 3, none⟩ = some (.int .i64 xf)) 21 (by kernel_rfl) (HU.out _ _ HT.out) (fun hHeld => ?_)
          refine reg_take (i := 0) (d := 64) (v := ?_) [] rfl rfl (by kernel_rfl) (by kernel_rfl) (fun _ _ _ h => h) (Or.inl ⟨by rfl, ?_⟩) (by assumption) ?_
          rotate_left
          · (intro w hSw; (try dsimp only at hSw); go_simp; first | done | with_reducible rfl)
          try simp only [List.setIfInBounds_toArray, List.set_cons_zero, List.set_cons_succ]
          refine reg_take (i := 1) (d := 65) (v := ?_) [] rfl rfl (by kernel_rfl) (by kernel_rfl) (fun _ _ _ h => h) (Or.inl ⟨by rfl, ?_⟩) (by assumption) ?_
          rotate_left
          · (intro w hSw; (try dsimp only at hSw); go_simp; first | done | with_reducible rfl)
          try simp only [List.setIfInBounds_toArray, List.set_cons_zero, List.set_cons_succ]
          refine reg_take (i := 2) (d := 66) (v := ?_) [] rfl rfl (by kernel_rfl) (by kernel_rfl) (fun _ _ _ h => h) (Or.inl ⟨by rfl, ?_⟩) (by assumption) ?_
          rotate_left
          · (intro w hSw; (try dsimp only at hSw); go_simp; first | done | with_reducible rfl)
          try simp only [List.setIfInBounds_toArray, List.set_cons_zero, List.set_cons_succ]
          refine reg_take (i := 3) (d := 67) (v := ?_) [] rfl rfl (by kernel_rfl) (by kernel_rfl) (fun _ _ _ h => h) (Or.inl ⟨by rfl, ?_⟩) (by assumption) ?_
          rotate_left
          · (intro w hSw; (try dsimp only at hSw); go_simp; first | done | with_reducible rfl)
          try simp only [List.setIfInBounds_toArray, List.set_cons_zero, List.set_cons_succ]
          refine reg_take (i := 4) (d := 68) (v := ?_) [] rfl rfl (by kernel_rfl) (by kernel_rfl) (fun _ _ _ h => h) (Or.inl ⟨by rfl, ?_⟩) (by assumption) ?_
          rotate_left
          · (intro w hSw; (try dsimp only at hSw); go_simp; first | done | with_reducible rfl)
          try simp only [List.setIfInBounds_toArray, List.set_cons_zero, List.set_cons_succ]
          refine reg_take (i := 5) (d := 69) (v := ?_) [] rfl rfl (by kernel_rfl) (by kernel_rfl) (fun _ _ _ h => h) (Or.inl ⟨by rfl, ?_⟩) (by assumption) ?_
          rotate_left
          · (intro w hSw; (try dsimp only at hSw); go_simp; first | done | with_reducible rfl)
          try simp only [List.setIfInBounds_toArray, List.set_cons_zero, List.set_cons_succ]
          refine reg_take (i := 6) (d := 70) (v := .agg #[.int .i64 yo, .int .i64 yb, .string yd, .int .i64 yf, .int .i64 yt, .bool yk, .int .i64 ye, .string yr]) [] rfl rfl (by kernel_rfl) (by kernel_rfl) (fun _ _ _ h => h) (yieldsIf_load_mid (by rfl) _ (.tmp 69) rfl gb (go + jj * 8) rfl #[.int .i64 yo, .int .i64 yb, .string yd, .int .i64 yf, .int .i64 yt, .bool yk, .int .i64 ye, .string yr].toList _ (fun w h => h.1.1) Try.underlying51 rfl infoRp8) (by assumption) ?_
          try simp only [List.setIfInBounds_toArray, List.set_cons_zero, List.set_cons_succ]
          refine wpAnyL_ready (rs := [7]) (by kernel_rfl) rfl ?_
          refine (AllL.cons rfl (fun K hK => ?_) AllL.nil)
          go_simp
          go_at_call 24
          refine (must_any ⟨yo, yb, yd, yf, yt, yk, ye, yr⟩ _).mono ?_
          rw [HSU.out]
          rintro e5 w5 ⟨rfl, hB⟩
          have HT := Lib.hid (HT.out.step hB)
          clear hB
          go_simp
          refine hK.out _ _ (HU.out _ _ HT.out) (fun hHeld => ?_)
          try simp only [List.setIfInBounds_toArray, List.set_cons_zero, List.set_cons_succ]
          refine reg_take (i := 8) (d := 72) (v := ?_) [] rfl rfl (by kernel_rfl) (by kernel_rfl) (fun _ _ _ h => h) (Or.inl ⟨by rfl, ?_⟩) (by assumption) ?_
          rotate_left
          · (intro w hSw; (try dsimp only at hSw); go_simp; first | done | with_reducible rfl)
          try simp only [List.setIfInBounds_toArray, List.set_cons_zero, List.set_cons_succ]
          refine reg_take (i := 9) (d := 73) (v := ?_) [] rfl rfl (by kernel_rfl) (by kernel_rfl) (fun _ _ _ h => h) (Or.inl ⟨by rfl, ?_⟩) (by assumption) ?_
          rotate_left
          · (intro w hSw; (try dsimp only at hSw); go_simp; first | done | with_reducible rfl)
          try simp only [List.setIfInBounds_toArray, List.set_cons_zero, List.set_cons_succ]
          refine reg_take (i := 10) (d := 74) (v := ?_) [] rfl rfl (by kernel_rfl) (by kernel_rfl) (fun _ _ _ h => h) (Or.inl ⟨by rfl, ?_⟩) (by assumption) ?_
          rotate_left
          · (intro w hSw; (try dsimp only at hSw); go_simp; first | done | with_reducible rfl)
          try simp only [List.setIfInBounds_toArray, List.set_cons_zero, List.set_cons_succ]
          refine reg_take (i := 11) (d := 75) (v := ?_) [] rfl rfl (by kernel_rfl) (by kernel_rfl) (fun _ _ _ h => h) (Or.inl ⟨by rfl, ?_⟩) (by assumption) ?_
          rotate_left
          · (intro w hSw; (try dsimp only at hSw); go_simp; first | done | with_reducible rfl)
          try simp only [List.setIfInBounds_toArray, List.set_cons_zero, List.set_cons_succ]
          refine reg_take (i := 12) (d := 76) (v := ?_) [] rfl rfl (by kernel_rfl) (by kernel_rfl) (fun _ _ _ h => h) (Or.inl ⟨by rfl, ?_⟩) (by assumption) ?_
          rotate_left
          · (intro w hSw; (try dsimp only at hSw); go_simp; first | done | with_reducible rfl)
          try simp only [List.setIfInBounds_toArray, List.set_cons_zero, List.set_cons_succ]
          refine reg_take (i := 13) (d := 77) (v := ?_) [] rfl rfl (by kernel_rfl) (by kernel_rfl) (fun _ _ _ h => h) (Or.inl ⟨by rfl, ?_⟩) (by assumption) ?_
          rotate_left
          · (intro w hSw; (try dsimp only at hSw); go_simp; first | done | with_reducible rfl)
          try simp only [List.setIfInBounds_toArray, List.set_cons_zero, List.set_cons_succ]
          refine reg_take (i := 14) (d := 78) (v := ?_) [] rfl rfl (by kernel_rfl) (by kernel_rfl) (fun _ _ _ h => h) (Or.inl ⟨by rfl, ?_⟩) (by assumption) ?_
          rotate_left
          · (intro w hSw; (try dsimp only at hSw); go_simp; first | done | with_reducible rfl)
          try simp only [List.setIfInBounds_toArray, List.set_cons_zero, List.set_cons_succ]
          refine reg_take (i := 15) (d := 79) (v := ?_) [] rfl rfl (by kernel_rfl) (by kernel_rfl) (fun _ _ _ h => h) (Or.inl ⟨by rfl, ?_⟩) (by assumption) ?_
          rotate_left
          · (intro w hSw; (try dsimp only at hSw); go_simp; first | done | with_reducible rfl)
          try simp only [List.setIfInBounds_toArray, List.set_cons_zero, List.set_cons_succ]
          refine reg_take (i := 16) (d := 80) (v := ?_) [] rfl rfl (by kernel_rfl) (by kernel_rfl) (fun _ _ _ h => h) (Or.inl ⟨by rfl, ?_⟩) (by assumption) ?_
          rotate_left
          · (intro w hSw; (try dsimp only at hSw); go_simp; first | done | with_reducible rfl)
          try simp only [List.setIfInBounds_toArray, List.set_cons_zero, List.set_cons_succ]
          refine reg_take (i := 17) (d := 81) (v := ?_) [] rfl rfl (by kernel_rfl) (by kernel_rfl) (fun _ _ _ h => h) (Or.inl ⟨by rfl, ?_⟩) (by assumption) ?_
          rotate_left
          · (intro w hSw; (try dsimp only at hSw); go_simp; first | done | with_reducible rfl)
          try simp only [List.setIfInBounds_toArray, List.set_cons_zero, List.set_cons_succ]
          refine reg_take (i := 18) (d := 82) (v := ?_) [] rfl rfl (by kernel_rfl) (by kernel_rfl) (fun _ _ _ h => h) (Or.inl ⟨by rfl, ?_⟩) (by assumption) ?_
          rotate_left
          · (intro w hSw; (try dsimp only at hSw); go_simp; first | done | with_reducible rfl)
          try simp only [List.setIfInBounds_toArray, List.set_cons_zero, List.set_cons_succ]
          refine reg_take (i := 19) (d := 83) (v := ?_) [] rfl rfl (by kernel_rfl) (by kernel_rfl) (fun _ _ _ h => h) (Or.inl ⟨by rfl, ?_⟩) (by assumption) ?_
          rotate_left
          · (intro w hSw; (try dsimp only at hSw); go_simp; first | done | with_reducible rfl)
          try simp only [List.setIfInBounds_toArray, List.set_cons_zero, List.set_cons_succ]
          refine reg_take (i := 20) (d := 84) (v := ?_) [] rfl rfl (by kernel_rfl) (by kernel_rfl) (fun _ _ _ h => h) (Or.inl ⟨by rfl, ?_⟩) (by assumption) ?_
          rotate_left
          · (intro w hSw; (try dsimp only at hSw); go_simp; first | done | with_reducible rfl)
          try simp only [List.setIfInBounds_toArray, List.set_cons_zero, List.set_cons_succ]
          refine wpAnyL_done (by kernel_rfl) ?_ _
          go_wp2_with fail
          go_roundg (k - (j + 1))
          case measure => omega
          case rel => exact ⟨j + 1, _, _, _, by rw [HF3.out], rfl, by push_cast; rfl, by omega, rfl, HML2.out.1, HML2.out.2, HFIN.out _ HT.out⟩
        · have p2 : decide (yt < xf) = false := decide_eq_false hlt
          have HF3 := Lib.hid (show frontX xs i (LOp.mk xo xb xd xf xt xk xe xr) (j + 1) = fb by rw [HF2.out]; unfold ahd; rw [HSV.out, p2]; simp)
          clear hlt
          have HT := Lib.hid HT.out.drew
          refine wp_region_L (fun w' => (w'.rangeAt gb (go + jj * 8) #[.int .i64 yo, .int .i64 yb, .string yd, .int .i64 yf, .int .i64 yt, .bool yk, .int .i64 ye, .string yr].toList ∧ w'.cell? ⟨gb, go + jj * 8 + 4, none⟩ = some (.int .i64 yt)) ∧ w'.cell? ⟨hb, ho + j, none⟩ = some (.int .i64 (jj : Int)) ∧ w'.cell? ⟨g10, 3, none⟩ = some (.int .i64 xf)) 21 (by kernel_rfl) (HU.out _ _ HT.out) (fun hHeld => ?_)
          refine reg_take (i := 0) (d := 64) (v := ?_) [] rfl rfl (by kernel_rfl) (by kernel_rfl) (fun _ _ _ h => h) (Or.inl ⟨by rfl, ?_⟩) (by assumption) ?_
          rotate_left
          · (intro w hSw; (try dsimp only at hSw); go_simp; first | done | with_reducible rfl)
          try simp only [List.setIfInBounds_toArray, List.set_cons_zero, List.set_cons_succ]
          refine reg_take (i := 1) (d := 65) (v := ?_) [] rfl rfl (by kernel_rfl) (by kernel_rfl) (fun _ _ _ h => h) (Or.inl ⟨by rfl, ?_⟩) (by assumption) ?_
          rotate_left
          · (intro w hSw; (try dsimp only at hSw); go_simp; first | done | with_reducible rfl)
          try simp only [List.setIfInBounds_toArray, List.set_cons_zero, List.set_cons_succ]
          refine reg_take (i := 2) (d := 66) (v := ?_) [] rfl rfl (by kernel_rfl) (by kernel_rfl) (fun _ _ _ h => h) (Or.inl ⟨by rfl, ?_⟩) (by assumption) ?_
          rotate_left
          · (intro w hSw; (try dsimp only at hSw); go_simp; first | done | with_reducible rfl)
          try simp only [List.setIfInBounds_toArray, List.set_cons_zero, List.set_cons_succ]
          refine reg_take (i := 3) (d := 67) (v := ?_) [] rfl rfl (by kernel_rfl) (by kernel_rfl) (fun _ _ _ h => h) (Or.inl ⟨by rfl, ?_⟩) (by assumption) ?_
          rotate_left
          · (intro w hSw; (try dsimp only at hSw); go_simp; first | done | with_reducible rfl)
          try simp only [List.setIfInBounds_toArray, List.set_cons_zero, List.set_cons_succ]
          refine reg_take (i := 4) (d := 68) (v := ?_) [] rfl rfl (by kernel_rfl) (by kernel_rfl) (fun _ _ _ h => h) (Or.inl ⟨by rfl, ?_⟩) (by assumption) ?_
          rotate_left
          · (intro w hSw; (try dsimp only at hSw); go_simp; first | done | with_reducible rfl)
          try simp only [List.setIfInBounds_toArray, List.set_cons_zero, List.set_cons_succ]
          refine reg_take (i := 5) (d := 69) (v := ?_) [] rfl rfl (by kernel_rfl) (by kernel_rfl) (fun _ _ _ h => h) (Or.inl ⟨by rfl, ?_⟩) (by assumption) ?_
          rotate_left
          · (intro w hSw; (try dsimp only at hSw); go_simp; first | done | with_reducible rfl)
          try simp only [List.setIfInBounds_toArray, List.set_cons_zero, List.set_cons_succ]
          refine reg_take (i := 6) (d := 70) (v := .agg #[.int .i64 yo, .int .i64 yb, .string yd, .int .i64 yf, .int .i64 yt, .bool yk, .int .i64 ye, .string yr]) [] rfl rfl (by kernel_rfl) (by kernel_rfl) (fun _ _ _ h => h) (yieldsIf_load_mid (by rfl) _ (.tmp 69) rfl gb (go + jj * 8) rfl #[.int .i64 yo, .int .i64 yb, .string yd, .int .i64 yf, .int .i64 yt, .bool yk, .int .i64 ye, .string yr].toList _ (fun w h => h.1.1) Try.underlying51 rfl infoRp8) (by assumption) ?_
          try simp only [List.setIfInBounds_toArray, List.set_cons_zero, List.set_cons_succ]
          refine wpAnyL_ready (rs := [7]) (by kernel_rfl) rfl ?_
          refine (AllL.cons rfl (fun K hK => ?_) AllL.nil)
          go_simp
          go_at_call 24
          refine (must_any ⟨yo, yb, yd, yf, yt, yk, ye, yr⟩ _).mono ?_
          rw [HSU.out]
          rintro e5 w5 ⟨rfl, hB⟩
          have HT := Lib.hid (HT.out.step hB)
          clear hB
          go_simp
          refine hK.out _ _ (HU.out _ _ HT.out) (fun hHeld => ?_)
          try simp only [List.setIfInBounds_toArray, List.set_cons_zero, List.set_cons_succ]
          refine reg_take (i := 8) (d := 72) (v := ?_) [] rfl rfl (by kernel_rfl) (by kernel_rfl) (fun _ _ _ h => h) (Or.inl ⟨by rfl, ?_⟩) (by assumption) ?_
          rotate_left
          · (intro w hSw; (try dsimp only at hSw); go_simp; first | done | with_reducible rfl)
          try simp only [List.setIfInBounds_toArray, List.set_cons_zero, List.set_cons_succ]
          refine reg_take (i := 9) (d := 73) (v := ?_) [] rfl rfl (by kernel_rfl) (by kernel_rfl) (fun _ _ _ h => h) (Or.inl ⟨by rfl, ?_⟩) (by assumption) ?_
          rotate_left
          · (intro w hSw; (try dsimp only at hSw); go_simp; first | done | with_reducible rfl)
          try simp only [List.setIfInBounds_toArray, List.set_cons_zero, List.set_cons_succ]
          refine reg_take (i := 10) (d := 74) (v := ?_) [] rfl rfl (by kernel_rfl) (by kernel_rfl) (fun _ _ _ h => h) (Or.inl ⟨by rfl, ?_⟩) (by assumption) ?_
          rotate_left
          · (intro w hSw; (try dsimp only at hSw); go_simp; first | done | with_reducible rfl)
          try simp only [List.setIfInBounds_toArray, List.set_cons_zero, List.set_cons_succ]
          refine reg_take (i := 11) (d := 75) (v := ?_) [] rfl rfl (by kernel_rfl) (by kernel_rfl) (fun _ _ _ h => h) (Or.inl ⟨by rfl, ?_⟩) (by assumption) ?_
          rotate_left
          · (intro w hSw; (try dsimp only at hSw); go_simp; first | done | with_reducible rfl)
          try simp only [List.setIfInBounds_toArray, List.set_cons_zero, List.set_cons_succ]
          refine reg_take (i := 12) (d := 76) (v := ?_) [] rfl rfl (by kernel_rfl) (by kernel_rfl) (fun _ _ _ h => h) (Or.inl ⟨by rfl, ?_⟩) (by assumption) ?_
          rotate_left
          · (intro w hSw; (try dsimp only at hSw); go_simp; first | done | with_reducible rfl)
          try simp only [List.setIfInBounds_toArray, List.set_cons_zero, List.set_cons_succ]
          refine reg_take (i := 13) (d := 77) (v := ?_) [] rfl rfl (by kernel_rfl) (by kernel_rfl) (fun _ _ _ h => h) (Or.inl ⟨by rfl, ?_⟩) (by assumption) ?_
          rotate_left
          · (intro w hSw; (try dsimp only at hSw); go_simp; first | done | with_reducible rfl)
          try simp only [List.setIfInBounds_toArray, List.set_cons_zero, List.set_cons_succ]
          refine reg_take (i := 14) (d := 78) (v := ?_) [] rfl rfl (by kernel_rfl) (by kernel_rfl) (fun _ _ _ h => h) (Or.inl ⟨by rfl, ?_⟩) (by assumption) ?_
          rotate_left
          · (intro w hSw; (try dsimp only at hSw); go_simp; first | done | with_reducible rfl)
          try simp only [List.setIfInBounds_toArray, List.set_cons_zero, List.set_cons_succ]
          refine reg_take (i := 15) (d := 79) (v := ?_) [] rfl rfl (by kernel_rfl) (by kernel_rfl) (fun _ _ _ h => h) (Or.inl ⟨by rfl, ?_⟩) (by assumption) ?_
          rotate_left
          · (intro w hSw; (try dsimp only at hSw); go_simp; first | done | with_reducible rfl)
          try simp only [List.setIfInBounds_toArray, List.set_cons_zero, List.set_cons_succ]
          refine reg_take (i := 16) (d := 80) (v := ?_) [] rfl rfl (by kernel_rfl) (by kernel_rfl) (fun _ _ _ h => h) (Or.inl ⟨by rfl, ?_⟩) (by assumption) ?_
          rotate_left
          · (intro w hSw; (try dsimp only at hSw); go_simp; first | done | with_reducible rfl)
          try simp only [List.setIfInBounds_toArray, List.set_cons_zero, List.set_cons_succ]
          refine reg_take (i := 17) (d := 81) (v := ?_) [] rfl rfl (by kernel_rfl) (by kernel_rfl) (fun _ _ _ h => h) (Or.inl ⟨by rfl, ?_⟩) (by assumption) ?_
          rotate_left
          · (intro w hSw; (try dsimp only at hSw); go_simp; first | done | with_reducible rfl)
          try simp only [List.setIfInBounds_toArray, List.set_cons_zero, List.set_cons_succ]
          refine reg_take (i := 18) (d := 82) (v := ?_) [] rfl rfl (by kernel_rfl) (by kernel_rfl) (fun _ _ _ h => h) (Or.inl ⟨by rfl, ?_⟩) (by assumption) ?_
          rotate_left
          · (intro w hSw; (try dsimp only at hSw); go_simp; first | done | with_reducible rfl)
          try simp only [List.setIfInBounds_toArray, List.set_cons_zero, List.set_cons_succ]
          refine reg_take (i := 19) (d := 83) (v := ?_) [] rfl rfl (by kernel_rfl) (by kernel_rfl) (fun _ _ _ h => h) (Or.inl ⟨by rfl, ?_⟩) (by assumption) ?_
          rotate_left
          · (intro w hSw; (try dsimp only at hSw); go_simp; first | done | with_reducible rfl)
          try simp only [List.setIfInBounds_toArray, List.set_cons_zero, List.set_cons_succ]
          refine reg_take (i := 20) (d := 84) (v := ?_) [] rfl rfl (by kernel_rfl) (by kernel_rfl) (fun _ _ _ h => h) (Or.inl ⟨by rfl, ?_⟩) (by assumption) ?_
          rotate_left
          · (intro w hSw; (try dsimp only at hSw); go_simp; first | done | with_reducible rfl)
          try simp only [List.setIfInBounds_toArray, List.set_cons_zero, List.set_cons_succ]
          refine wpAnyL_done (by kernel_rfl) ?_ _
          go_wp2_with fail
          go_roundg (k - (j + 1))
          case measure => omega
          case rel => exact ⟨j + 1, _, _, _, by rw [HF3.out], rfl, by push_cast; rfl, by omega, rfl, HML2.out.1, HML2.out.2, HFIN.out _ HT.out⟩
  have r1 : decide ((j : Int) < (k : Int)) = false := by simp; omega
  have r2 : ¬ (j : Int) < (k : Int) := by omega
  have hjk : j = k := by omega
  subst hjk
  have HIT : Hid (ix.take j = ix) := Lib.hid (by rw [← HIX.out, List.take_length])
  have HT : Hid (Sep w wr (tOwn tIn 1 (.slice P m cP) m (eI64.fl ((ix.eraseIdx i).map iI)) :: tBlk g10 #[.int .i64 xo, .int .i64 xb, .string xd, .int .i64 xf, .int .i64 xt, .bool xk, .int .i64 xe, .string xr] tRop :: [])) := Lib.hid (by have := HT.out; rwa [HIT.out] at this)
  have HMS : Hid (m + 1 = j ∧ (ix.eraseIdx i).length = m) := Lib.hid (by
    have h1 := HML.out
    rw [HIT.out] at h1
    have h2 := h1
    rw [List.length_eraseIdx, HIX.out, if_pos hik] at h1
    exact ⟨by omega, h2⟩)
  clear HML
  have y0 : wr.cell? ⟨g10, 0, none⟩ = some (.int .i64 xo) := (show Blk wr g10 _ tRop from HT.out.h2).cell 0
  have y2 : wr.cell? ⟨g10, 2, none⟩ = some (.string xd) := (show Blk wr g10 _ tRop from HT.out.h2).cell 2
  have y7 : wr.cell? ⟨g10, 7, none⟩ = some (.string xr) := (show Blk wr g10 _ tRop from HT.out.h2).cell 7
  obtain ⟨fb, hfb⟩ : ∃ b, frontX xs i (LOp.mk xo xb xd xf xt xk xe xr) j = b := ⟨_, rfl⟩
  have HFB := Lib.hid hfb
  rw [hfb]
  clear hfb
  have HUP : Hid (∀ (h : frontX xs i (LOp.mk xo xb xd xf xt xk xe xr) xs.length = true → (LOp.mk xo xb xd xf xt xk xe xr).fits d = true → ord (xs.eraseIdx i) ((LOp.mk xo xb xd xf xt xk xe xr).nxt d) = false), NoneX xs d (i + 1)) := Lib.hid (fun h => HNO.out.succ HO.out h)
  have HHIT : Hid (∀ (_ : frontX xs i (LOp.mk xo xb xd xf xt xk xe xr) j = true) (_ : (LOp.mk xo xb xd xf xt xk xe xr).fits d = true) (_ : ord (xs.eraseIdx i) ((LOp.mk xo xb xd xf xt xk xe xr).nxt d) = true), ord xs d = true) := Lib.hid (fun h1 h2 h3 => ordX_hit HXL.out HO.out h1 h2 h3)
  have HCALL : Hid (∀ (dd : ByteArray) W' l, Sep w W' (tOwn tIn 1 (.slice P m cP) m (eI64.fl ((ix.eraseIdx i).map iI)) :: l) → Calls Try.prog 28 #[.slice (some ⟨gb, go, none⟩) n c, .slice P m cP, .string dd] W' fun e w' => e = .returned (.bool (ord (xs.eraseIdx i) dd)) ∧ Below W'.heap.size W' w') := Lib.hid (fun dd W' l h =>
    HIH.out m HMS.out.1 (ix.eraseIdx i) (xs.eraseIdx i) P cP dd W' HMS.out.2 (HP.out.erase i) (fun x hx => HNV.out x (List.mem_of_mem_eraseIdx hx)) hm (HA.out.below h.bel) h.own.rd)
  cases fb
  · as_aux_lemma =>
      have HNN := Lib.hid (HUP.out (fun h => by rw [HXL.out, HFB.out] at h; cases h))
      go_wp2_with fail
      go_roundg (j - (i + 1))
      case measure => omega
      case rel => exact ⟨i + 1, by push_cast; rfl, by omega, rfl, HNN.out, HT.out.bel⟩
  by_cases h1 : xo = 1
  · have e1 : (xo == 1) = true := by simp [h1]
    by_cases h4 : xr = d
    · have e4 := str_same d
      have e5 : (xo == 2) = false := by rw [h1]; rfl
      have e6 : (xo == 3) = false := by rw [h1]; rfl
      have hnd : (LOp.mk xo xb xd xf xt xk xe xr).nxt d = d := by unfold LOp.nxt; rw [if_pos h1]
      have HFT := Lib.hid (show (LOp.mk xo xb xd xf xt xk xe xr).fits d = true from decide_eq_true fun _ => h4)
      subst h4
      clear h1
      as_aux_lemma =>
        rw [hnd] at HUP HHIT
        clear hnd
        obtain ⟨res, hres⟩ : ∃ b, ord (xs.eraseIdx i) xr = b := ⟨_, rfl⟩
        have HRES := Lib.hid hres
        clear hres
        cases res
        · have HNN := Lib.hid (HUP.out (fun _ _ => HRES.out))
          go_wp2_with (go_at_call 28; refine (HCALL.out _ _ _ HT.out).mono ?_; rw [HRES.out]; rintro e w9 ⟨rfl, hB⟩; have HT := Lib.hid (HT.out.step hB); clear hB)
          go_roundg (j - (i + 1))
          case measure => omega
          case rel => exact ⟨i + 1, by push_cast; rfl, by omega, rfl, HNN.out, HT.out.bel⟩
        · have HE := Lib.hid (HHIT.out HFB.out HFT.out HRES.out)
          go_wp2_with (go_at_call 28; refine (HCALL.out _ _ _ HT.out).mono ?_; rw [HRES.out]; rintro e w9 ⟨rfl, hB⟩; have HT := Lib.hid (HT.out.step hB); clear hB)
          go_ret
          exact ⟨by rw [HE.out]; rfl, HT.out.bel⟩
    · as_aux_lemma =>
        have e4 := str_ne h4
        have HNN := Lib.hid (HUP.out (fun _ h => absurd ((of_decide_eq_true h) h1) h4))
        clear h1 h4
        go_wp2_with fail
        go_roundg (j - (i + 1))
        case measure => omega
        case rel => exact ⟨i + 1, by push_cast; rfl, by omega, rfl, HNN.out, HT.out.bel⟩
  have e1 : (xo == 1) = false := by simpa using h1
  have HFT := Lib.hid (show (LOp.mk xo xb xd xf xt xk xe xr).fits d = true from decide_eq_true fun h => absurd h h1)
  by_cases h2 : xo = 2
  · have e5 : (xo == 2) = true := by simp [h2]
    have e6 : (xo == 3) = false := by rw [h2]; rfl
    have hnd : (LOp.mk xo xb xd xf xt xk xe xr).nxt d = xd := by unfold LOp.nxt; rw [if_neg h1, if_pos h2]
    clear h1 h2
    as_aux_lemma =>
      rw [hnd] at HUP HHIT
      clear hnd
      obtain ⟨res, hres⟩ : ∃ b, ord (xs.eraseIdx i) xd = b := ⟨_, rfl⟩
      have HRES := Lib.hid hres
      clear hres
      cases res
      · have HNN := Lib.hid (HUP.out (fun _ _ => HRES.out))
        go_wp2_with (go_at_call 28; refine (HCALL.out _ _ _ HT.out).mono ?_; rw [HRES.out]; rintro e w9 ⟨rfl, hB⟩; have HT := Lib.hid (HT.out.step hB); clear hB)
        go_roundg (j - (i + 1))
        case measure => omega
        case rel => exact ⟨i + 1, by push_cast; rfl, by omega, rfl, HNN.out, HT.out.bel⟩
      · have HE := Lib.hid (HHIT.out HFB.out HFT.out HRES.out)
        go_wp2_with (go_at_call 28; refine (HCALL.out _ _ _ HT.out).mono ?_; rw [HRES.out]; rintro e w9 ⟨rfl, hB⟩; have HT := Lib.hid (HT.out.step hB); clear hB)
        go_ret
        exact ⟨by rw [HE.out]; rfl, HT.out.bel⟩
  · have h3 : xo = 3 := by
      have := HNX.out
      unfold LOp.never at this
      rw [if_neg h1] at this
      split at this
      · rename_i h
        have h : xo = 2 ∨ xo = 3 := h
        omega
      · cases this
    have e5 : (xo == 2) = false := by simpa using h2
    have e6 : (xo == 3) = true := by simp [h3]
    have hnd : (LOp.mk xo xb xd xf xt xk xe xr).nxt d = none8 := by unfold LOp.nxt; rw [if_neg h1, if_neg h2]
    clear h1 h2 h3
    as_aux_lemma =>
      rw [hnd] at HUP HHIT
      clear hnd
      obtain ⟨res, hres⟩ : ∃ b, ord (xs.eraseIdx i) none8 = b := ⟨_, rfl⟩
      have HRES := Lib.hid hres
      clear hres
      cases res
      · have HNN := Lib.hid (HUP.out (fun _ _ => HRES.out))
        go_wp2_with (go_at_call 28; refine (HCALL.out _ _ _ HT.out).mono ?_; rw [HRES.out]; rintro e w9 ⟨rfl, hB⟩; have HT := Lib.hid (HT.out.step hB); clear hB)
        go_roundg (j - (i + 1))
        case measure => omega
        case rel => exact ⟨i + 1, by push_cast; rfl, by omega, rfl, HNN.out, HT.out.bel⟩
      · have HE := Lib.hid (HHIT.out HFB.out HFT.out HRES.out)
        go_wp2_with (go_at_call 28; refine (HCALL.out _ _ _ HT.out).mono ?_; rw [HRES.out]; rintro e w9 ⟨rfl, hB⟩; have HT := Lib.hid (HT.out.step hB); clear hB)
        go_ret
        exact ⟨by rw [HE.out]; rfl, HT.out.bel⟩
theorem order_any (L : List LOp) (A : Option Addr) (n c : Nat) (hl : L.length = n) (hn : n ≤ 100) : ∀ r, OrderAt L A n c r
  | 0 => order_step L A n c hl hn 0 (fun s h => by omega)
  | r + 1 => order_step L A n c hl hn (r + 1) (fun s h => by
    obtain rfl : s = r := by omega
    exact order_any L A n c hl hn s)
end Go.Proofs.Ytkajkomljgdghaa
