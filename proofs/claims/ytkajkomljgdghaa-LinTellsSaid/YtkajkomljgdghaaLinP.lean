/- The walk of lin.parts. Condition: at most 100 ops, which may lie in memory. -/
import Derived.Test.YtkajkomljgdghaaLinG
set_option linter.unusedVariables false
set_option linter.unusedSimpArgs false
namespace Go.Proofs.Ytkajkomljgdghaa
open Go.RowKit Go.Maps
theorem bad_iff {o : LOp} : o.bad = (decide (o.fr < 1) || (o.back && decide (o.tt < o.fr))) := rfl
theorem errs_bad {L : List LOp} {k : Nat} {x : LOp} (hx : L[k]? = some x) (h : x.bad = true) : errs L = 1 := errs_one.2 ⟨x, List.mem_of_getElem? hx, h⟩
theorem errs_many {L : List LOp} (h : ∀ o ∈ L, o.bad = false) {b : Int} (hb : 9 < (cnt L b).length) : errs L = 5 := by
  rcases errs_cases L with e | e | e
  · have := (errs_zero.1 e).2 b; omega
  · obtain ⟨o, ho, e2⟩ := errs_one.1 e
    rw [h o ho] at e2; cases e2
  · exact e
set_option maxRecDepth 100000 in
set_option maxHeartbeats 8000000 in
theorem parts_any (L : List LOp) (A : Option Addr) (n c : Nat) (hl : L.length = n) (hn : n ≤ 100) (hok : ∀ o ∈ L, o.ok) {w W : World} {l : List Th} (hrd : ∀ W', Sep w W' l → Rd W' A (eOp.fl L)) (hs : Sep w W l) :
    Calls Try.prog 20 #[.slice A n c] W fun e W' => PartsRes L w l e W' := by
  have HL := Lib.hid hl
  have HOK := Lib.hid hok
  have HRD := Lib.hid hrd
  have hmm := @run_makeMap Try.prog
  obtain ⟨bm, hbm⟩ : ∃ g, W.heap.size = g := ⟨_, rfl⟩
  have HT := Lib.hid ((hs.newRows.newMap tIn hbm))
  have HBM := Lib.hid hbm
  clear hl hok hrd hs hbm
  go_enter Try.func20, Try.ntmps20
  go_upto_region 2 with fail
  rw [HBM.out]
  generalize W.alloc (.map #[] 0) = W1 at *
  clear HBM hmm
  go_wp2_with fail
  go_loopg [12] n (fun gk s12 wr => ∃ (k q : Nat) (f : Value → Option Value) (R : Int → Option Value), s12 = .int .i64 (k : Int) ∧ k ≤ n ∧ gk = n - k ∧ q ≤ k ∧ (∀ o ∈ L.take k, o.bad = false) ∧ GrInv f R (cnt (L.take k)) ∧ Sep w wr (tMapV tIn bm q f :: tRows R (cnt (L.take k)) :: l))
  case atStart => exact ⟨0, 0, _, _, rfl, by omega, by omega, by omega, fun o ho => (by simp at ho), GrInv.start, HT.out⟩
  case round =>
  clear HT
  obtain ⟨k, q, f, R, rfl, hk, hgk, hqk, hng, hgr, hs⟩ := hrel
  have HT := Lib.hid hs; have HGR := Lib.hid hgr; have HNG0 := Lib.hid hng
  clear hs hgr hng
  by_cases hkn : k < n
  case neg =>
    have j1 : decide ((k : Int) < (n : Int)) = false := by simp; omega
    have j2 : ¬ (k : Int) < (n : Int) := by omega
    have hkn : k = n := by omega
    subst hkn
    have hall : L.take k = L := by rw [← HL.out, List.take_length]
    have HGR := Lib.hid (show GrInv f R (cnt L) by have := HGR.out; rwa [hall] at this)
    have HNG := Lib.hid (show ∀ o ∈ L, o.bad = false by have := HNG0.out; rwa [hall] at this)
    have HT := Lib.hid (show Sep w wr (tMapV tIn bm q f :: tRows R (cnt L) :: l) by have := HT.out; rwa [hall] at this)
    clear HNG0 hall
    as_aux_lemma =>
      go_upto_region 10 with fail
      refine wp_region_lit (l := [_, _]) ?_
      refine wpList_plain rfl fun _ hK => ?_
      go_simp
      refine hK _ _ ?_
      refine mapv_range (HT.out.hd) lawI Try.underlying53 rfl (.tmp 46) rfl (g := _) rfl rfl ?_
      intro w7 cn hr hcq hb
      have HT := Lib.hid (HT.out.mapRange hr rfl hb)
      clear hr hb
      generalize wr.heap.size = bi at *
      go_frame
      go_wp2_with fail
      go_loopg [] cn (fun gk wr => ∃ (todo : Value → Bool), (∀ b, f (iV b) ≠ none → todo (iV b) = false → (cnt L b).length ≤ 9) ∧ Sep w wr (tRangeV tIn bm bi q f todo gk :: tRows R (cnt L) :: l))
      case atStart => exact ⟨_, fun b hb ht => (by
        cases h : f (iV b) with
        | none => exact absurd h hb
        | some v => simp [h] at ht), HT.out⟩
      case round =>
      clear HT
      obtain ⟨todo, htd, hs⟩ := hrel
      have HT := Lib.hid hs
      have HTD := Lib.hid htd
      clear hs htd
      go_upto_region 11 with fail
      refine wp_region_lit (l := [_, _]) ?_
      refine mapv_next (HT.out.hd) lawI rfl (.tmp 47) rfl rfl ?_ ?_
      · intro hdone
        have HE := Lib.hid (show errs L = 0 from errs_zero.2 ⟨HNG.out, fun b => by
          cases h : f (iV b) with
          | none =>
            rw [HGR.out.fr] at h
            rw [(HGR.out.rn b).1 h]
            exact Nat.zero_le _
          | some v =>
            obtain ⟨b', hb', e⟩ := HGR.out.fk (iV b) (by rw [h]; simp)
            have e : b = b' := by injection e
            subst e
            exact HTD.out b (by rw [h]; simp) (hdone _ (keyI hb'))⟩)
        clear hdone
        go_wp2_with fail
        go_returns
        exact .inr ⟨HE.out, bm, q, f, R, rfl, HGR.out, by rw [HL.out]; omega, HT.out.rangeMap⟩
      · intro key v w8 cnt' hkey htodo hf hat hlt hu
        obtain ⟨b, hb, rfl⟩ := HGR.out.fk key (by rw [hf]; simp)
        have hRb : R b = some v := by rw [← HGR.out.fr]; exact hf
        have HT := Lib.hid (HT.out.rangeNext hat.1 hu)
        obtain ⟨Ab, cb, hv, _⟩ := ((show RowsOk w8 R (cnt L) from HT.out.h2).own b v hRb).form
        subst hv
        have hen := hat.2
        obtain ⟨nb, hnb⟩ : ∃ x, (cnt L b).length = x := ⟨_, rfl⟩
        have HNB := Lib.hid hnb
        rw [hnb] at hen
        have HF := Lib.hid hf
        clear hat hf htodo hkey hu hRb hnb
        by_cases h9 : 9 < nb
        · have g1 : (9 : Int) < (nb : Int) := by omega
          have g2 : decide ((9 : Int) < (nb : Int)) = true := decide_eq_true g1
          have HE := Lib.hid (errs_many HNG.out (b := b) (by rw [HNB.out]; exact h9))
          go_wp2_with fail
          go_returns
          exact .inl ⟨by rw [HE.out]; decide, by rw [HE.out]; rfl, HT.out.tail.tail⟩
        · have g1 : ¬ (9 : Int) < (nb : Int) := by omega
          have g2 : decide ((9 : Int) < (nb : Int)) = false := decide_eq_false g1
          go_wp2_with fail
          go_roundg cnt'
          case measure => exact hlt
          case rel =>
            refine ⟨_, fun b' hb' ht => ?_, HT.out⟩
            by_cases e : b' = b
            · subst e
              rw [HNB.out]; omega
            · rw [strikeV_other _ (fun h => e (by injection h))] at ht
              exact HTD.out b' hb' ht
  have j1 : decide ((k : Int) < (n : Int)) = true := by simp; omega
  have j2 : (k : Int) < (n : Int) := by omega
  have j3 : (0 : Int) ≤ (k : Int) := by omega
  have hwk : IntKind.i64.wrap ((k : Int) + 1) = (k : Int) + 1 := IntWalk.i64_in _ (by omega)
  have HX := Lib.hid (List.getElem?_eq_getElem (l := L) (i := k) (by rw [HL.out]; exact hkn))
  generalize L[k]'(by rw [HL.out]; exact hkn) = x at *
  have HXB := Lib.hid (HOK.out x (List.mem_of_getElem? HX.out)).blk
  obtain ⟨gb, go, rfl, hu⟩ := (HRD.out wr HT.out.tail.tail).op k x HX.out
  obtain ⟨g6, hg6⟩ : ∃ g, wr.heap.size = g := ⟨_, rfl⟩
  have HT := Lib.hid ((HT.out.newBlk #[.int .i64 0, .int .i64 0, .string { data := #[] }, .int .i64 0, .int .i64 0, .bool false, .int .i64 0, .string { data := #[] }] tOp hg6).r3')
  have HG6 := Lib.hid hg6
  clear hg6
  go_upto_region 4 with fail
  refine wp_region_lit (l := [_, _, _, _]) ?_
  refine wpList_plain rfl fun _ hK => ?_
  go_simp
  refine hK _ _ ?_
  refine loadMid (cs := x.cs) _ rfl (.tmp 14) rfl rfl hu Try.underlying44 rfl infoOp ?_
  refine wpList_plain rfl fun _ hK => ?_
  go_simp
  rw [HG6.out]
  refine hK _ _ ?_
  refine storeR x.cs (show Blk _ g6 #[.int .i64 0, .int .i64 0, .string { data := #[] }, .int .i64 0, .int .i64 0, .bool false, .int .i64 0, .string { data := #[] }] tOp from HT.out.h3) rfl infoOp (op1 x) rfl (.tmp 6) (.tmp 15) rfl rfl rfl ?_
  intro W5 hb8 hu8
  have HT := Lib.hid ((HT.out.r3.put hb8 hu8).r3')
  clear hb8 hu8 hu HG6
  obtain ⟨xo, xb, xd, xf, xt, xk, xe, xr⟩ := x
  unfold LOp.cs at HT
  simp only at HT HXB
  have z3 : W5.cell? ⟨g6, 3, none⟩ = some (.int .i64 xf) := (show Blk W5 g6 _ tOp from HT.out.h3).cell 3
  have z4 : W5.cell? ⟨g6, 4, none⟩ = some (.int .i64 xt) := (show Blk W5 g6 _ tOp from HT.out.h3).cell 4
  have z5 : W5.cell? ⟨g6, 5, none⟩ = some (.bool xk) := (show Blk W5 g6 _ tOp from HT.out.h3).cell 5
  cases hbad : (LOp.mk xo xb xd xf xt xk xe xr).bad
  case true =>
    as_aux_lemma =>
      have HE := Lib.hid (errs_bad HX.out hbad)
      rw [bad_iff] at hbad
      simp only at hbad
      by_cases h1 : xf < 1
      · have g1 : decide (xf < 1) = true := decide_eq_true h1
        clear hbad
        go_wp2_with fail
        go_returns
        exact .inl ⟨by rw [HE.out]; decide, by rw [HE.out]; rfl, HT.out.tail.tail.tail⟩
      · have g1 : decide (xf < 1) = false := decide_eq_false h1
        rw [g1, Bool.false_or, Bool.and_eq_true, decide_eq_true_eq] at hbad
        obtain ⟨rfl, h2⟩ := hbad
        have g2 : decide (xt < xf) = true := decide_eq_true h2
        go_wp2_with fail
        go_returns
        exact .inl ⟨by rw [HE.out]; decide, by rw [HE.out]; rfl, HT.out.tail.tail.tail⟩
  have HNG := Lib.hid (show ∀ o ∈ L.take (k + 1), o.bad = false by
    rw [List.take_add_one, HX.out]
    intro o ho
    rcases List.mem_append.1 ho with ho | ho
    · exact HNG0.out o ho
    · obtain rfl : o = ⟨xo, xb, xd, xf, xt, xk, xe, xr⟩ := by simpa using ho
      exact hbad)
  rw [bad_iff] at hbad
  simp only [Bool.or_eq_false_iff] at hbad
  obtain ⟨g1, hb2⟩ := hbad
  have h1 : ¬ xf < 1 := of_decide_eq_false g1
  obtain ⟨nv, hnv⟩ : ∃ b, (LOp.mk xo xb xd xf xt xk xe xr).never = b := ⟨_, rfl⟩
  have HNV := Lib.hid hnv
  clear hnv
  have z0 : W5.cell? ⟨g6, 0, none⟩ = some (.int .i64 xo) := (show Blk W5 g6 _ tOp from HT.out.h3).cell 0
  have z1 : W5.cell? ⟨g6, 1, none⟩ = some (.int .i64 xb) := (show Blk W5 g6 _ tOp from HT.out.h3).cell 1
  have z2 : W5.cell? ⟨g6, 2, none⟩ = some (.string xd) := (show Blk W5 g6 _ tOp from HT.out.h3).cell 2
  have z6 : W5.cell? ⟨g6, 6, none⟩ = some (.int .i64 xe) := (show Blk W5 g6 _ tOp from HT.out.h3).cell 6
  have z7 : W5.cell? ⟨g6, 7, none⟩ = some (.string xr) := (show Blk W5 g6 _ tOp from HT.out.h3).cell 7
  cases xk
  · cases nv
    · have HP3 : Hid (∀ (a b : Th) w', Sep w w' (a :: b :: tBlk g6 #[.int .i64 xo, .int .i64 xb, .string xd, .int .i64 xf, .int .i64 xt, .bool false, .int .i64 xe, .string xr] tOp :: l) → Blk w' g6 #[.int .i64 xo, .int .i64 xb, .string xd, .int .i64 xf, .int .i64 xt, .bool false, .int .i64 xe, .string xr] tOp ∧ w'.cell? ⟨g6, 1, none⟩ = some (.int .i64 xb)) := Lib.hid (fun a b w' h => ⟨h.h3, (show Blk w' g6 _ tOp from h.h3).cell 1⟩)
      have HP4 : Hid (∀ (a b d : Th) w', Sep w w' (a :: b :: d :: tBlk g6 #[.int .i64 xo, .int .i64 xb, .string xd, .int .i64 xf, .int .i64 xt, .bool false, .int .i64 xe, .string xr] tOp :: l) → Blk w' g6 #[.int .i64 xo, .int .i64 xb, .string xd, .int .i64 xf, .int .i64 xt, .bool false, .int .i64 xe, .string xr] tOp ∧ w'.cell? ⟨g6, 1, none⟩ = some (.int .i64 xb)) := Lib.hid (fun a b d w' h => ⟨h.h4, (show Blk w' g6 _ tOp from h.h4).cell 1⟩)
      have HKEY := Lib.hid (keyI HXB.out)
      obtain ⟨v0, hv0⟩ : ∃ v, rowAt R xb = v := ⟨_, rfl⟩
      have HRA := Lib.hid hv0
      obtain ⟨nb, hnb⟩ : ∃ x, (cnt (L.take k) xb).length = x := ⟨_, rfl⟩
      have HNB := Lib.hid hnb
      have hnb2 : nb ≤ k := by have := cnt_le (L.take k) xb; rw [List.length_take, hnb] at this; omega
      have HBD := Lib.hid (show (nb + 1) * 80 ≤ 140737488355328 by omega)
      have HV0 := Lib.hid (show (f (iV xb)).getD (.slice none 0 0) = v0 by rw [HGR.out.fr]; exact hv0)
      have HOW := Lib.hid (fun (W : World) (h : RowsOk W R (cnt (L.take k))) => show Own W tOp 8 v0 nb (eOp.fl (cnt (L.take k) xb)) by rw [← hv0, ← hnb]; exact h.at HGR.out xb)
      have HQ := Lib.hid (show q < maxLen by unfold maxLen; omega)
      clear hv0 hnb
      go_upto_region 8 with (go_at_call 25; refine (never_any ⟨xo, xb, xd, xf, xt, false, xe, xr⟩ _).mono ?_; rw [HNV.out]; rintro e w7 ⟨rfl, hB⟩; have HT := Lib.hid (HT.out.step hB); clear hB)
      clear z0 z1 z2 z3 z4 z5 z6 z7
      have HT := Lib.hid HT.out.drew
      refine wp_region_L (fun w' => Blk w' g6 #[.int .i64 xo, .int .i64 xb, .string xd, .int .i64 xf, .int .i64 xt, .bool false, .int .i64 xe, .string xr] tOp ∧ w'.cell? ⟨g6, 1, none⟩ = some (.int .i64 xb)) 12 (by kernel_rfl) (HP3.out _ _ _ HT.out) (fun hHeld => ?_)
      refine reg_take (i := 0) (d := 33) (v := ?_) [] rfl rfl (by kernel_rfl) (by kernel_rfl) (fun _ _ _ h => h) (Or.inl ⟨by rfl, ?_⟩) (by assumption) ?_
      rotate_left
      · (intro w hSw; (try dsimp only at hSw); go_simp; first | done | with_reducible rfl)
      try simp only [List.setIfInBounds_toArray, List.set_cons_zero, List.set_cons_succ]
      refine reg_take (i := 1) (d := 34) (v := ?_) [] rfl rfl (by kernel_rfl) (by kernel_rfl) (fun _ _ _ h => h) (Or.inl ⟨by rfl, ?_⟩) (by assumption) ?_
      rotate_left
      · (intro w hSw; (try dsimp only at hSw); go_simp; first | done | with_reducible rfl)
      try simp only [List.setIfInBounds_toArray, List.set_cons_zero, List.set_cons_succ]
      refine reg_take (i := 2) (d := 35) (v := ?_) [] rfl rfl (by kernel_rfl) (by kernel_rfl) (fun _ _ _ h => h) (Or.inl ⟨by rfl, ?_⟩) (by assumption) ?_
      rotate_left
      · (intro w hSw; (try dsimp only at hSw); go_simp; first | done | with_reducible rfl)
      try simp only [List.setIfInBounds_toArray, List.set_cons_zero, List.set_cons_succ]
      refine reg_take (i := 3) (d := 36) (v := ?_) [] rfl rfl (by kernel_rfl) (by kernel_rfl) (fun _ _ _ h => h) (Or.inl ⟨by rfl, ?_⟩) (by assumption) ?_
      rotate_left
      · (intro w hSw; (try dsimp only at hSw); go_simp; first | done | with_reducible rfl)
      try simp only [List.setIfInBounds_toArray, List.set_cons_zero, List.set_cons_succ]
      refine reg_take (i := 4) (d := 37) (v := ?_) [] rfl rfl (by kernel_rfl) (by kernel_rfl) (fun _ _ _ h => h) (Or.inl ⟨by rfl, ?_⟩) (by assumption) ?_
      rotate_left
      · (intro w hSw; (try dsimp only at hSw); go_simp; first | done | with_reducible rfl)
      try simp only [List.setIfInBounds_toArray, List.set_cons_zero, List.set_cons_succ]
      refine reg_take (i := 5) (d := 38) (v := ?_) [] rfl rfl (by kernel_rfl) (by kernel_rfl) (fun _ _ _ h => h) (Or.inl ⟨by rfl, ?_⟩) (by assumption) ?_
      rotate_left
      · (intro w hSw; (try dsimp only at hSw); go_simp; first | done | with_reducible rfl)
      try simp only [List.setIfInBounds_toArray, List.set_cons_zero, List.set_cons_succ]
      refine reg_take (i := 6) (d := 39) (v := ?_) [] rfl rfl (by kernel_rfl) (by kernel_rfl) (fun _ _ _ h => h) (Or.inl ⟨by rfl, ?_⟩) (by assumption) ?_
      rotate_left
      · (intro w hSw; (try dsimp only at hSw); go_simp; first | done | with_reducible rfl)
      try simp only [List.setIfInBounds_toArray, List.set_cons_zero, List.set_cons_succ]
      refine reg_take (i := 7) (d := 40) (v := ?_) [] rfl rfl (by kernel_rfl) (by kernel_rfl) (fun _ _ _ h => h) (Or.inl ⟨by rfl, ?_⟩) (by assumption) ?_
      rotate_left
      · (intro w hSw; (try dsimp only at hSw); go_simp; first | done | with_reducible rfl)
      try simp only [List.setIfInBounds_toArray, List.set_cons_zero, List.set_cons_succ]
      refine reg_take (i := 9) (d := 42) (v := .agg #[.int .i64 xo, .int .i64 xb, .string xd, .int .i64 xf, .int .i64 xt, .bool false, .int .i64 xe, .string xr]) [] rfl rfl (by kernel_rfl) (by kernel_rfl) (fun _ _ _ h => h) (yields_row _ (by rfl) (.tmp 6) rfl rfl (fun w h => h.1) Try.underlying44 rfl infoOp) (by assumption) ?_
      try simp only [List.setIfInBounds_toArray, List.set_cons_zero, List.set_cons_succ]
      refine wpAnyL_ready (rs := [8, 10]) (by kernel_rfl) rfl ?_
      refine (AllL.cons rfl (fun K hK => ?_) (AllL.cons rfl (fun K hK => ?_) AllL.nil))
      · refine stepv_look (HT.out.hd) lawI Try.underlying53 rfl (.tmp 37) (.tmp 40) rfl (zeroSl _) (iV xb) HKEY.out rfl rfl v0 HV0.out ?_
        refine hK.out _ _ (HP3.out _ _ _ HT.out) (fun hHeld => ?_)
        try simp only [List.setIfInBounds_toArray, List.set_cons_zero, List.set_cons_succ]
        refine wpAnyL_ready (rs := [10]) (by kernel_rfl) rfl ?_
        refine (AllL.cons rfl (fun K hK => ?_) AllL.nil)
        go_simp
        have HT := Lib.hid ((HT.out.newBlk #[.int .i64 xo, .int .i64 xb, .string xd, .int .i64 xf, .int .i64 xt, .bool false, .int .i64 xe, .string xr] tOp (g := w7.heap.size) (by simp)).sw)
        refine hK.out _ _ (HP4.out _ _ _ _ HT.out) (fun hHeld => ?_)
        try simp only [List.setIfInBounds_toArray, List.set_cons_zero, List.set_cons_succ]
        refine wpAnyL_ready (rs := [11]) (by kernel_rfl) rfl ?_
        refine (AllL.cons rfl (fun K hK => ?_) AllL.nil)
        refine stepA 22 tOp (.agg #[.int .i64 0, .int .i64 0, .string ByteArray.empty, .int .i64 0, .int .i64 0, .bool false, .int .i64 0, .string ByteArray.empty]) 8 80 (LOp.cells ⟨xo, xb, xd, xf, xt, false, xe, xr⟩) 1 (HOW.out _ HT.out.h3) HBD.out Try.underlying22 Try.infoO rfl (by decide) (by decide) rfl (eOp.one ⟨xo, xb, xd, xf, xt, false, xe, xr⟩) (some ⟨w7.heap.size, 0, none⟩) 1 (show Blk _ w7.heap.size #[.int .i64 xo, .int .i64 xb, .string xd, .int .i64 xf, .int .i64 xt, .bool false, .int .i64 xe, .string xr] tOp from HT.out.h2).rd (fun e => nomatch e) (.tmp 41) (.tmp 43) rfl rfl rfl rfl ?_
        intro v1 w1 ho1 hg1 hat1
        have HT := Lib.hid ((HT.out.r3.rowsApp xb (ys := cnt (L.take k) xb ++ [⟨xo, xb, xd, xf, xt, false, xe, xr⟩]) (n := nb + 1) (by rw [List.length_append, HNB.out]; rfl) (by rw [Enc.snoc]; exact ho1) (by rw [HRA.out]; exact hg1) (by rw [HRA.out]; exact hat1)).r3')
        clear ho1 hg1 hat1
        refine hK.out _ _ (HP4.out _ _ _ _ HT.out) (fun hHeld => ?_)
        try simp only [List.setIfInBounds_toArray, List.set_cons_zero, List.set_cons_succ]
        refine wpAnyL_ready (rs := [12]) (by kernel_rfl) rfl ?_
        refine (AllL.consJ rfl (by kernel_rfl) (fun K hK => ?_) AllL.nil)
        refine stepv_put (HT.out.hd) lawI Try.underlying53 rfl (.tmp 33) (.tmp 36) (.tmp 44) rfl HQ.out (iV xb) v1 HKEY.out rfl rfl rfl ?_
        intro w2 hm2 hu2
        have HT := Lib.hid (HT.out.mapPut hm2 hu2)
        clear hm2 hu2
        refine hK.out _ _ ?_
        try simp only [List.setIfInBounds_toArray, List.set_cons_zero, List.set_cons_succ]
        refine wpAnyL_done (by kernel_rfl) ?_ _
        go_wp2_with fail
        go_roundg (n - (k + 1))
        case measure => omega
        case rel =>
          have hs := HT.out.d2.d3
          rw [updG_cnt HX.out HNV.out] at hs
          exact ⟨k + 1, q + 1, _, _, by push_cast; rfl, by omega, rfl, by omega, HNG.out, by have := HGR.out.put HXB.out v1 (ys := cnt (L.take k) xb ++ [⟨xo, xb, xd, xf, xt, false, xe, xr⟩]) (by simp); rwa [updG_cnt HX.out HNV.out] at this, hs⟩
      · go_simp
        have HT := Lib.hid ((HT.out.newBlk #[.int .i64 xo, .int .i64 xb, .string xd, .int .i64 xf, .int .i64 xt, .bool false, .int .i64 xe, .string xr] tOp (g := w7.heap.size) (by simp)).sw)
        refine hK.out _ _ (HP4.out _ _ _ _ HT.out) (fun hHeld => ?_)
        try simp only [List.setIfInBounds_toArray, List.set_cons_zero, List.set_cons_succ]
        refine wpAnyL_ready (rs := [8]) (by kernel_rfl) rfl ?_
        refine (AllL.cons rfl (fun K hK => ?_) AllL.nil)
        refine stepv_look (HT.out.hd) lawI Try.underlying53 rfl (.tmp 37) (.tmp 40) rfl (zeroSl _) (iV xb) HKEY.out rfl rfl v0 HV0.out ?_
        refine hK.out _ _ (HP4.out _ _ _ _ HT.out) (fun hHeld => ?_)
        try simp only [List.setIfInBounds_toArray, List.set_cons_zero, List.set_cons_succ]
        refine wpAnyL_ready (rs := [11]) (by kernel_rfl) rfl ?_
        refine (AllL.cons rfl (fun K hK => ?_) AllL.nil)
        refine stepA 22 tOp (.agg #[.int .i64 0, .int .i64 0, .string ByteArray.empty, .int .i64 0, .int .i64 0, .bool false, .int .i64 0, .string ByteArray.empty]) 8 80 (LOp.cells ⟨xo, xb, xd, xf, xt, false, xe, xr⟩) 1 (HOW.out _ HT.out.h3) HBD.out Try.underlying22 Try.infoO rfl (by decide) (by decide) rfl (eOp.one ⟨xo, xb, xd, xf, xt, false, xe, xr⟩) (some ⟨w7.heap.size, 0, none⟩) 1 (show Blk _ w7.heap.size #[.int .i64 xo, .int .i64 xb, .string xd, .int .i64 xf, .int .i64 xt, .bool false, .int .i64 xe, .string xr] tOp from HT.out.h2).rd (fun e => nomatch e) (.tmp 41) (.tmp 43) rfl rfl rfl rfl ?_
        intro v1 w1 ho1 hg1 hat1
        have HT := Lib.hid ((HT.out.r3.rowsApp xb (ys := cnt (L.take k) xb ++ [⟨xo, xb, xd, xf, xt, false, xe, xr⟩]) (n := nb + 1) (by rw [List.length_append, HNB.out]; rfl) (by rw [Enc.snoc]; exact ho1) (by rw [HRA.out]; exact hg1) (by rw [HRA.out]; exact hat1)).r3')
        clear ho1 hg1 hat1
        refine hK.out _ _ (HP4.out _ _ _ _ HT.out) (fun hHeld => ?_)
        try simp only [List.setIfInBounds_toArray, List.set_cons_zero, List.set_cons_succ]
        refine wpAnyL_ready (rs := [12]) (by kernel_rfl) rfl ?_
        refine (AllL.consJ rfl (by kernel_rfl) (fun K hK => ?_) AllL.nil)
        refine stepv_put (HT.out.hd) lawI Try.underlying53 rfl (.tmp 33) (.tmp 36) (.tmp 44) rfl HQ.out (iV xb) v1 HKEY.out rfl rfl rfl ?_
        intro w2 hm2 hu2
        have HT := Lib.hid (HT.out.mapPut hm2 hu2)
        clear hm2 hu2
        refine hK.out _ _ ?_
        try simp only [List.setIfInBounds_toArray, List.set_cons_zero, List.set_cons_succ]
        refine wpAnyL_done (by kernel_rfl) ?_ _
        go_wp2_with fail
        go_roundg (n - (k + 1))
        case measure => omega
        case rel =>
          have hs := HT.out.d2.d3
          rw [updG_cnt HX.out HNV.out] at hs
          exact ⟨k + 1, q + 1, _, _, by push_cast; rfl, by omega, rfl, by omega, HNG.out, by have := HGR.out.put HXB.out v1 (ys := cnt (L.take k) xb ++ [⟨xo, xb, xd, xf, xt, false, xe, xr⟩]) (by simp); rwa [updG_cnt HX.out HNV.out] at this, hs⟩
    · have HCS := Lib.hid (cnt_skip HX.out HNV.out)
      go_wp2_with (go_at_call 25; refine (never_any ⟨xo, xb, xd, xf, xt, false, xe, xr⟩ _).mono ?_; rw [HNV.out]; rintro e w7 ⟨rfl, hB⟩; have HT := Lib.hid (HT.out.step hB); clear hB)
      go_roundg (n - (k + 1))
      case measure => omega
      case rel =>
        refine ⟨k + 1, q, f, R, by push_cast; rfl, by omega, rfl, by omega, HNG.out, ?_, ?_⟩
        · rw [HCS.out]; exact HGR.out
        · rw [HCS.out]; exact HT.out.d3
  · have g2 : decide (xt < xf) = false := by simpa using hb2
    have h2 : ¬ xt < xf := of_decide_eq_false g2
    clear hb2
    cases nv
    · have HP3 : Hid (∀ (a b : Th) w', Sep w w' (a :: b :: tBlk g6 #[.int .i64 xo, .int .i64 xb, .string xd, .int .i64 xf, .int .i64 xt, .bool true, .int .i64 xe, .string xr] tOp :: l) → Blk w' g6 #[.int .i64 xo, .int .i64 xb, .string xd, .int .i64 xf, .int .i64 xt, .bool true, .int .i64 xe, .string xr] tOp ∧ w'.cell? ⟨g6, 1, none⟩ = some (.int .i64 xb)) := Lib.hid (fun a b w' h => ⟨h.h3, (show Blk w' g6 _ tOp from h.h3).cell 1⟩)
      have HP4 : Hid (∀ (a b d : Th) w', Sep w w' (a :: b :: d :: tBlk g6 #[.int .i64 xo, .int .i64 xb, .string xd, .int .i64 xf, .int .i64 xt, .bool true, .int .i64 xe, .string xr] tOp :: l) → Blk w' g6 #[.int .i64 xo, .int .i64 xb, .string xd, .int .i64 xf, .int .i64 xt, .bool true, .int .i64 xe, .string xr] tOp ∧ w'.cell? ⟨g6, 1, none⟩ = some (.int .i64 xb)) := Lib.hid (fun a b d w' h => ⟨h.h4, (show Blk w' g6 _ tOp from h.h4).cell 1⟩)
      have HKEY := Lib.hid (keyI HXB.out)
      obtain ⟨v0, hv0⟩ : ∃ v, rowAt R xb = v := ⟨_, rfl⟩
      have HRA := Lib.hid hv0
      obtain ⟨nb, hnb⟩ : ∃ x, (cnt (L.take k) xb).length = x := ⟨_, rfl⟩
      have HNB := Lib.hid hnb
      have hnb2 : nb ≤ k := by have := cnt_le (L.take k) xb; rw [List.length_take, hnb] at this; omega
      have HBD := Lib.hid (show (nb + 1) * 80 ≤ 140737488355328 by omega)
      have HV0 := Lib.hid (show (f (iV xb)).getD (.slice none 0 0) = v0 by rw [HGR.out.fr]; exact hv0)
      have HOW := Lib.hid (fun (W : World) (h : RowsOk W R (cnt (L.take k))) => show Own W tOp 8 v0 nb (eOp.fl (cnt (L.take k) xb)) by rw [← hv0, ← hnb]; exact h.at HGR.out xb)
      have HQ := Lib.hid (show q < maxLen by unfold maxLen; omega)
      clear hv0 hnb
      go_upto_region 8 with (go_at_call 25; refine (never_any ⟨xo, xb, xd, xf, xt, true, xe, xr⟩ _).mono ?_; rw [HNV.out]; rintro e w7 ⟨rfl, hB⟩; have HT := Lib.hid (HT.out.step hB); clear hB)
      clear z0 z1 z2 z3 z4 z5 z6 z7
      have HT := Lib.hid HT.out.drew
      refine wp_region_L (fun w' => Blk w' g6 #[.int .i64 xo, .int .i64 xb, .string xd, .int .i64 xf, .int .i64 xt, .bool true, .int .i64 xe, .string xr] tOp ∧ w'.cell? ⟨g6, 1, none⟩ = some (.int .i64 xb)) 12 (by kernel_rfl) (HP3.out _ _ _ HT.out) (fun hHeld => ?_)
      refine reg_take (i := 0) (d := 33) (v := ?_) [] rfl rfl (by kernel_rfl) (by kernel_rfl) (fun _ _ _ h => h) (Or.inl ⟨by rfl, ?_⟩) (by assumption) ?_
      rotate_left
      · (intro w hSw; (try dsimp only at hSw); go_simp; first | done | with_reducible rfl)
      try simp only [List.setIfInBounds_toArray, List.set_cons_zero, List.set_cons_succ]
      refine reg_take (i := 1) (d := 34) (v := ?_) [] rfl rfl (by kernel_rfl) (by kernel_rfl) (fun _ _ _ h => h) (Or.inl ⟨by rfl, ?_⟩) (by assumption) ?_
      rotate_left
      · (intro w hSw; (try dsimp only at hSw); go_simp; first | done | with_reducible rfl)
      try simp only [List.setIfInBounds_toArray, List.set_cons_zero, List.set_cons_succ]
      refine reg_take (i := 2) (d := 35) (v := ?_) [] rfl rfl (by kernel_rfl) (by kernel_rfl) (fun _ _ _ h => h) (Or.inl ⟨by rfl, ?_⟩) (by assumption) ?_
      rotate_left
      · (intro w hSw; (try dsimp only at hSw); go_simp; first | done | with_reducible rfl)
      try simp only [List.setIfInBounds_toArray, List.set_cons_zero, List.set_cons_succ]
      refine reg_take (i := 3) (d := 36) (v := ?_) [] rfl rfl (by kernel_rfl) (by kernel_rfl) (fun _ _ _ h => h) (Or.inl ⟨by rfl, ?_⟩) (by assumption) ?_
      rotate_left
      · (intro w hSw; (try dsimp only at hSw); go_simp; first | done | with_reducible rfl)
      try simp only [List.setIfInBounds_toArray, List.set_cons_zero, List.set_cons_succ]
      refine reg_take (i := 4) (d := 37) (v := ?_) [] rfl rfl (by kernel_rfl) (by kernel_rfl) (fun _ _ _ h => h) (Or.inl ⟨by rfl, ?_⟩) (by assumption) ?_
      rotate_left
      · (intro w hSw; (try dsimp only at hSw); go_simp; first | done | with_reducible rfl)
      try simp only [List.setIfInBounds_toArray, List.set_cons_zero, List.set_cons_succ]
      refine reg_take (i := 5) (d := 38) (v := ?_) [] rfl rfl (by kernel_rfl) (by kernel_rfl) (fun _ _ _ h => h) (Or.inl ⟨by rfl, ?_⟩) (by assumption) ?_
      rotate_left
      · (intro w hSw; (try dsimp only at hSw); go_simp; first | done | with_reducible rfl)
      try simp only [List.setIfInBounds_toArray, List.set_cons_zero, List.set_cons_succ]
      refine reg_take (i := 6) (d := 39) (v := ?_) [] rfl rfl (by kernel_rfl) (by kernel_rfl) (fun _ _ _ h => h) (Or.inl ⟨by rfl, ?_⟩) (by assumption) ?_
      rotate_left
      · (intro w hSw; (try dsimp only at hSw); go_simp; first | done | with_reducible rfl)
      try simp only [List.setIfInBounds_toArray, List.set_cons_zero, List.set_cons_succ]
      refine reg_take (i := 7) (d := 40) (v := ?_) [] rfl rfl (by kernel_rfl) (by kernel_rfl) (fun _ _ _ h => h) (Or.inl ⟨by rfl, ?_⟩) (by assumption) ?_
      rotate_left
      · (intro w hSw; (try dsimp only at hSw); go_simp; first | done | with_reducible rfl)
      try simp only [List.setIfInBounds_toArray, List.set_cons_zero, List.set_cons_succ]
      refine reg_take (i := 9) (d := 42) (v := .agg #[.int .i64 xo, .int .i64 xb, .string xd, .int .i64 xf, .int .i64 xt, .bool true, .int .i64 xe, .string xr]) [] rfl rfl (by kernel_rfl) (by kernel_rfl) (fun _ _ _ h => h) (yields_row _ (by rfl) (.tmp 6) rfl rfl (fun w h => h.1) Try.underlying44 rfl infoOp) (by assumption) ?_
      try simp only [List.setIfInBounds_toArray, List.set_cons_zero, List.set_cons_succ]
      refine wpAnyL_ready (rs := [8, 10]) (by kernel_rfl) rfl ?_
      refine (AllL.cons rfl (fun K hK => ?_) (AllL.cons rfl (fun K hK => ?_) AllL.nil))
      · refine stepv_look (HT.out.hd) lawI Try.underlying53 rfl (.tmp 37) (.tmp 40) rfl (zeroSl _) (iV xb) HKEY.out rfl rfl v0 HV0.out ?_
        refine hK.out _ _ (HP3.out _ _ _ HT.out) (fun hHeld => ?_)
        try simp only [List.setIfInBounds_toArray, List.set_cons_zero, List.set_cons_succ]
        refine wpAnyL_ready (rs := [10]) (by kernel_rfl) rfl ?_
        refine (AllL.cons rfl (fun K hK => ?_) AllL.nil)
        go_simp
        have HT := Lib.hid ((HT.out.newBlk #[.int .i64 xo, .int .i64 xb, .string xd, .int .i64 xf, .int .i64 xt, .bool true, .int .i64 xe, .string xr] tOp (g := w7.heap.size) (by simp)).sw)
        refine hK.out _ _ (HP4.out _ _ _ _ HT.out) (fun hHeld => ?_)
        try simp only [List.setIfInBounds_toArray, List.set_cons_zero, List.set_cons_succ]
        refine wpAnyL_ready (rs := [11]) (by kernel_rfl) rfl ?_
        refine (AllL.cons rfl (fun K hK => ?_) AllL.nil)
        refine stepA 22 tOp (.agg #[.int .i64 0, .int .i64 0, .string ByteArray.empty, .int .i64 0, .int .i64 0, .bool false, .int .i64 0, .string ByteArray.empty]) 8 80 (LOp.cells ⟨xo, xb, xd, xf, xt, true, xe, xr⟩) 1 (HOW.out _ HT.out.h3) HBD.out Try.underlying22 Try.infoO rfl (by decide) (by decide) rfl (eOp.one ⟨xo, xb, xd, xf, xt, true, xe, xr⟩) (some ⟨w7.heap.size, 0, none⟩) 1 (show Blk _ w7.heap.size #[.int .i64 xo, .int .i64 xb, .string xd, .int .i64 xf, .int .i64 xt, .bool true, .int .i64 xe, .string xr] tOp from HT.out.h2).rd (fun e => nomatch e) (.tmp 41) (.tmp 43) rfl rfl rfl rfl ?_
        intro v1 w1 ho1 hg1 hat1
        have HT := Lib.hid ((HT.out.r3.rowsApp xb (ys := cnt (L.take k) xb ++ [⟨xo, xb, xd, xf, xt, true, xe, xr⟩]) (n := nb + 1) (by rw [List.length_append, HNB.out]; rfl) (by rw [Enc.snoc]; exact ho1) (by rw [HRA.out]; exact hg1) (by rw [HRA.out]; exact hat1)).r3')
        clear ho1 hg1 hat1
        refine hK.out _ _ (HP4.out _ _ _ _ HT.out) (fun hHeld => ?_)
        try simp only [List.setIfInBounds_toArray, List.set_cons_zero, List.set_cons_succ]
        refine wpAnyL_ready (rs := [12]) (by kernel_rfl) rfl ?_
        refine (AllL.consJ rfl (by kernel_rfl) (fun K hK => ?_) AllL.nil)
        refine stepv_put (HT.out.hd) lawI Try.underlying53 rfl (.tmp 33) (.tmp 36) (.tmp 44) rfl HQ.out (iV xb) v1 HKEY.out rfl rfl rfl ?_
        intro w2 hm2 hu2
        have HT := Lib.hid (HT.out.mapPut hm2 hu2)
        clear hm2 hu2
        refine hK.out _ _ ?_
        try simp only [List.setIfInBounds_toArray, List.set_cons_zero, List.set_cons_succ]
        refine wpAnyL_done (by kernel_rfl) ?_ _
        go_wp2_with fail
        go_roundg (n - (k + 1))
        case measure => omega
        case rel =>
          have hs := HT.out.d2.d3
          rw [updG_cnt HX.out HNV.out] at hs
          exact ⟨k + 1, q + 1, _, _, by push_cast; rfl, by omega, rfl, by omega, HNG.out, by have := HGR.out.put HXB.out v1 (ys := cnt (L.take k) xb ++ [⟨xo, xb, xd, xf, xt, true, xe, xr⟩]) (by simp); rwa [updG_cnt HX.out HNV.out] at this, hs⟩
      · go_simp
        have HT := Lib.hid ((HT.out.newBlk #[.int .i64 xo, .int .i64 xb, .string xd, .int .i64 xf, .int .i64 xt, .bool true, .int .i64 xe, .string xr] tOp (g := w7.heap.size) (by simp)).sw)
        refine hK.out _ _ (HP4.out _ _ _ _ HT.out) (fun hHeld => ?_)
        try simp only [List.setIfInBounds_toArray, List.set_cons_zero, List.set_cons_succ]
        refine wpAnyL_ready (rs := [8]) (by kernel_rfl) rfl ?_
        refine (AllL.cons rfl (fun K hK => ?_) AllL.nil)
        refine stepv_look (HT.out.hd) lawI Try.underlying53 rfl (.tmp 37) (.tmp 40) rfl (zeroSl _) (iV xb) HKEY.out rfl rfl v0 HV0.out ?_
        refine hK.out _ _ (HP4.out _ _ _ _ HT.out) (fun hHeld => ?_)
        try simp only [List.setIfInBounds_toArray, List.set_cons_zero, List.set_cons_succ]
        refine wpAnyL_ready (rs := [11]) (by kernel_rfl) rfl ?_
        refine (AllL.cons rfl (fun K hK => ?_) AllL.nil)
        refine stepA 22 tOp (.agg #[.int .i64 0, .int .i64 0, .string ByteArray.empty, .int .i64 0, .int .i64 0, .bool false, .int .i64 0, .string ByteArray.empty]) 8 80 (LOp.cells ⟨xo, xb, xd, xf, xt, true, xe, xr⟩) 1 (HOW.out _ HT.out.h3) HBD.out Try.underlying22 Try.infoO rfl (by decide) (by decide) rfl (eOp.one ⟨xo, xb, xd, xf, xt, true, xe, xr⟩) (some ⟨w7.heap.size, 0, none⟩) 1 (show Blk _ w7.heap.size #[.int .i64 xo, .int .i64 xb, .string xd, .int .i64 xf, .int .i64 xt, .bool true, .int .i64 xe, .string xr] tOp from HT.out.h2).rd (fun e => nomatch e) (.tmp 41) (.tmp 43) rfl rfl rfl rfl ?_
        intro v1 w1 ho1 hg1 hat1
        have HT := Lib.hid ((HT.out.r3.rowsApp xb (ys := cnt (L.take k) xb ++ [⟨xo, xb, xd, xf, xt, true, xe, xr⟩]) (n := nb + 1) (by rw [List.length_append, HNB.out]; rfl) (by rw [Enc.snoc]; exact ho1) (by rw [HRA.out]; exact hg1) (by rw [HRA.out]; exact hat1)).r3')
        clear ho1 hg1 hat1
        refine hK.out _ _ (HP4.out _ _ _ _ HT.out) (fun hHeld => ?_)
        try simp only [List.setIfInBounds_toArray, List.set_cons_zero, List.set_cons_succ]
        refine wpAnyL_ready (rs := [12]) (by kernel_rfl) rfl ?_
        refine (AllL.consJ rfl (by kernel_rfl) (fun K hK => ?_) AllL.nil)
        refine stepv_put (HT.out.hd) lawI Try.underlying53 rfl (.tmp 33) (.tmp 36) (.tmp 44) rfl HQ.out (iV xb) v1 HKEY.out rfl rfl rfl ?_
        intro w2 hm2 hu2
        have HT := Lib.hid (HT.out.mapPut hm2 hu2)
        clear hm2 hu2
        refine hK.out _ _ ?_
        try simp only [List.setIfInBounds_toArray, List.set_cons_zero, List.set_cons_succ]
        refine wpAnyL_done (by kernel_rfl) ?_ _
        go_wp2_with fail
        go_roundg (n - (k + 1))
        case measure => omega
        case rel =>
          have hs := HT.out.d2.d3
          rw [updG_cnt HX.out HNV.out] at hs
          exact ⟨k + 1, q + 1, _, _, by push_cast; rfl, by omega, rfl, by omega, HNG.out, by have := HGR.out.put HXB.out v1 (ys := cnt (L.take k) xb ++ [⟨xo, xb, xd, xf, xt, true, xe, xr⟩]) (by simp); rwa [updG_cnt HX.out HNV.out] at this, hs⟩
    · have HCS := Lib.hid (cnt_skip HX.out HNV.out)
      go_wp2_with (go_at_call 25; refine (never_any ⟨xo, xb, xd, xf, xt, true, xe, xr⟩ _).mono ?_; rw [HNV.out]; rintro e w7 ⟨rfl, hB⟩; have HT := Lib.hid (HT.out.step hB); clear hB)
      go_roundg (n - (k + 1))
      case measure => omega
      case rel =>
        refine ⟨k + 1, q, f, R, by push_cast; rfl, by omega, rfl, by omega, HNG.out, ?_, ?_⟩
        · rw [HCS.out]; exact HGR.out
        · rw [HCS.out]; exact HT.out.d3
end Go.Proofs.Ytkajkomljgdghaa
