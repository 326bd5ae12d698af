/- The walks of lin.Wrong and lin.Check. Condition: at most 100 ops, which may lie in memory. -/
import Derived.Test.YtkajkomljgdghaaLinP
set_option linter.unusedVariables false
set_option linter.unusedSimpArgs false
namespace Go.Proofs.Ytkajkomljgdghaa
open Go.RowKit Go.Maps
def mn : List Int → Int
  | [] => 0
  | x :: l => l.foldl min x
theorem mn_snoc {l : List Int} (h : l ≠ []) (z : Int) : mn (l ++ [z]) = min (mn l) z := by
  cases l with
  | nil => exact absurd rfl h
  | cons x l => simp [mn, List.foldl_append]
theorem foldl_min : ∀ (l : List Int) (x : Int), (l.foldl min x ∈ x :: l) ∧ ∀ y ∈ x :: l, l.foldl min x ≤ y
  | [], x => ⟨by simp, fun y hy => by simp at hy; simp [hy]⟩
  | z :: l, x => by
    obtain ⟨h1, h2⟩ := foldl_min l (min x z)
    simp only [List.foldl_cons]
    constructor
    · rcases List.mem_cons.1 h1 with h | h
      · rw [h]
        rcases Int.le_total x z with hz | hz
        · rw [Int.min_eq_left hz]; simp
        · rw [Int.min_eq_right hz]; simp
      · simp [h]
    · intro y hy
      have h3 := h2 (min x z) (by simp)
      rcases List.mem_cons.1 hy with rfl | hy
      · exact Int.le_trans h3 (Int.min_le_left _ _)
      · rcases List.mem_cons.1 hy with rfl | hy
        · exact Int.le_trans h3 (Int.min_le_right _ _)
        · exact h2 y (List.mem_cons_of_mem _ hy)
theorem mn_spec {l : List Int} (h : l ≠ []) : mn l ∈ l ∧ ∀ y ∈ l, mn l ≤ y := by
  cases l with
  | nil => exact absurd rfl h
  | cons x l => exact foldl_min l x
theorem Rd.int {w : World} {A : Option Addr} {l : List Int} (h : Rd w A (eI64.fl l)) (k : Nat) (x : Int) (hx : l[k]? = some x) :
    ∃ b o, A = some ⟨b, o, none⟩ ∧ w.cell? ⟨b, o + k, none⟩ = some (.int .i64 x) := by
  obtain ⟨hk, rfl⟩ := List.getElem?_eq_some_iff.1 hx
  obtain ⟨b, o, e, hc⟩ := h.elem k hk (by decide)
  refine ⟨b, o, e, ?_⟩
  have := hc 0 _ rfl
  simpa [eI64] using this
set_option maxRecDepth 100000 in
theorem min_any (zs : List Int) (A : Option Addr) (n c : Nat) (w : World) (hl : zs.length = n) (h0 : 0 < n) (hn : n ≤ 140737488355328) (hr : Rd w A (eI64.fl zs)) :
    Calls Try.prog 22 #[.slice A n c] w fun e w' => e = .returned (.int .i64 (mn zs)) ∧ w' = w := by
  obtain ⟨z, hz⟩ : ∃ z, zs[0]? = some z := ⟨_, List.getElem?_eq_getElem (by omega)⟩
  obtain ⟨gb, go, rfl, h1⟩ := hr.int 0 z hz
  have HL := Lib.hid hl; have HR := Lib.hid hr
  have h1 : w.cell? ⟨gb, go, none⟩ = some (.int .i64 z) := h1
  have HZ := Lib.hid (show mn (zs.take 1) = z by
    rw [show zs.take 1 = [z] by
      cases zs with
      | nil => cases hz
      | cons x l => simp at hz; simp [hz]]
    rfl)
  have j1 : ¬ (n : Int) < 1 := by omega
  have j2 : decide ((n : Int) < 1) = false := decide_eq_false j1
  have j3 : (0 : Int) < (n : Int) := by omega
  clear hl hr hz
  go_enter Try.func22, Try.ntmps22
  go_wp2_with fail
  go_loopg [3, 4] n (fun gk s3 s4 wr => ∃ (k : Nat), s3 = .int .i64 (mn (zs.take k)) ∧ s4 = .int .i64 (k : Int) ∧ 1 ≤ k ∧ k ≤ n ∧ gk = n - k + 1 ∧ wr = w)
  case atStart => exact ⟨1, by rw [HZ.out], rfl, by omega, by omega, by omega, rfl⟩
  case round =>
  obtain ⟨k, rfl, rfl, hk1, hk, hgk, hw⟩ := hrel
  rw [hw]
  clear hw
  by_cases hkn : k < n
  · have j4 : (k : Int) < (n : Int) := by omega
    have j5 : decide ((k : Int) < (n : Int)) = true := decide_eq_true j4
    have j6 : (0 : Int) ≤ (k : Int) := by omega
    have hwk : IntKind.i64.wrap ((k : Int) + 1) = (k : Int) + 1 := IntWalk.i64_in _ (by omega)
    have HX := Lib.hid (List.getElem?_eq_getElem (l := zs) (i := k) (by rw [HL.out]; exact hkn))
    generalize zs[k]'(by rw [HL.out]; exact hkn) = x at *
    obtain ⟨gb', go', hA, h2⟩ := HR.out.int k x HX.out
    simp only [Option.some.injEq, Addr.mk.injEq, and_true] at hA
    obtain ⟨rfl, rfl⟩ := hA
    have HM := Lib.hid (show mn (zs.take (k + 1)) = min (mn (zs.take k)) x by
      rw [show zs.take (k + 1) = zs.take k ++ [x] by rw [List.take_add_one, HX.out]; rfl]
      exact mn_snoc (by intro e; have := congrArg List.length e; rw [List.length_take, HL.out] at this; simp at this; omega) x)
    generalize mn (zs.take k) = m at *
    go_wp2_with fail
    all_goals (
      go_roundg (n - (k + 1) + 1)
      case measure => omega
      case rel => exact ⟨k + 1, by rw [HM.out]; first | rw [Int.min_eq_right (by omega)] | rw [Int.min_eq_left (by omega)], by push_cast; rfl, by omega, by omega, rfl, rfl⟩)
  · have j4 : ¬ (k : Int) < (n : Int) := by omega
    have j5 : decide ((k : Int) < (n : Int)) = false := decide_eq_false j4
    have hkn : zs.take k = zs := by rw [show k = zs.length by rw [HL.out]; omega, List.take_length]
    have HK := Lib.hid hkn
    clear hkn
    go_wp2_with fail
    go_ret
    exact ⟨by rw [HK.out]; rfl, rfl⟩
theorem Try.infoI : (Try.prog.info? tIn).map (fun i => (i.zero, i.size, i.bytes)) = some (some (.int .i64 0), 1, 8) := by kernel_rfl
theorem one_i (x : Int) : ∀ u ∈ [iV x], u.oneCell' = true := by
  intro u hu
  simp only [List.mem_singleton] at hu
  subst hu; rfl
/-- What Wrong tells, out of the blocks that aren't right. -/
theorem wrong_of {L : List LOp} (he : errs L = 0) {bs : List Int} (h : ∀ b, b ∈ bs ↔ rightB L b = false) : wrong L = if bs = [] then (0, false) else (mn bs, true) := by
  unfold wrong
  rw [if_pos he]
  refine (lows_is (rightB L) _).one (m := L.map (·.blk)) ?_ (fun b _ => Iff.rfl)
  split
  · rename_i hb
    refine .inl ⟨rfl, fun b _ => ?_⟩
    cases e : rightB L b with
    | true => rfl
    | false => have := (h b).2 e; rw [hb] at this; cases this
  · rename_i hb
    obtain ⟨h1, h2⟩ := mn_spec hb
    have h3 := (h _).1 h1
    exact .inr ⟨rfl, right_mem h3, h3, fun b _ hr => h2 b ((h b).2 hr)⟩
set_option maxRecDepth 100000 in
set_option maxHeartbeats 8000000 in
theorem wrong_any (L : List LOp) (A : Option Addr) (n c : Nat) (hl : L.length = n) (hn : n ≤ 100) (hok : ∀ o ∈ L, o.ok) {w W : World} {l : List Th} (hrd : ∀ W', Sep w W' l → Rd W' A (eOp.fl L)) (hs : Sep w W l) :
    Calls Try.prog 16 #[.slice A n c] W fun e W' => e = .returned (.tuple #[.int .i64 (wrong L).1, .bool (wrong L).2]) ∧ Sep w W' l := by
  have HL := Lib.hid hl
  have HOK := Lib.hid hok
  have HP := Lib.hid (parts_any L A n c hl hn hok hrd hs)
  clear hl hok hrd hs
  go_enter Try.func16, Try.ntmps16
  go_wp2_with fail
  refine HP.out.mono ?_
  rintro e w1 (⟨he, rfl, hs⟩ | ⟨he, bm, q, f, R, rfl, hgr, hq, hs⟩)
  · as_aux_lemma =>
      have HW := Lib.hid (show wrong L = (0, false) by unfold wrong; rw [if_neg he])
      have g1 : (errs L != 0) = true := bne_iff_ne.2 he
      clear he
      generalize errs L = ee at *
      go_wp2_with fail
      go_returns
      exact ⟨by rw [HW.out]; rfl, hs⟩
  have HE := Lib.hid he
  have HGR := Lib.hid hgr
  have HT := Lib.hid hs
  rw [HL.out] at hq
  clear he hgr hs
  go_upto_region 5 with fail
  refine wp_region_lit (l := [_, _]) ?_
  refine wpList_plain rfl fun _ hK => ?_
  go_simp
  refine hK _ _ ?_
  refine mapv_range (HT.out.hd) lawI Try.underlying53 rfl (.tmp 17) rfl (g := _) rfl rfl ?_
  intro w7 cn hr hcq hb
  have HT := Lib.hid (((HT.out.mapRange hr rfl hb).new (t := tOwn tIn 1 (.slice none 0 0) 0 []) (Below.refl _ _) (Own.nil _ _ _) (fun k hk => by cases hk)).r3')
  clear hr hb
  generalize w1.heap.size = bi at *
  go_frame
  go_wp2_with fail
  have hmm := @run_makeMap Try.prog
  go_loopg [6] cn (fun gk s6 wr => ∃ (todo : Value → Bool) (bs : List Int) (Ab : Option Addr) (nb cb : Nat), s6 = .slice Ab nb cb ∧ bs.length = nb ∧ nb + gk ≤ q ∧ (∀ b, b ∈ bs ↔ (f (iV b) ≠ none ∧ todo (iV b) = false ∧ rightB L b = false)) ∧ Sep w wr (tRangeV tIn bm bi q f todo gk :: tRows R (cnt L) :: tOwn tIn 1 (.slice Ab nb cb) nb (eI64.fl bs) :: l))
  case atStart => exact ⟨_, [], none, 0, 0, rfl, rfl, by omega, fun b => ⟨fun h => (by cases h), fun h => (by
    cases hf : f (iV b) with
    | none => exact absurd hf h.1
    | some v => have := h.2.1; simp [hf] at this)⟩, HT.out⟩
  case round =>
  clear HT
  obtain ⟨todo, bs, Ab, nb, cb, rfl, hbl, hnq, hbs, hs⟩ := hrel
  have HT := Lib.hid hs
  have HBS := Lib.hid hbs
  have HBL := Lib.hid hbl
  clear hs hbs hbl
  go_upto_region 6 with fail
  refine wp_region_lit (l := [_, _]) ?_
  refine mapv_next (HT.out.hd) lawI rfl (.tmp 18) rfl rfl ?_ ?_
  · intro hdone
    as_aux_lemma =>
      have HBS2 := Lib.hid (show ∀ b, b ∈ bs ↔ rightB L b = false from fun b => by
        rw [HBS.out]
        constructor
        · exact fun h => h.2.2
        · intro h
          have h1 : cnt L b ≠ [] := by
            intro e
            unfold rightB at h
            rw [e, ord_nil] at h; cases h
          have h2 : R b ≠ none := fun e => h1 ((HGR.out.rn b).1 e)
          have h3 : f (iV b) ≠ none := by rw [HGR.out.fr]; exact h2
          obtain ⟨b', hb', e⟩ := HGR.out.fk (iV b) h3
          have e : b = b' := by injection e
          subst e
          exact ⟨h3, hdone _ (keyI hb'), h⟩)
      clear hdone
      have HW := Lib.hid (wrong_of HE.out HBS2.out)
      have HO := Lib.hid (show Own wr tIn 1 (.slice Ab nb cb) nb (eI64.fl bs) from HT.out.h3)
      have HF := Lib.hid HT.out.tail.tail.tail
      by_cases h0 : nb = 0
      · subst h0
        have e0 : bs = [] := List.eq_nil_of_length_eq_zero HBL.out
        have HW2 := Lib.hid (show wrong L = (0, false) by rw [HW.out, if_pos e0])
        go_wp2_with fail
        go_returns
        exact ⟨by rw [HW2.out]; rfl, HF.out⟩
      · have e0 : bs ≠ [] := fun e => h0 (by rw [← HBL.out, e]; rfl)
        have HW2 := Lib.hid (show wrong L = (mn bs, true) by rw [HW.out, if_neg e0])
        have g1 : ((nb : Int) == 0) = false := by simp; omega
        have g2 : ¬ (nb : Int) = 0 := by omega
        clear e0
        go_wp2_with (go_at_call 22; refine (min_any bs Ab nb cb _ HBL.out (by omega) (by omega) HO.out.rd).mono ?_; rintro e w9 ⟨rfl, hw⟩; rw [hw]; clear hw)
        go_returns
        exact ⟨by rw [HW2.out]; rfl, HF.out⟩
  · intro key v w8 cnt' hkey htodo hf hat hlt hu
    obtain ⟨b, hb, rfl⟩ := HGR.out.fk key (by rw [hf]; simp)
    have hRb : R b = some v := by rw [← HGR.out.fr]; exact hf
    have HT := Lib.hid (HT.out.rangeNext hat.1 hu)
    obtain ⟨Ar, cr, hv, _⟩ := ((show RowsOk w8 R (cnt L) from HT.out.h2).own b v hRb).form
    subst hv
    have hen := hat.2
    obtain ⟨nr, hnr⟩ : ∃ x, (cnt L b).length = x := ⟨_, rfl⟩
    have HNR := Lib.hid hnr
    have hnr9 : nr ≤ 9 := by rw [← hnr]; exact (errs_zero.1 HE.out).2 b
    rw [hnr] at hen hRb
    have HRB := Lib.hid hRb
    have HF := Lib.hid (And.intro hf htodo)
    have HUP := Lib.hid hlt
    clear hat hf htodo hkey hu hRb hnr
    obtain ⟨bx, hbx⟩ : ∃ g, w8.heap.size = g := ⟨_, rfl⟩
    have HT := Lib.hid ((HT.out.newMap tPt hbx).newBlk #[.slice Ar nr cr, .map (some bx)] tSe (g := bx + 1) (by simp [hbx]))
    have HBX := Lib.hid hbx
    clear hbx
    go_upto_region 9 with fail
    rw [HBX.out]
    have HDA := Lib.hid (show ∀ o ∈ cnt L b, o.data.size ≤ 140737488351232 from fun o ho => (HOK.out o (List.mem_filter.1 ho).1).data)
    have HRX : Hid (∀ W', (∀ t ∈ tRangeV tIn bm bi q f (strikeV todo (iV b)) cnt' :: tRows R (cnt L) :: tOwn tIn 1 (.slice Ab nb cb) nb (eI64.fl bs) :: l, t.ok W') → Rd W' Ar (eOp.fl (cnt L b))) := Lib.hid (fun W' h => by
      have h1 := (show RowsOk W' R (cnt L) from h _ (List.mem_cons_of_mem _ (List.mem_cons_self ..))).own b _ HRB.out
      rw [HNR.out] at h1
      exact h1.rd)
    obtain ⟨rb, hrb⟩ : ∃ r, rightB L b = r := ⟨_, rfl⟩
    have HRES := Lib.hid hrb
    have HBD := Lib.hid (show (nb + 1) * 8 ≤ 140737488355328 by omega)
    clear hrb
    cases rb
    · go_wp2_with (first | (go_at_call 21; refine (from_top (cnt L b) Ar nr cr (bx + 1) bx HNR.out hnr9 HDA.out HRX.out HT.out).mono ?_; rw [show ord (cnt L b) none8 = rightB L b from rfl, HRES.out]; rintro e w10 ⟨rfl, hS⟩; have HT := Lib.hid hS; clear hS) | (at_builtin; refine app1O 56 tIn (.int .i64 0) 1 8 [iV b] (show Own w10 tIn 1 (.slice Ab nb cb) nb (eI64.fl bs) from HT.out.h3) HBD.out Try.underlying56 Try.infoI rfl (by decide) (by decide) rfl (one_i b) (.tmp 32) (.tmp 34) rfl rfl rfl rfl ?_; intro v1 w11 ho1 hg1 hat1; obtain ⟨A1, c1, rfl, _⟩ := ho1.form; have HT := Lib.hid ((HT.out.r3.appG ho1 hg1 hat1).r3'); clear ho1 hg1 hat1))
      go_roundg cnt'
      case measure => exact hlt
      case rel =>
        refine ⟨strikeV todo (iV b), bs ++ [b], A1, nb + 1, c1, rfl, by rw [List.length_append, HBL.out]; rfl, by omega, fun b' => ?_, ?_⟩
        · rw [List.mem_append, HBS.out b']
          by_cases e : b' = b
          · subst e
            rw [strikeV_same]
            exact ⟨fun _ => ⟨by rw [HF.out.1]; simp, rfl, HRES.out⟩, fun _ => .inr (by simp)⟩
          · rw [strikeV_other _ (fun h => e (by injection h))]
            constructor
            · rintro (h | h)
              · exact h
              · exact absurd (by simpa using h) e
            · exact fun h => .inl h
        · rw [Enc.snoc]; exact HT.out
    · go_wp2_with (go_at_call 21; refine (from_top (cnt L b) Ar nr cr (bx + 1) bx HNR.out hnr9 HDA.out HRX.out HT.out).mono ?_; rw [show ord (cnt L b) none8 = rightB L b from rfl, HRES.out]; rintro e w10 ⟨rfl, hS⟩; have HT := Lib.hid hS; clear hS)
      go_roundg cnt'
      case measure => exact hlt
      case rel =>
        refine ⟨strikeV todo (iV b), bs, Ab, nb, cb, rfl, HBL.out, by omega, fun b' => ?_, HT.out⟩
        rw [HBS.out b']
        by_cases e : b' = b
        · subst e
          rw [HRES.out]
          exact ⟨fun h => (by cases h.2.2), fun h => (by cases h.2.2)⟩
        · rw [strikeV_other _ (fun h => e (by injection h))]
set_option maxRecDepth 100000 in
set_option maxHeartbeats 4000000 in
theorem check_any (L : List LOp) (A : Option Addr) (n c : Nat) (hl : L.length = n) (hn : n ≤ 100) (hok : ∀ o ∈ L, o.ok) {w W : World} {l : List Th} (hrd : ∀ W', Sep w W' l → Rd W' A (eOp.fl L)) (hs : Sep w W l) :
    Calls Try.prog 15 #[.slice A n c] W fun e W' => e = .returned (.tuple #[.bool (chkB L), .int .i64 (errs L)]) ∧ Sep w W' l := by
  have HP := Lib.hid (parts_any L A n c hl hn hok hrd hs)
  have HWR := Lib.hid (fun (W' : World) (h : Sep w W' l) => wrong_any L A n c hl hn hok hrd h)
  clear hl hok hrd hs
  go_enter Try.func15, Try.ntmps15
  go_wp2_with fail
  refine HP.out.mono ?_
  rintro e w1 (⟨he, rfl, hs⟩ | ⟨he, bm, q, f, R, rfl, hgr, hq, hs⟩)
  · have HC := Lib.hid (show chkB L = false by unfold chkB; rw [decide_eq_false he]; rfl)
    have g1 : (errs L != 0) = true := bne_iff_ne.2 he
    have HS := Lib.hid hs
    clear hs he
    go_wp2_with fail
    go_returns
    exact ⟨by rw [HC.out]; rfl, HS.out⟩
  · have HC := Lib.hid (show chkB L = !(wrong L).2 by unfold chkB; rw [he]; rfl)
    have HE := Lib.hid he
    have HS := Lib.hid hs.tail.tail
    clear hs he hgr hq
    go_wp2_with (go_at_call 16; refine (HWR.out _ HS.out).mono ?_; rintro e w2 ⟨rfl, hS⟩; have HS2 := Lib.hid hS; clear hS)
    go_returns
    exact ⟨by rw [HC.out, HE.out]; rfl, HS2.out⟩
end Go.Proofs.Ytkajkomljgdghaa
