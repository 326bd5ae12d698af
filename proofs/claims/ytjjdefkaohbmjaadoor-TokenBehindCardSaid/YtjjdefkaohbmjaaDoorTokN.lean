/- The walks of Number and same. Condition: a text of a size that a machine has. -/
import Derived.Test.YtjjdefkaohbmjaaDoorTokP
set_option linter.unusedVariables false
set_option linter.unusedSimpArgs false
namespace Go.Proofs.YtjjdefkaohbmjaaDoor
open Go.RowKit Go.Lib
theorem valF_lt : ∀ (l : Bs) (n : Nat), (∀ c ∈ l, digB c = true) → valF n l < (n + 1) * 10 ^ l.length
  | [], n, _ => by simp [valF]
  | c :: l, n, h => by
    have ih := valF_lt l (10 * n + (c.toNat - 48)) (fun d hd => h d (List.mem_cons_of_mem _ hd))
    have hc := h c (List.mem_cons_self ..)
    simp only [digB, Bool.and_eq_true, decide_eq_true_eq] at hc
    have e : (10 * n + (c.toNat - 48) + 1) ≤ (n + 1) * 10 := by omega
    have h2 := Nat.mul_le_mul_right (10 ^ l.length) e
    rw [List.length_cons, Nat.pow_succ]
    show valF (10 * n + (c.toNat - 48)) l < _
    have e3 : (n + 1) * (10 ^ l.length * 10) = (n + 1) * 10 * 10 ^ l.length := by rw [Nat.mul_comm (10 ^ l.length) 10, Nat.mul_assoc]
    omega
theorem valF_snoc (n : Nat) (l : Bs) (c : UInt8) : valF n (l ++ [c]) = 10 * valF n l + (c.toNat - 48) := by unfold valF; rw [List.foldl_append]; rfl
theorem p19 : ∀ k, k ≤ 19 → 10 ^ k ≤ 10000000000000000000 := by decide
set_option maxHeartbeats 8000000 in
set_option maxRecDepth 1000000 in
theorem Number_any (s : ByteArray) (w : World) :
    Calls Tryd.prog 16 #[.string s] w fun e w' => e = .returned (.tuple #[.int .i64 (number s.data.toList).1, .int .i64 (number s.data.toList).2]) ∧ Below w.heap.size w w' := by
  obtain ⟨L, hL⟩ : ∃ L, s.data.toList = L := ⟨_, rfl⟩
  have HL := Lib.hid hL
  have HTP := Lib.hid (fun w => Tryd.strings_TrimPrefix s ⟨#[45]⟩ w)
  rw [hL] at HTP ⊢
  clear hL
  have HNU := Lib.hid (show number L = if trimPrefix L [45] = [] ∨ 19 < (trimPrefix L [45]).length then (0, 4) else if (trimPrefix L [45]).head? = some 48 ∧ L ≠ [48] then (0, 4) else if (trimPrefix L [45]).all digB = false then (0, 4) else if 4611686018427387904 < valF 0 (trimPrefix L [45]) then (0, 4) else if trimPrefix L [45] ≠ L then (-(valF 0 (trimPrefix L [45]) : Int), 0) else ((valF 0 (trimPrefix L [45]) : Int), 0) from rfl)
  have HTP : Hid (∀ (w : World), Calls Tryd.prog 28 #[.string s, .string ⟨#[45]⟩] w fun e w' => e = .returned (.string (ba (trimPrefix L [45]))) ∧ w' = w) := Lib.hid HTP.out
  generalize trimPrefix L [45] = T at *
  have HBL := Lib.hid (ba_list T)
  have HBS := Lib.hid (ba_size T)
  obtain ⟨t, ht⟩ : ∃ t, ba T = t := ⟨_, rfl⟩
  have HTT := Lib.hid ht
  rw [ht] at HBL HBS HTP
  clear ht
  have hts := HBS.out
  go_enter Tryd.func16, Tryd.ntmps16
  go_upto_region 2 with (go_at_call 28; refine (HTP.out _).mono ?_; rintro e w1 ⟨rfl, hw⟩; rw [hw]; clear hw)
  clear HTP
  by_cases h0 : T = []
  · as_aux_lemma =>
      have e1 : t.toList.isEmpty = true := no_empty (by rw [HBL.out]; exact h0)
      have HR := Lib.hid (show number L = (0, 4) by rw [HNU.out, if_pos (.inl h0)])
      clear h0
      go_wp2_with fail
      go_returns
      exact ⟨by rw [HR.out]; rfl, Below.refl _ _⟩
  have e1 : t.toList.isEmpty = false := is_empty (by rw [HBL.out]; exact h0)
  by_cases h19 : 19 < T.length
  · as_aux_lemma =>
      have e2 : decide ((19 : Int) < (t.size : Int)) = true := by simp; omega
      have HR := Lib.hid (show number L = (0, 4) by rw [HNU.out, if_pos (.inr h19)])
      clear h0 h19 hts
      go_wp2_with fail
      go_returns
      exact ⟨by rw [HR.out]; rfl, Below.refl _ _⟩
  have e2 : decide ((19 : Int) < (t.size : Int)) = false := by simp; omega
  have e3 : (t.size : Int) ≤ 19 := by omega
  have HNU := Lib.hid (HNU.out.trans (if_neg (fun h => h.elim h0 h19)))
  have hl1 := ne_len h0
  have hp0 : 0 < t.size := by omega
  have hp1 : (0 : Int) < (t.size : Int) := by omega
  obtain ⟨c, hc1, hc2⟩ := byte_at hp0
  rw [HBL.out] at hc2
  have hhd : T.head? = some c := by rw [List.head?_eq_getElem?]; exact hc2
  rw [hhd] at HNU
  clear hc2 hhd h0 hts h19 hl1
  by_cases hbad : c.toNat = 48 ∧ L ≠ [48]
  · as_aux_lemma =>
      have e4 : ((c.toNat : Int) == 48) = true := by rw [hbad.1]; rfl
      have e5 : (s.toList == [48]) = false := by rw [ByteArray.toList_eq, HL.out]; exact beq_eq_false_iff_ne.2 hbad.2
      have HR := Lib.hid (show number L = (0, 4) by rw [HNU.out, if_pos ⟨by rw [show c = 48 from UInt8.toNat_inj.1 hbad.1], hbad.2⟩])
      clear hbad
      go_wp2_with fail
      go_returns
      exact ⟨by rw [HR.out]; rfl, Below.refl _ _⟩
  have HNU := Lib.hid (HNU.out.trans (if_neg (fun h => hbad ⟨by have := h.1; simp at this; rw [this]; rfl, h.2⟩)))
  have e45 : (((c.toNat : Int) == 48) = false) ∨ (((c.toNat : Int) == 48) = true ∧ (s.toList == [48]) = true) := by
    by_cases h : c.toNat = 48
    · right
      refine ⟨by rw [h]; rfl, ?_⟩
      rw [ByteArray.toList_eq, HL.out]
      have : L = [48] := Classical.byContradiction fun h2 => hbad ⟨h, h2⟩
      rw [this]; rfl
    · left; simp; omega
  clear hbad
  rcases e45 with e4 | ⟨e4, e5⟩
  all_goals (
    go_wp2_with fail
    clear e4 hc1 hp1 hp0
    go_loopg [5] t.size (fun gk s5 wr => ∃ (pos : Nat), s5 = .int .u64 ((valF 0 (T.take pos) : Nat) : Int) ∧ gk + pos = t.size ∧ wr.heap[w.heap.size]? = some (.stringIter t pos) ∧ Below w.heap.size w wr ∧ ∀ c ∈ T.take pos, digB c = true)
    case atStart => exact ⟨0, rfl, by omega, World.iter_heap w t 0, (Below.refl _ w).alloc (Nat.le_refl _) _, by simp⟩
    case round =>
    obtain ⟨pos, rfl, hgk, hit, hbw, hdg⟩ := hrel
    have HBW := Lib.hid hbw
    have HDG := Lib.hid hdg
    clear hbw hdg
    by_cases hp : pos < t.size
    case neg =>
      as_aux_lemma =>
        have hnx : ∀ ty, (Instr.next (.pointer (some ⟨w.heap.size, 0, none⟩)) true ty).run Tryd.prog wr = _ := fun ty => Lib.run_next_end_at wr w.heap.size t pos ty hit hp
        have HTK := Lib.hid (show T.take pos = T from List.take_of_length_le (by rw [← HBS.out]; omega))
        have HALL := Lib.hid (show ∀ c ∈ T, digB c = true by have := HDG.out; rwa [HTK.out] at this)
        have HLT := Lib.hid (show valF 0 T < 10000000000000000000 by
          have h1 := valF_lt T 0 HALL.out
          have h2 := p19 T.length (by rw [← HBS.out]; omega)
          omega)
        have HNU := Lib.hid (HNU.out.trans (if_neg (by rw [Bool.not_eq_false]; exact List.all_eq_true.2 HALL.out)))
        rw [HTK.out]
        have hlt := HLT.out
        generalize valF 0 T = v at *
        by_cases hbig : 4611686018427387904 < v
        · have q1 : decide ((4611686018427387904 : Int) < (v : Int)) = true := by simp; omega
          have HR := Lib.hid (show number L = (0, 4) by rw [HNU.out, if_pos hbig])
          clear hbig hlt
          go_wp2_with fail
          go_returns
          exact ⟨by rw [HR.out]; rfl, HBW.out⟩
        · have q1 : decide ((4611686018427387904 : Int) < (v : Int)) = false := by simp; omega
          have HNU := Lib.hid (HNU.out.trans (if_neg hbig))
          have hw6 : wrap64 (v : Int) = (v : Int) := by unfold wrap64; omega
          have hw7 : wrap64 (-(v : Int)) = -(v : Int) := by unfold wrap64; omega
          by_cases hTL : T = L
          · have e6 : (t.toList == s.toList) = true := by rw [ByteArray.toList_eq, ByteArray.toList_eq, HL.out, HBL.out, hTL]; simp
            have HR := Lib.hid (show number L = ((v : Int), 0) by rw [HNU.out, if_neg (fun h => h hTL)])
            clear hTL hbig hlt
            go_wp2_with fail
            go_returns
            exact ⟨by rw [HR.out]; show Ending.returned (.tuple #[.int .i64 (wrap64 (v : Int)), .int .i64 0]) = .returned (.tuple #[.int .i64 (v : Int), .int .i64 0]); rw [hw6], HBW.out⟩
          · have e6 : (t.toList == s.toList) = false := by rw [ByteArray.toList_eq, ByteArray.toList_eq, HL.out, HBL.out]; exact beq_eq_false_iff_ne.2 hTL
            have HR := Lib.hid (show number L = (-(v : Int), 0) by rw [HNU.out, if_pos hTL])
            clear hTL hbig hlt
            go_wp2_with fail
            go_returns
            exact ⟨by rw [HR.out]; show Ending.returned (.tuple #[.int .i64 (wrap64 (-(v : Int))), .int .i64 0]) = .returned (.tuple #[.int .i64 (-(v : Int)), .int .i64 0]); rw [hw7], HBW.out⟩
    have hnx : ∀ ty, (Instr.next (.pointer (some ⟨w.heap.size, 0, none⟩)) true ty).run Tryd.prog wr = _ := fun ty => Lib.run_next_any_at wr w.heap.size t pos ty hit hp
    have hrd := ru_drop t pos
    rw [HBL.out] at hrd
    rw [hrd.1, hrd.2] at hnx
    have HIT := Lib.hid (Lib.iterAt_heap wr w.heap.size t pos (pos + wd (T.drop pos)) hit)
    have HBW2 := Lib.hid (Lib.below_iterAt HBW.out (k := w.heap.size) (Nat.le_refl _) t (pos + wd (T.drop pos)))
    obtain ⟨x, hx1, hx2⟩ := byte_at hp
    rw [HBL.out] at hx2
    have hTD : T.drop pos = x :: T.drop (pos + 1) := by
      have := List.getElem?_eq_some_iff.1 hx2
      obtain ⟨h1, h2⟩ := this
      rw [← h2]; exact (List.getElem_cons_drop h1).symm
    have HX := Lib.hid hx2
    clear hrd hx1 hx2 hit
    by_cases hd : digB x = true
    case neg =>
      as_aux_lemma =>
        have HR := Lib.hid (show number L = (0, 4) by
          rw [HNU.out, if_pos (by
            rw [← Bool.not_eq_true, List.all_eq_true]
            exact fun h => hd (h x (List.mem_of_getElem? HX.out)))])
        have hr : ru (T.drop pos) < 48 ∨ 57 < ru (T.drop pos) := by
          rw [hTD]
          by_cases hx : x.toNat < 128
          · unfold ru
            rw [dec_ascii _ hx]
            simp only [digB, Bool.and_eq_true, decide_eq_true_eq] at hd
            show x.toNat < 48 ∨ 57 < x.toNat
            omega
          · have := dec_high (T.drop (pos + 1)) hx
            unfold ru
            omega
        clear hd hTD
        generalize ru (T.drop pos) = r at *
        rcases hr with hr | hr
        · have e7 : decide ((r : Int) < 48) = true := by simp; omega
          clear hr
          go_wp2_with fail
          go_returns
          exact ⟨by rw [HR.out]; rfl, HBW2.out⟩
        · have e7 : decide ((r : Int) < 48) = false := by simp; omega
          have e8 : decide ((57 : Int) < (r : Int)) = true := by simp; omega
          clear hr
          go_wp2_with fail
          go_returns
          exact ⟨by rw [HR.out]; rfl, HBW2.out⟩
    have hd2 := hd
    simp only [digB, Bool.and_eq_true, decide_eq_true_eq] at hd2
    have hru : ru (T.drop pos) = x.toNat ∧ wd (T.drop pos) = 1 := by
      rw [hTD]
      unfold ru wd
      rw [dec_ascii _ (by omega)]
      exact ⟨rfl, rfl⟩
    rw [hru.1, hru.2] at hnx
    rw [hru.2] at HIT HBW2
    have HTK := Lib.hid (show T.take (pos + 1) = T.take pos ++ [x] by rw [List.take_add_one, HX.out]; rfl)
    have HDG2 := Lib.hid (show ∀ c ∈ T.take (pos + 1), digB c = true by
      rw [HTK.out]
      intro c hc
      rcases List.mem_append.1 hc with h | h
      · exact HDG.out c h
      · obtain rfl : c = x := by simpa using h
        exact hd)
    have HV2 := Lib.hid (show valF 0 (T.take (pos + 1)) = 10 * valF 0 (T.take pos) + (x.toNat - 48) by rw [HTK.out, valF_snoc])
    have hlt : valF 0 (T.take pos) < 1000000000000000000 := by
      have h1 := valF_lt (T.take pos) 0 HDG.out
      have h3 : (T.take pos).length ≤ 18 := by rw [List.length_take]; omega
      have h2 : ∀ k, k ≤ 18 → 10 ^ k ≤ 1000000000000000000 := by decide
      have := h2 _ h3
      omega
    clear hd hru hTD HTK
    generalize valF 0 (T.take pos) = v at *
    obtain ⟨y, hy⟩ : ∃ y, x.toNat - 48 = y := ⟨_, rfl⟩
    have hxy : x.toNat = y + 48 := by omega
    rw [hxy] at hnx
    rw [hy] at HV2
    have e7 : decide (((y + 48 : Nat) : Int) < 48) = false := by simp; omega
    have e8 : decide ((57 : Int) < ((y + 48 : Nat) : Int)) = false := by simp; omega
    go_wp2_with fail
    go_roundg (t.size - (pos + 1))
    case measure => omega
    case rel => exact ⟨pos + 1, by rw [HV2.out]; push_cast; rfl, by omega, HIT.out, HBW2.out, HDG2.out⟩)
theorem strs_at {w : World} {A : Option Addr} {xs : List Bs} (h : Rd w A (eStr.fl (xs.map ba))) (k : Nat) (x : Bs) (hx : xs[k]? = some x) :
    ∃ b o, A = some ⟨b, o, none⟩ ∧ w.cell? ⟨b, o + k, none⟩ = some (.string (ba x)) := by
  obtain ⟨hk, rfl⟩ := List.getElem?_eq_some_iff.1 hx
  obtain ⟨b, o, e, hc⟩ := h.elem k (by simpa using hk) (by decide)
  refine ⟨b, o, e, ?_⟩
  have := hc 0 _ rfl
  simpa [eStr] using this
end Go.Proofs.YtjjdefkaohbmjaaDoor
