/- The walk of Words. Conditions: a text of a size that a machine has; utf8's tables lie where they should. -/
import Derived.Test.YtjjdefkaohbmjaaDoorTokQ
set_option linter.unusedVariables false
set_option linter.unusedSimpArgs false
namespace Go.Proofs.YtjjdefkaohbmjaaDoor
open Go.RowKit Go.Lib
abbrev tStr : TypeId := 9
abbrev ba (l : Bs) : ByteArray := ⟨l.toArray⟩
theorem ba_eq {s : ByteArray} {l : Bs} (h : s.data.toList = l) : s = ba l := by
  cases s; subst h; simp [ba]
theorem ba_list (l : Bs) : (ba l).data.toList = l := by simp [ba]
theorem ba_size (l : Bs) : (ba l).size = l.length := by rw [size_eq, ba_list]
theorem ba_inj {l m : Bs} (h : ba l = ba m) : l = m := by rw [← ba_list l, h, ba_list]
theorem item_le {l p : Bs} {k : Nat} (hl : l ≠ []) (h : item l = some (p, k)) : k ≤ l.length := by
  unfold item at h
  split at h
  · cases h
  · split at h
    · simp only [Option.some.injEq, Prod.mk.injEq] at h
      rw [← h.2]; exact wd_le hl
    · unfold esc at h
      split at h
      · rename_i c hc
        have h1 := (List.getElem?_eq_some_iff.1 hc).1
        split at h
        · simp only [Option.some.injEq, Prod.mk.injEq] at h; omega
        · split at h
          · rename_i h2
            have h3 := (hx_lt h2.2.2).1
            simp only [Option.some.injEq, Prod.mk.injEq] at h; omega
          · cases h
      · cases h
theorem qu_le : ∀ (n : Nat) (l : Bs), l.length ≤ n → ∀ q, qu l = some q → q.2 ≤ l.length ∧ 1 ≤ q.2
  | n, l, hn, q, h => by
    by_cases hl : l = []
    · subst hl; cases h
    · have h1 := ne_len hl
      by_cases h34 : ru l = 34
      · rw [qu_end hl h34] at h
        cases h
        exact ⟨h1, Nat.le_refl _⟩
      · cases hi : item l with
        | none => rw [qu_none h34 hi] at h; cases h
        | some x =>
          obtain ⟨p, k⟩ := x
          rw [qu_step hl h34 hi] at h
          have h2 := item_pos hi
          have h3 := item_le hl hi
          cases hq : qu (l.drop k) with
          | none => rw [hq] at h; cases h
          | some q2 =>
            rw [hq] at h
            cases h
            cases n with
            | zero => omega
            | succ n =>
              have := qu_le n (l.drop k) (by rw [List.length_drop]; omega) q2 hq
              rw [List.length_drop] at this
              simp only; omega
theorem one_le {t w : Bs} {n : Nat} (h : one t = some (w, n)) : n ≤ t.length := by
  unfold one at h
  split at h
  · rename_i hh
    cases hq : qu t.tail with
    | none => rw [hq] at h; cases h
    | some q =>
      rw [hq] at h
      have := (qu_le _ _ (Nat.le_refl _) _ hq).1
      simp only [Option.map_some, Option.some.injEq, Prod.mk.injEq] at h
      cases t with
      | nil => cases hh
      | cons x t => simp at this; simp only [List.length_cons]; omega
  · split at h
    · cases h
    · simp only [Option.some.injEq, Prod.mk.injEq] at h
      rw [← h.2]; exact pl_len t
theorem w32_u8 (y : UInt8) : wrap32 (y.toNat : Int) = (y.toNat : Int) := by
  have := UInt8.toNat_lt y
  unfold wrap32
  omega
def WordsPost (w : World) (r : Res) (e : Ending) (w' : World) : Prop := match r with
  | .ok l => ∃ P c, e = .returned (.tuple #[.slice P l.length c, .int .i64 0]) ∧ Sep w w' [tOwn tStr 1 (.slice P l.length c) l.length (eStr.fl (l.map ba))]
  | .bad z => e = .returned (.tuple #[.slice none 0 0, .int .i64 z]) ∧ Below w.heap.size w w'
theorem infoStr : (Tryd.prog.info? tStr).map (fun i => (i.zero, i.size, i.bytes)) = some (some (.string ByteArray.empty), 1, 16) := by kernel_rfl
theorem one_str (s : ByteArray) : ∀ u ∈ [Value.string s], u.oneCell' = true := by
  intro u hu
  simp only [List.mem_singleton] at hu
  subst hu; rfl
set_option maxHeartbeats 8000000 in
set_option maxRecDepth 1000000 in
theorem Words_any (s : ByteArray) (w : World) (hs : s.size ≤ 140737488351232) (hT : Tabs w) :
    Calls Tryd.prog 14 #[.string s] w fun e w' => WordsPost w (words s.data.toList) e w' := by
  obtain ⟨L, hL⟩ : ∃ L, s.data.toList = L := ⟨_, rfl⟩
  have HSZ := Lib.hid (show L.length = s.size by rw [← hL, size_eq])
  have HL := Lib.hid hL
  have HTB := Lib.hid hT
  rw [hL]
  clear hL hT
  go_enter Tryd.func14, Tryd.ntmps14
  by_cases h400 : 400 < s.size
  · as_aux_lemma =>
      have q1 : decide ((400 : Int) < (s.size : Int)) = true := by simp; omega
      have q2 : (400 : Int) < (s.size : Int) := by omega
      have HW := Lib.hid (show words L = .bad 5 by unfold words; rw [if_pos (by rw [HSZ.out]; exact h400)])
      go_wp2_with fail
      go_returns
      rw [HW.out]
      exact ⟨rfl, Below.refl _ _⟩
  have q1 : decide ((400 : Int) < (s.size : Int)) = false := by simp; omega
  have q2 : ¬ (400 : Int) < (s.size : Int) := by omega
  have HW := Lib.hid (show words L = wo 0 L by unfold words; rw [if_neg (by rw [HSZ.out]; exact h400)])
  rw [HW.out]
  clear HW
  go_wp2_with fail
  clear q1 q2
  go_loopg [0, 4] s.size (fun gk s0 s4 wr => ∃ (t : ByteArray) (acc : List Bs) (P : Option Addr) (n c : Nat), s0 = .string t ∧ s4 = .slice P n c ∧ acc.length = n ∧ n ≤ 12 ∧ gk = t.size ∧ t.size ≤ 400 ∧ wo 0 L = Res.app acc (wo n t.data.toList) ∧ Sep w wr [tOwn tStr 1 (.slice P n c) n (eStr.fl (acc.map ba))])
  case atStart => exact ⟨s, [], none, 0, 0, rfl, rfl, rfl, by omega, rfl, by omega, by rw [HL.out]; cases wo 0 L <;> rfl, (Sep.nil w).new (t := tOwn tStr 1 (.slice none 0 0) 0 (eStr.fl [])) (Below.refl _ _) (Own.nil _ _ _) (fun k hk => by cases hk)⟩
  case round =>
  clear HL HSZ
  obtain ⟨t0, acc, P, n, c, rfl, rfl, hn, hn12, hgk, ht4, hwo, hs⟩ := hrel
  have HT := Lib.hid hs
  have HN := Lib.hid hn
  have HWO := Lib.hid hwo
  clear hs hn hwo
  have HTR := Lib.hid (trimB_le t0.data.toList)
  have HOV := Lib.hid (fun h => wo_over (c := n) (l := t0.data.toList) h)
  have HMY := Lib.hid (fun h h2 => wo_many (c := n) (l := t0.data.toList) h h2)
  have HNO := Lib.hid (fun h h2 h3 => wo_none (c := n) (l := t0.data.toList) h h2 h3)
  have HFO := Lib.hid (fun k x h h2 h3 h4 => wo_form (c := n) (l := t0.data.toList) (n := k) (w := x) h h2 h3 h4)
  have HST := Lib.hid (fun k x h h2 h3 h4 => wo_step (c := n) (l := t0.data.toList) (n := k) (w := x) h h2 h3 h4)
  obtain ⟨T, hTT⟩ : ∃ T, trimB t0.data.toList = T := ⟨_, rfl⟩
  have HTT := Lib.hid (show trimLeftS t0.data.toList [32, 9] = T from hTT)
  rw [hTT] at HTR HOV HMY HNO HFO HST
  clear hTT
  have htr : T.length ≤ t0.size := by have := HTR.out; rwa [← size_eq] at this
  go_upto_region 5 with (go_at_call 25; refine (Tryd.strings_TrimLeft_blanks t0 _).mono ?_; rw [HTT.out]; rintro e w4 ⟨rfl, hB⟩; have HT := Lib.hid (HT.out.step hB); clear hB)
  have HBL := Lib.hid (ba_list T)
  have HBS := Lib.hid (ba_size T)
  obtain ⟨t, ht⟩ : ∃ t, ba T = t := ⟨_, rfl⟩
  have htb : ({ data := T.toArray } : ByteArray) = t := ht
  rw [ht] at HBL HBS
  have hts := HBS.out
  cases T with
  | nil =>
    as_aux_lemma =>
      subst ht
      have HR := Lib.hid (show wo 0 L = .ok acc by rw [HWO.out, HOV.out (.inl rfl)]; simp [Res.app])
      clear htb hts
      go_wp2_with fail
      go_returns
      rw [HR.out]
      have h1 := HT.out
      have h2 := HN.out
      subst h2
      exact ⟨P, c, rfl, h1⟩
  | cons x T =>
  have e1 : t.toList.isEmpty = false := is_empty (by rw [HBL.out]; exact List.cons_ne_nil _ _)
  rw [htb]
  have h0 : 0 < t.size := by rw [hts]; simp
  have htz : t.size ≤ t0.size := by rw [hts]; exact htr
  have h0i : (0 : Int) < (t.size : Int) := by omega
  obtain ⟨x', hx1, hx2⟩ := byte_at h0
  rw [HBL.out] at hx2
  obtain rfl : x = x' := by simpa using hx2
  clear hx2
  by_cases h35 : x.toNat = 35
  · as_aux_lemma =>
      have e2 : ((x.toNat : Int) == 35) = true := by rw [h35]; rfl
      have HR := Lib.hid (show wo 0 L = .ok acc by
        rw [HWO.out, HOV.out (.inr (by rw [show x = 35 from UInt8.toNat_inj.1 h35]; rfl))]; simp [Res.app])
      clear htb hts h35
      go_wp2_with fail
      go_returns
      rw [HR.out]
      have h1 := HT.out
      have h2 := HN.out
      subst h2
      exact ⟨P, c, rfl, h1⟩
  have e2 : ((x.toNat : Int) == 35) = false := by simp; omega
  have HNB := Lib.hid (show ¬ (x :: T = [] ∨ (x :: T).head? = some 35) from fun h => by
    rcases h with h | h
    · cases h
    · simp at h; rw [h] at h35; exact h35 rfl)
  clear h35 HOV
  by_cases hc12 : n = 12
  · as_aux_lemma =>
      have e3 : ((n : Int) == 12) = true := by rw [hc12]; rfl
      have HR := Lib.hid (show wo 0 L = .bad 5 by rw [HWO.out, HMY.out HNB.out hc12]; rfl)
      clear htb hts hc12
      go_wp2_with fail
      go_returns
      rw [HR.out]
      exact ⟨rfl, HT.out.bel⟩
  have e3 : ((n : Int) == 12) = false := by simp; omega
  have HNO := Lib.hid (HNO.out HNB.out hc12)
  have HFO := Lib.hid (fun k x => HFO.out k x HNB.out hc12)
  have HST := Lib.hid (fun k x => HST.out k x HNB.out hc12)
  have hn11 : n + 1 ≤ 12 := by omega
  have HN12 := Lib.hid hc12
  clear hc12 HMY HNB HTT
  have HPL := Lib.hid (fun w => plain_any t w (by omega))
  have HQU := Lib.hid (fun (w' : World) (h : Tabs w') => quoted_any t w' (by omega) h)
  rw [HBL.out] at HPL HQU
  have HTL := Lib.hid (show (x :: T).tail = T from rfl)
  rw [HTL.out] at HQU
  have HDR := Lib.hid (ext_drop t)
  have HTA := Lib.hid (ext_take t 0)
  rw [HBL.out] at HDR HTA
  cases ho : one (x :: T) with
  | none =>
    as_aux_lemma =>
      have HR := Lib.hid (show wo 0 L = .bad 4 by rw [HWO.out, HNO.out ho]; rfl)
      by_cases h34 : x.toNat = 34
      · have e4 : ((x.toNat : Int) == 34) = true := by rw [h34]; rfl
        have HQ0 := Lib.hid (show quV (qu T) = .tuple #[.string ⟨#[]⟩, .int .i64 0] by
          unfold one at ho
          rw [if_pos (by rw [show x = 34 from UInt8.toNat_inj.1 h34]; rfl)] at ho
          cases hq : qu T with
          | none => rfl
          | some q => rw [HTL.out, hq] at ho; cases ho)
        clear htb hts h34 ho
        rw [HQ0.out] at HQU
        go_wp2_with (first | (go_at_call 24; refine (HPL.out _).mono ?_; rintro e w5 ⟨rfl, hB⟩; have HT := Lib.hid (HT.out.step hB); clear hB) | (go_at_call 26; refine (HQU.out _ (tabs_bel HTB.out HT.out.bel)).mono ?_; rintro e w6 ⟨rfl, hB⟩; have HT := Lib.hid (HT.out.step hB); clear hB))
        go_returns
        rw [HR.out]
        exact ⟨rfl, HT.out.bel⟩
      · have e4 : ((x.toNat : Int) == 34) = false := by simp; omega
        have HQ0 := Lib.hid (show pl (x :: T) = 0 by
          unfold one at ho
          rw [if_neg (fun h => h34 (by simp at h; rw [h]; rfl))] at ho
          split at ho
          · assumption
          · cases ho)
        clear htb hts h34 ho
        rw [HQ0.out] at HPL
        go_wp2_with (go_at_call 24; refine (HPL.out _).mono ?_; rintro e w5 ⟨rfl, hB⟩; have HT := Lib.hid (HT.out.step hB); clear hB)
        go_returns
        rw [HR.out]
        exact ⟨rfl, HT.out.bel⟩
  | some q =>
  obtain ⟨wd, k⟩ := q
  have hk1 := one_pos ho
  have hk2 := one_le ho
  have hk3 : k ≤ t.size := by rw [hts]; exact hk2
  have HFO := Lib.hid (HFO.out k wd ho)
  have HST := Lib.hid (HST.out k wd ho)
  have e5 : ((k : Int) == 0) = false := by simp; omega
  have k0 : (0 : Int) ≤ (k : Int) := by omega
  have k3 : (k : Int) ≤ (t.size : Int) := by omega
  clear hk2 HNO
  by_cases h34 : x.toNat = 34
  case' pos =>
    have e4 : ((x.toNat : Int) == 34) = true := by rw [h34]; rfl
    have HQ0 := Lib.hid (show quV (qu T) = .tuple #[.string (ba wd), .int .i64 (k : Int)] by
      unfold one at ho
      rw [if_pos (by rw [show x = 34 from UInt8.toNat_inj.1 h34]; rfl), HTL.out] at ho
      cases hq : qu T with
      | none => rw [hq] at ho; cases ho
      | some q =>
        rw [hq] at ho
        simp only [Option.map_some, Option.some.injEq, Prod.mk.injEq] at ho
        obtain ⟨rfl, rfl⟩ := ho
        rfl)
    clear htb hts h34 ho
    rw [HQ0.out] at HQU
    go_upto_region 13 with (first | (go_at_call 24; refine (HPL.out _).mono ?_; rintro e w5 ⟨rfl, hB⟩; have HT := Lib.hid (HT.out.step hB); clear hB) | (go_at_call 26; refine (HQU.out _ (tabs_bel HTB.out HT.out.bel)).mono ?_; rintro e w6 ⟨rfl, hB⟩; have HT := Lib.hid (HT.out.step hB); clear hB))
  case' neg =>
    have e4 : ((x.toNat : Int) == 34) = false := by simp; omega
    have HQ0 := Lib.hid (show pl (x :: T) = k ∧ t.extract 0 k = ba wd by
      unfold one at ho
      rw [if_neg (fun h => h34 (by simp at h; rw [h]; rfl))] at ho
      split at ho
      · cases ho
      · simp only [Option.some.injEq, Prod.mk.injEq] at ho
        obtain ⟨h1, rfl⟩ := ho
        refine ⟨rfl, ba_eq ?_⟩
        have := HTA.out (pl (x :: T))
        rw [Nat.zero_add] at this
        rw [this, ← h1]; rfl)
    clear htb hts h34 ho
    rw [HQ0.out.1] at HPL
    have hex := HQ0.out.2
    go_upto_region 13 with (go_at_call 24; refine (HPL.out _).mono ?_; rintro e w5 ⟨rfl, hB⟩; have HT := Lib.hid (HT.out.step hB); clear hB)
    clear hex
  all_goals (
    by_cases hend : k < t.size
    case neg =>
      as_aux_lemma =>
        have q1 : decide ((k : Int) < (t.size : Int)) = false := by simp; omega
        have q2 : ¬ (k : Int) < (t.size : Int) := by omega
        have HA := Lib.hid (show wo 0 L = Res.app (acc ++ [wd]) (wo (n + 1) ((x :: T).drop k)) by
          rw [HWO.out, HST.out (by unfold aft; rw [List.getElem?_eq_none (by rw [← HBS.out]; omega)]), Res.app_cons])
        have HBD := Lib.hid (show (n + 1) * 16 ≤ 140737488355328 by omega)
        go_wp2_with (first | (go_at_call 27; refine (blank_any y.toNat _).mono ?_; rw [HB.out]; rintro e w7 ⟨rfl, hw⟩; rw [hw]; clear hw) | (at_builtin; refine app1O 25 tStr (.string ByteArray.empty) 1 16 [.string (ba wd)] HT.out.own HBD.out Tryd.underlying25 infoStr rfl (by decide) (by decide) rfl (one_str (ba wd)) (.tmp 53) (.tmp 55) rfl rfl rfl rfl ?_; intro v1 w11 ho1 hg1 hat1; obtain ⟨A1, c1, rfl, _⟩ := ho1.form; have HT := Lib.hid (HT.out.appG ho1 hg1 hat1); clear ho1 hg1 hat1))
        have hsz2 : (t.extract k t.size).size = t.size - k := by rw [size_eq, HDR.out, List.length_drop, ← HBS.out]
        go_roundg (t.size - k)
        case measure => omega
        case rel => exact ⟨t.extract k t.size, acc ++ [wd], A1, n + 1, c1, rfl, by push_cast; rfl, by rw [List.length_append, HN.out]; rfl, hn11, hsz2.symm, by omega, by rw [HDR.out]; exact HA.out, by rw [List.map_append, List.map_singleton, Enc.snoc]; exact HT.out⟩
    have q1 : decide ((k : Int) < (t.size : Int)) = true := by simp; omega
    have q2 : (k : Int) < (t.size : Int) := by omega
    obtain ⟨y, hy1, hy2⟩ := byte_at hend
    rw [HBL.out] at hy2
    have HY := Lib.hid hy2
    have hw32 : wrap32 (y.toNat : Int) = (y.toNat : Int) := w32_u8 y
    clear hy2
    cases hbl : blankR y.toNat with
    | false =>
      as_aux_lemma =>
        have HB := Lib.hid hbl
        have HR := Lib.hid (show wo 0 L = .bad 4 by
          rw [HWO.out, HFO.out (by unfold aft; rw [HY.out]; exact hbl)]; rfl)
        clear hbl
        go_wp2_with (go_at_call 27; refine (blank_any y.toNat _).mono ?_; rw [HB.out]; rintro e w7 ⟨rfl, hw⟩; rw [hw]; clear hw)
        go_returns
        rw [HR.out]
        exact ⟨rfl, HT.out.bel⟩
    | true =>
      as_aux_lemma =>
        have HB := Lib.hid hbl
        have HA := Lib.hid (show wo 0 L = Res.app (acc ++ [wd]) (wo (n + 1) ((x :: T).drop k)) by
          rw [HWO.out, HST.out (by unfold aft; rw [HY.out]; exact hbl), Res.app_cons])
        clear hbl
        have HBD := Lib.hid (show (n + 1) * 16 ≤ 140737488355328 by omega)
        go_wp2_with (first | (go_at_call 27; refine (blank_any y.toNat _).mono ?_; rw [HB.out]; rintro e w7 ⟨rfl, hw⟩; rw [hw]; clear hw) | (at_builtin; refine app1O 25 tStr (.string ByteArray.empty) 1 16 [.string (ba wd)] HT.out.own HBD.out Tryd.underlying25 infoStr rfl (by decide) (by decide) rfl (one_str (ba wd)) (.tmp 53) (.tmp 55) rfl rfl rfl rfl ?_; intro v1 w11 ho1 hg1 hat1; obtain ⟨A1, c1, rfl, _⟩ := ho1.form; have HT := Lib.hid (HT.out.appG ho1 hg1 hat1); clear ho1 hg1 hat1))
        have hsz2 : (t.extract k t.size).size = t.size - k := by rw [size_eq, HDR.out, List.length_drop, ← HBS.out]
        go_roundg (t.size - k)
        case measure => omega
        case rel => exact ⟨t.extract k t.size, acc ++ [wd], A1, n + 1, c1, rfl, by push_cast; rfl, by rw [List.length_append, HN.out]; rfl, hn11, hsz2.symm, by omega, by rw [HDR.out]; exact HA.out, by rw [List.map_append, List.map_singleton, Enc.snoc]; exact HT.out⟩)
end Go.Proofs.YtjjdefkaohbmjaaDoor
