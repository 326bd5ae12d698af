/- The walk of Quote. Conditions: a text of at most 2^40 bytes; utf8's tables lie where they should. -/
import Derived.Test.YtjjdefkaohbmjaaDoorTokP
set_option linter.unusedVariables false
set_option linter.unusedSimpArgs false
namespace Go.Proofs.YtjjdefkaohbmjaaDoor
open Go.RowKit Go.Lib
/-- What stands beside the builder: the iterator. -/
structure QS (w1 : World) (b k : Nat) (s : ByteArray) (wr : World) (pos : Nat) (acc : Bs) : Prop where
  bu : IsBuilderF 40 5 b b (byteCells acc) wr
  it : wr.heap[k]? = some (.stringIter s pos)
  bel : Below b w1 wr
  ne : k ≠ b
  le : b ≤ k
theorem QS.size {w1 : World} {b k : Nat} {s : ByteArray} {wr : World} {pos : Nat} {acc : Bs} (h : QS w1 b k s wr pos acc) : b ≤ wr.heap.size := by
  have := (Array.getElem?_eq_some_iff.1 h.it).1
  have := h.le
  omega
theorem QS.move {w1 : World} {b k : Nat} {s : ByteArray} {wr : World} {pos : Nat} {acc : Bs} (h : QS w1 b k s wr pos acc) (pos' : Nat) : QS w1 b k s (wr.iterAt k s pos') pos' acc :=
  ⟨h.bu.iterAt h.it pos', Lib.iterAt_heap wr k s pos pos' h.it, Lib.below_iterAt h.bel h.le s pos', h.ne, h.le⟩
theorem QS.wrote {w1 : World} {b k : Nat} {s : ByteArray} {wr w' : World} {pos : Nat} {acc acc' : Bs} {xs : List Value} (h : QS w1 b k s wr pos acc) (h1 : BuilderAtF 40 5 b b (.pointer (some ⟨b, 0, none⟩)) xs w') (h2 : Below b wr w') (h3 : OthersKept 5 (some b) wr w') (hx : xs = byteCells acc') : QS w1 b k s w' pos acc' := by
  subst hx
  exact ⟨.inr h1, h3.iter h.it h.ne, h.bel.trans h2, h.ne, h.le⟩
theorem bu_step1 {T e : TypeId} {B b : Nat} {p : Value} {bs : List Value} {w w' : World} (h : BuilderAtF T e B b p bs w) (hB : Below w.heap.size w w') : BuilderAtF T e B b p bs w' := by
  obtain ⟨h0, v, hb, hown, hne⟩ := h
  have hl : ∀ (k : Nat) (o : Obj), w.heap[k]? = some o → w'.heap[k]? = some o := fun k o hk => (hB.block k (Array.getElem?_eq_some_iff.1 hk).1).trans hk
  refine ⟨h0, v, hl _ _ hb, ⟨hown.1, ?_⟩, hne⟩
  rcases hown.2 with hn | ⟨g, cap, cur, fz, hv, hbg, hg, rest⟩
  · exact .inl hn
  · exact .inr ⟨g, cap, cur, fz, hv, hbg, hl _ _ hg, rest⟩
theorem QS.step {w1 : World} {b k : Nat} {s : ByteArray} {wr w' : World} {pos : Nat} {acc : Bs} (h : QS w1 b k s wr pos acc) (hB : Below wr.heap.size wr w') : QS w1 b k s w' pos acc :=
  ⟨h.bu.elim (fun x => .inl (bu_step1 x hB)) (fun x => .inr (bu_step1 x hB)), (hB.block k (Array.getElem?_eq_some_iff.1 h.it).1).trans h.it, h.bel.trans (hB.mono h.size), h.ne, h.le⟩
theorem runeCells_low {r : Nat} (h : r < 128) : runeCells (r : Int) = [.int .u8 (r : Int)] := by
  unfold runeCells
  rw [encodeRuneZ_one (by omega) (by omega)]; rfl
theorem u8_low {r : Nat} (h : r < 128) : (r.toUInt8.toNat : Int) = (r : Int) := u8_back (by omega)
theorem runeLen_low {r : Nat} (h : r < 128) : runeLen (r : Int) = 1 := by
  unfold runeLen
  rw [if_neg (by omega), if_pos (by omega)]
theorem wd_low {l : Bs} (hl : l ≠ []) (h : ru l < 128) : wd l = 1 := by
  cases l with
  | nil => exact absurd rfl hl
  | cons x l => exact (ru_low h).2
theorem enc_take {l : Bs} (hl : l ≠ []) (h : ru l ≠ 65533) : runeCells (ru l : Int) = byteCells (l.take (wd l)) := by
  rw [← byteCells_encodeRune]
  unfold ru wd
  rw [encode_decode l hl (fun h2 => h h2.1)]
theorem bc_snoc (a : Bs) (c : UInt8) : byteCells a ++ [Value.int .u8 (c.toNat : Int)] = byteCells (a ++ [c]) := by rw [byteCells_append]; rfl
theorem and15 (c : UInt8) : bits BinOp.and IntKind.u8 (c.toNat : Int) 15 = ((c.toNat % 16 : Nat) : Int) := by
  have h : ∀ n : Nat, n < 256 → bits BinOp.and IntKind.u8 (n : Int) 15 = ((n % 16 : Nat) : Int) := of_decide_eq_true (by kernel_rfl)
  exact h _ (UInt8.toNat_lt c)
abbrev hexB : ByteArray := { data := #[48, 49, 50, 51, 52, 53, 54, 55, 56, 57, 97, 98, 99, 100, 101, 102] }
theorem hex_at {m : Nat} (h : m < 16) : ∃ y : UInt8, hexB[m]'(show m < 16 from h) = y ∧ hexL.getD m 0 = y := by
  refine ⟨_, rfl, ?_⟩
  show hexB.data.toList.getD m 0 = _
  rw [List.getD_eq_getElem?_getD, List.getElem?_eq_getElem (show m < 16 from h)]
  rfl
theorem hexE_cells (c : UInt8) : byteCells (hexE c) = strCells ⟨#[92, 120]⟩ ++ [.int .u8 ((hexL.getD (c.toNat / 16) 0).toNat : Int)] ++ [.int .u8 ((hexL.getD (c.toNat % 16) 0).toNat : Int)] := by rfl
theorem take_snoc {l : Bs} {j : Nat} {c : UInt8} (h : l[j]? = some c) : (l.take (j + 1)).flatMap hexE = (l.take j).flatMap hexE ++ hexE c := by
  rw [List.take_add_one, h, List.flatMap_append]
  simp
theorem flat_len (l : Bs) : (l.flatMap hexE).length = 4 * l.length := by
  induction l with
  | nil => rfl
  | cons x l ih => rw [List.flatMap_cons, List.length_append, ih]; simp [hexE]; omega
theorem qpiece_len (l : Bs) : (qpiece l).length ≤ 4 * wd l := by
  have := wd_pos l
  unfold qpiece
  split
  · simp; omega
  · split
    · rw [flat_len, List.length_take]; omega
    · rw [List.length_take]; omega
theorem qpiece_quote {l : Bs} (h : ru l = 34 ∨ ru l = 92) : qpiece l = [92, (ru l).toUInt8] := by unfold qpiece; rw [if_pos h]
theorem qpiece_odd {l : Bs} (h : ¬ (ru l = 34 ∨ ru l = 92)) (h2 : oddR (ru l) = true) : qpiece l = (l.take (wd l)).flatMap hexE := by unfold qpiece; rw [if_neg h, if_pos h2]
theorem qpiece_rest {l : Bs} (h : ¬ (ru l = 34 ∨ ru l = 92)) (h2 : oddR (ru l) = false) : qpiece l = l.take (wd l) := by unfold qpiece; rw [if_neg h, if_neg (by rw [h2]; decide)]
set_option maxHeartbeats 8000000 in
set_option maxRecDepth 1000000 in
theorem Quote_any (s : ByteArray) (w : World) (hs : s.size ≤ 1099511627776) (hT : Tabs w) :
    Calls Tryd.prog 12 #[.string s] w fun e w' => e = .returned (.string (ba (quote s.data.toList))) ∧ Below w.heap.size w w' := by
  obtain ⟨L, hL⟩ : ∃ L, s.data.toList = L := ⟨_, rfl⟩
  have HSZ := Lib.hid (show L.length = s.size by rw [← hL, size_eq])
  have HL := Lib.hid hL
  have HTB := Lib.hid hT
  have HPA := Lib.hid (fun w => Plain_any s w (by omega))
  rw [hL] at HPA ⊢
  clear hL hT
  cases hp : isPl L with
  | true =>
    as_aux_lemma =>
      have HP := Lib.hid hp
      have HQ := Lib.hid (show ba (quote L) = s by unfold quote; rw [if_pos hp]; exact (ba_eq HL.out).symm)
      clear hp
      go_enter Tryd.func12, Tryd.ntmps12
      go_wp2_with (go_at_call 13; refine (HPA.out _).mono ?_; rw [HP.out]; rintro e w1 ⟨rfl, hB⟩)
      go_ret
      exact ⟨by rw [HQ.out]; rfl, hB⟩
  | false =>
  have HP := Lib.hid hp
  have HQ := Lib.hid (show quote L = 34 :: (qb L ++ [34]) by unfold quote; rw [hp]; rfl)
  clear hp
  go_enter Tryd.func12, Tryd.ntmps12
  go_upto_region 3 with (go_at_call 13; refine (HPA.out _).mono ?_; rw [HP.out]; rintro e w1 ⟨rfl, hB⟩)
  have HB1 := Lib.hid hB
  clear hB
  have HI := Lib.hid (Lib.IsBuilderF.of (Lib.fresh_isBuilder 40 5 w1))
  have HBL := Lib.hid ((Below.refl w1.heap.size w1).alloc (Nat.le_refl _) (.cells #[.pointer none, .slice none 0 0] 40))
  go_upto_region 4 with fail
  generalize w1.alloc (.cells #[.pointer none, .slice none 0 0] 40) = w2 at *
  obtain ⟨b, hb⟩ : ∃ b, w1.heap.size = b := ⟨_, rfl⟩
  have HBZ := Lib.hid hb
  rw [hb] at HI HBL ⊢
  clear hb
  have hsz2 : b ≤ w2.heap.size := by rw [← HBZ.out]; exact HBL.out.size
  go_upto_region 5 with (go_at_call 17; refine (Tryd.Builder_WriteByte_k b b _ 34 _ HI.out (by simp) hsz2).mono ?_; rintro e w3 ⟨rfl, h1, h2, h3⟩)
  have HI2 := Lib.hid h1
  have HB3 := Lib.hid (HBL.out.trans h2)
  clear HI h1 h2 h3 HBL
  go_wp2_with fail
  go_loopg [] s.size (fun gk wr => ∃ (pos : Nat) (acc : Bs), gk + pos = s.size ∧ 34 :: qb L = acc ++ qb (L.drop pos) ∧ acc.length ≤ 4 * pos + 1 ∧ QS w1 b w3.heap.size s wr pos acc)
  case atStart =>
    have hlt := HI2.out.lt
    exact ⟨0, [34], by omega, rfl, by simp, .inr (HI2.out.alloc _), World.iter_heap w3 s 0, HB3.out.alloc (by omega) _, by omega, by omega⟩
  case round =>
  clear HI2
  obtain ⟨pos, acc, hgk, hqb, hal, hqs⟩ := hrel
  have HS := Lib.hid hqs
  have HA := Lib.hid hqb
  clear hqs hqb HB3
  generalize w3.heap.size = k at *
  by_cases hp : pos < s.size
  case neg =>
    as_aux_lemma =>
      have hnx : ∀ ty, (Instr.next (.pointer (some ⟨k, 0, none⟩)) true ty).run Tryd.prog wr = _ := fun ty => Lib.run_next_end_at wr k s pos ty HS.out.it hp
      have HR := Lib.hid (show quote L = acc ++ [34] by rw [HQ.out, ← List.cons_append, HA.out, List.drop_eq_nil_of_le (by rw [HSZ.out]; omega), qb_nil, List.append_nil])
      go_wp2_with (first | (go_at_call 17; refine (Tryd.Builder_WriteByte_k b b _ 34 _ HS.out.bu (by rw [byteCells_length]; omega) HS.out.size).mono ?_; rintro e W5 ⟨rfl, h1, h2, h3⟩; have HS := Lib.hid (HS.out.wrote (acc' := acc ++ [34]) h1 h2 h3 (by rw [byteCells_append]; rfl)); clear h1 h2 h3) | (go_at_call 23; refine (Tryd.Builder_String_any_k b b _ _ HS.out.bu HS.out.size).mono ?_; rintro e W6 ⟨rfl, _, h2, _⟩; have HBE := Lib.hid (HB1.out.trans ((HS.out.bel.trans h2).mono (by rw [← HBZ.out]; exact HB1.out.size))); clear h2))
      go_ret
      exact ⟨by rw [HR.out]; rfl, HBE.out⟩
  have hnx : ∀ ty, (Instr.next (.pointer (some ⟨k, 0, none⟩)) true ty).run Tryd.prog wr = _ := fun ty => Lib.run_next_any_at wr k s pos ty HS.out.it hp
  have hrd := ru_drop s pos
  rw [HL.out] at hrd
  rw [hrd.1, hrd.2] at hnx
  have hne : L.drop pos ≠ [] := drop_ne (by rw [HSZ.out]; exact hp)
  have HST := Lib.hid (qb_step hne)
  have hwl := wd_le hne
  rw [List.length_drop, HSZ.out] at hwl
  have hwp := wd_pos (L.drop pos)
  have hrl := ru_le (L.drop pos)
  have HD := Lib.hid (go_drop hp)
  rw [HL.out] at HD
  have HPQ := Lib.hid (fun h => qpiece_quote (l := L.drop pos) h)
  have HPO := Lib.hid (fun h h2 => qpiece_odd (l := L.drop pos) h h2)
  have HPR := Lib.hid (fun h h2 => qpiece_rest (l := L.drop pos) h h2)
  have HPE := Lib.hid (fun h => enc_take hne h)
  have HPW := Lib.hid (fun h => wd_low hne h)
  have HPL := Lib.hid (qpiece_len (L.drop pos))
  clear hrd hne
  obtain ⟨r, hr⟩ : ∃ r, ru (L.drop pos) = r := ⟨_, rfl⟩
  obtain ⟨d, hd⟩ : ∃ d, wd (L.drop pos) = d := ⟨_, rfl⟩
  obtain ⟨X, hX⟩ : ∃ X, qpiece (L.drop pos) = X := ⟨_, rfl⟩
  rw [hr] at hnx hrl HD HPQ HPO HPR HPE HPW
  rw [hd] at hnx HST hwl hwp HD HPO HPR HPE HPW HPL
  rw [hX] at HST HPQ HPO HPR HPL
  clear hr hd hX
  have HA2 := Lib.hid (show 34 :: qb L = (acc ++ X) ++ qb (L.drop (pos + d)) by rw [HA.out, HST.out, List.drop_drop, List.append_assoc])
  have hxl := HPL.out
  have HS := Lib.hid (HS.out.move (pos + d))
  clear HA HST HPL
  go_upto_region 8 with fail
  clear hnx
  generalize wr.iterAt k s (pos + d) = W at *
  have HRL := Lib.hid (fun (w : World) => Tryd.utf8_RuneLen (r : Int) w)
  by_cases hq : r = 34 ∨ r = 92
  · as_aux_lemma =>
      have e1 : ((r : Int) == 65533) = false := by simp; omega
      have hr128 : r < 128 := by omega
      have HX := Lib.hid (HPQ.out hq)
      have HC1 := Lib.hid (runeCells_low hr128)
      have HC2 := Lib.hid (u8_low hr128)
      have HC3 := Lib.hid (show byteCells (acc ++ [92]) ++ runeCells (r : Int) = byteCells (acc ++ X) by
        rw [HC1.out, HX.out, byteCells_append, byteCells_append]
        unfold byteCells
        simp only [List.map_cons, List.map_nil, List.append_assoc, List.cons_append, List.nil_append, HC2.out])
      generalize runeLen (r : Int) = rl at *
      have e34 : ((r : Int) == 34) = true ∨ ((r : Int) == 34) = false ∧ ((r : Int) == 92) = true := by
        rcases hq with h | h
        · left; rw [h]; rfl
        · right; rw [h]; exact ⟨rfl, rfl⟩
      clear hq
      rcases e34 with e34 | ⟨e34, e92⟩
      all_goals (
        go_wp2_with (first | (go_at_call 18; refine (HRL.out _).mono ?_; rintro e W4 ⟨rfl, hw⟩; rw [hw]; clear hw) | (go_at_call 17; refine (Tryd.Builder_WriteByte_k b b _ 92 _ HS.out.bu (by rw [byteCells_length]; omega) HS.out.size).mono ?_; rintro e W5 ⟨rfl, h1, h2, h3⟩; have HS := Lib.hid (HS.out.wrote (acc' := acc ++ [92]) h1 h2 h3 (by rw [byteCells_append]; rfl)); clear h1 h2 h3) | (go_at_call 20; refine (Tryd.Builder_WriteRune_k b b _ (r : Int) (by omega) (by omega) _ HS.out.bu (by rw [byteCells_length, List.length_append]; simp; omega) HS.out.size).mono ?_; rintro e W7 ⟨rfl, h1, h2, h3⟩; have HS := Lib.hid (HS.out.wrote h1 h2 h3 HC3.out); clear h1 h2 h3))
        go_roundg (s.size - (pos + d))
        case measure => omega
        case rel => exact ⟨pos + d, acc ++ X, by omega, HA2.out, by rw [List.length_append]; omega, HS.out⟩)
  have HNQ := Lib.hid hq
  have e34 : ((r : Int) == 34) = false := by simp; omega
  have e92 : ((r : Int) == 92) = false := by simp; omega
  have HPO := Lib.hid (HPO.out hq)
  have HPR := Lib.hid (HPR.out hq)
  clear hq HPQ
  cases hod : oddR r with
  | false =>
    as_aux_lemma =>
      have HO := Lib.hid hod
      have hr3 : r ≠ 65533 := fun h => by rw [h] at hod; cases hod
      have e1 : ((r : Int) == 65533) = false := by simp; omega
      have HX := Lib.hid (HPR.out hod)
      have HC3 := Lib.hid (show byteCells acc ++ runeCells (r : Int) = byteCells (acc ++ X) by rw [HPE.out hr3, HX.out, byteCells_append])
      generalize runeLen (r : Int) = rl at *
      clear hod hr3
      go_wp2_with (first | (go_at_call 18; refine (HRL.out _).mono ?_; rintro e W4 ⟨rfl, hw⟩; rw [hw]; clear hw) | (go_at_call 21; refine (odd_any r _).mono ?_; rw [HO.out]; rintro e W5 ⟨rfl, hw⟩; rw [hw]; clear hw) | (go_at_call 20; refine (Tryd.Builder_WriteRune_k b b _ (r : Int) (by omega) (by omega) _ HS.out.bu (by rw [byteCells_length]; omega) HS.out.size).mono ?_; rintro e W7 ⟨rfl, h1, h2, h3⟩; have HS := Lib.hid (HS.out.wrote h1 h2 h3 HC3.out); clear h1 h2 h3))
      go_roundg (s.size - (pos + d))
      case measure => omega
      case rel => exact ⟨pos + d, acc ++ X, by omega, HA2.out, by rw [List.length_append]; omega, HS.out⟩
  | true =>
  have HO := Lib.hid hod
  have HX := Lib.hid (HPO.out hod)
  have hwpd : IntKind.i64.wrap ((pos : Int) + (d : Int)) = (pos : Int) + (d : Int) := IntWalk.i64_in _ (by omega)
  by_cases h3 : r = 65533
  case' pos =>
    have e1 : ((r : Int) == 65533) = true := by rw [h3]; rfl
    have p0 : (0 : Int) ≤ (pos : Int) := by omega
    have p1 : (pos : Int) ≤ (s.size : Int) := by omega
    have HTW := Lib.hid (tabs_bel (tabs_bel HTB.out HB1.out) (show Below w1.heap.size w1 W by rw [HBZ.out]; exact HS.out.bel))
    clear h3 hod
    generalize runeLen (r : Int) = rl at *
    go_upto_region 17 with (first | (go_at_call 18; refine (HRL.out _).mono ?_; rintro e W4 ⟨rfl, hw⟩; rw [hw]; clear hw) | (go_at_call 21; refine (odd_any r _).mono ?_; rw [HO.out]; rintro e W5 ⟨rfl, hw⟩; rw [hw]; clear hw) | (go_at_call 19; refine (Tryd.utf8_DecodeRuneInString _ _ HTW.out).mono ?_; rw [HD.out]; rintro e W6 ⟨rfl, hB⟩))
    have HS := Lib.hid (HS.out.step hB)
    clear hB HTW p0 p1
  case' neg =>
    have e1 : ((r : Int) == 65533) = false := by simp; omega
    have hlow : r < 128 := by
      unfold oddR at hod
      simp only [Bool.or_eq_true, decide_eq_true_eq] at hod
      omega
    have hd1 : d = 1 := HPW.out hlow
    have HRL := Lib.hid (fun (w : World) => show Calls Tryd.prog 18 #[.int .i32 (r : Int)] w fun e w' => e = .returned (.int .i64 (d : Int)) ∧ w' = w by
      have := HRL.out w
      rw [runeLen_low hlow] at this
      rw [hd1]; exact this)
    clear h3 hod hlow hd1
    go_upto_region 17 with (first | (go_at_call 18; refine (HRL.out _).mono ?_; rintro e W4 ⟨rfl, hw⟩; rw [hw]; clear hw) | (go_at_call 21; refine (odd_any r _).mono ?_; rw [HO.out]; rintro e W5 ⟨rfl, hw⟩; rw [hw]; clear hw))
  all_goals (
    go_loopg [7] d (fun gm s7 wr => ∃ (j : Nat), s7 = .int .i64 ((pos : Int) + (j : Int)) ∧ j ≤ d ∧ gm = d - j ∧ QS w1 b k s wr (pos + d) (acc ++ ((L.drop pos).take j).flatMap hexE))
    case atStart => exact ⟨0, by simp, by omega, by omega, by simpa using HS.out⟩
    case round =>
    clear HS
    obtain ⟨j, rfl, hj, hgm, hqs⟩ := hrel
    have HS := Lib.hid hqs
    clear hqs
    by_cases hjd : j < d
    case neg =>
      as_aux_lemma =>
        have q1 : decide ((pos : Int) + (j : Int) < (pos : Int) + (d : Int)) = false := by simp; omega
        have q2 : ¬ (pos : Int) + (j : Int) < (pos : Int) + (d : Int) := by omega
        have HS : Hid (QS w1 b k s wr (pos + d) (acc ++ X)) := Lib.hid (by
          have := HS.out
          rwa [show j = d by omega, ← HX.out] at this)
        go_wp2_with fail
        go_roundg (s.size - (pos + d))
        case measure => omega
        case rel => exact ⟨pos + d, acc ++ X, by omega, HA2.out, by rw [List.length_append]; omega, HS.out⟩
    have q1 : decide ((pos : Int) + (j : Int) < (pos : Int) + (d : Int)) = true := by simp; omega
    have q2 : (pos : Int) + (j : Int) < (pos : Int) + (d : Int) := by omega
    have q3 : (0 : Int) ≤ (pos : Int) + (j : Int) := by omega
    have hlt : pos + j < s.size := by omega
    have hwj : IntKind.i64.wrap ((pos : Int) + (j : Int) + 1) = (pos : Int) + (j : Int) + 1 := IntWalk.i64_in _ (by omega)
    have q4 : (pos : Int) + (j : Int) < (s.size : Int) := by omega
    obtain ⟨c, hc1, hc2⟩ := byte_at hlt
    rw [HL.out] at hc2
    have HTS := Lib.hid (take_snoc (l := L.drop pos) (j := j) (c := c) (by rw [List.getElem?_drop]; exact hc2))
    have hfl : (((L.drop pos).take j).flatMap hexE).length ≤ 4 * j := by
      rw [flat_len]
      have := List.length_take_le j (L.drop pos)
      omega
    clear hc2
    have HBD := Lib.hid (show (acc ++ ((L.drop pos).take j).flatMap hexE).length ≤ 140737488350000 by rw [List.length_append]; omega)
    obtain ⟨Y, hY⟩ : ∃ Y, acc ++ ((L.drop pos).take j).flatMap hexE = Y := ⟨_, rfl⟩
    have HTS := Lib.hid (show acc ++ ((L.drop pos).take (j + 1)).flatMap hexE = Y ++ hexE c by rw [HTS.out, ← hY, List.append_assoc])
    rw [hY] at HS HBD
    clear hY hfl
    go_upto_region 20 with (go_at_call 22; refine (Tryd.Builder_WriteString_k b b _ ⟨#[92, 120]⟩ _ HS.out.bu (by rw [byteCells_length]; have := HBD.out; show _ + 2 ≤ _; omega) HS.out.size).mono ?_; rintro e W5 ⟨rfl, h1, h2, h3⟩; have HS := Lib.hid (HS.out.wrote (acc' := Y ++ [92, 120]) h1 h2 h3 (by rw [byteCells_append]; rfl)); clear h1 h2 h3)
    have h16 : c.toNat / 16 < 16 := by have := UInt8.toNat_lt c; omega
    have h15 : c.toNat % 16 < 16 := Nat.mod_lt _ (by decide)
    obtain ⟨y1, hy1, hz1⟩ := hex_at h16
    obtain ⟨y2, hy2, hz2⟩ := hex_at h15
    have HE := Lib.hid (show hexE c = [92, 120, y1, y2] by unfold hexE; rw [hz1, hz2])
    have ha15 := and15 c
    clear hz1 hz2
    have i16 : (c.toNat : Int) / 16 < 16 := by omega
    generalize c.toNat % 16 = m2 at *
    have i15 : (m2 : Int) < 16 := by omega
    go_upto_region 21 with (go_at_call 17; refine (Tryd.Builder_WriteByte_k b b _ (y1.toNat : Int) _ HS.out.bu (by rw [byteCells_length, List.length_append]; have := HBD.out; simp; omega) HS.out.size).mono ?_; rintro e W6 ⟨rfl, h1, h2, h3⟩; have HS := Lib.hid (HS.out.wrote (acc' := Y ++ [92, 120] ++ [y1]) h1 h2 h3 (bc_snoc _ _)); clear h1 h2 h3)
    go_wp2_with (go_at_call 17; refine (Tryd.Builder_WriteByte_k b b _ (y2.toNat : Int) _ HS.out.bu (by rw [byteCells_length, List.length_append, List.length_append]; have := HBD.out; simp; omega) HS.out.size).mono ?_; rintro e W7 ⟨rfl, h1, h2, h3⟩; have HS := Lib.hid (HS.out.wrote (acc' := Y ++ [92, 120] ++ [y1] ++ [y2]) h1 h2 h3 (bc_snoc _ _)); clear h1 h2 h3)
    go_roundg (d - (j + 1))
    case measure => omega
    case rel => exact ⟨j + 1, by push_cast; rw [Int.add_assoc], by omega, rfl, by rw [HTS.out, HE.out, show Y ++ [92, 120, y1, y2] = Y ++ [92, 120] ++ [y1] ++ [y2] by simp]; exact HS.out⟩)
end Go.Proofs.YtjjdefkaohbmjaaDoor
