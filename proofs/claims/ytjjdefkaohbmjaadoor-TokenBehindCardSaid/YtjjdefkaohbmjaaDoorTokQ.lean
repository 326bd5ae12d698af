/- The walk of quoted. Conditions: a text of a size that a machine has; utf8's tables lie where they should. -/
import Derived.Test.YtjjdefkaohbmjaaDoorTokV
import Derived.Test.YtjjdefkaohbmjaaDoorOwnS
import Derived.Deep.LoopGhost
import Derived.Deep.DeepCutAuto
import Derived.Deep.CutBlock
import Derived.Deep.QuietTactic
import Derived.BigQuiet
import Derived.WalkSpells
import Derived.Deep.RegionLaw
import Derived.Handy
set_option linter.unusedVariables false
set_option linter.unusedSimpArgs false
namespace Go.Proofs.YtjjdefkaohbmjaaDoor
open Go.RowKit Go.Lib
abbrev tU8 : TypeId := 5
abbrev Tabs (w : World) : Prop := Utf8Tabs 0 1 w
theorem ext_drop (s : ByteArray) (i : Nat) : (s.extract i s.size).data.toList = s.data.toList.drop i := by
  rw [extract_data, List.take_of_length_le (by rw [List.length_drop, ← size_eq]; exact Nat.le_refl _)]
theorem ext_take (s : ByteArray) (i n : Nat) : (s.extract i (i + n)).data.toList = (s.data.toList.drop i).take n := by
  rw [extract_data, Nat.add_sub_cancel_left]
theorem go_drop {s : ByteArray} {i : Nat} (h : i < s.size) : decodeGo (s.extract i s.size) = (ru (s.data.toList.drop i), wd (s.data.toList.drop i)) := by
  have h1 : (s.extract i s.size).size ≠ 0 := by
    rw [size_eq, ext_drop, List.length_drop, ← size_eq]; omega
  show decodeGoB (s.extract i s.size) = _
  unfold decodeGoB
  rw [if_neg h1, ← decodeL_drop, ext_drop]
  rfl
def quV : Option (Bs × Nat) → Value
  | some (w, k) => .tuple #[.string ⟨w.toArray⟩, .int .i64 ((k + 1 : Nat) : Int)]
  | none => .tuple #[.string ⟨#[]⟩, .int .i64 0]
theorem conv_own {w : World} {A : Option Addr} {n c : Nat} {l : Bs} (h : Own w tU8 1 (.slice A n c) n (byteCells l)) :
    (convert 34 9 (.slice A n c)).run Tryd.prog w = .ok (.string ⟨l.toArray⟩) w := by
  have hl : l.length = n := by have := h.1; simpa [byteCells] using this
  have hr := h.rd
  subst hl
  cases l with
  | nil =>
    show (convert 34 9 (.slice A 0 c)).run Tryd.prog w = .ok (.string ⟨#[]⟩) w
    rw [run_convert_bytes_string (P := Tryd.prog) w 34 9 5 A 0 c Tryd.underlying34 Tryd.underlying5 Tryd.underlying9]
    cases A <;> simp [Conv.bytesToString, loadCells]
    all_goals rfl
  | cons x l =>
    obtain ⟨b, o, e, hc⟩ := hr (by simp [byteCells])
    subst e
    exact run_convert_bytes_back (P := Tryd.prog) w 34 9 5 ⟨b, o, none⟩ c (x :: l) Tryd.underlying34 Tryd.underlying5 Tryd.underlying9 (fun j hj => by
      rw [show (⟨b, o, none⟩ : Addr).add j = ⟨b, o + j, none⟩ by unfold Addr.add; split <;> simp_all]
      exact hc j _ (by unfold byteCells; rw [List.getElem?_map, List.getElem?_eq_getElem hj]; rfl))
theorem hx_drop (L : Bs) (i k : Nat) : hx (L.drop i) k = hx L (i + k) := by unfold hx; rw [List.getElem?_drop]
theorem hx_lt {L : Bs} {i : Nat} (h : 0 ≤ hx L i) : i < L.length ∧ hx L i < 16 := by
  unfold hx at h ⊢
  cases hc : L[i]? with
  | none => rw [hc] at h; exact absurd h (by decide)
  | some c =>
    refine ⟨(List.getElem?_eq_some_iff.1 hc).1, ?_⟩
    simp only
    rw [hc] at h
    have h2 : ∀ (l : Bs) (c : UInt8), indexByte l c < (l.length : Int) ∨ indexByte l c = -1 := by
      intro l c
      induction l with
      | nil => exact .inr rfl
      | cons x l ih =>
        unfold indexByte
        split
        · left; simp only [List.length_cons]; omega
        · split
          · exact .inr rfl
          · rename_i h3
            rcases ih with ih | ih
            · left; simp only [List.length_cons]; omega
            · rw [ih] at h3; exact absurd rfl h3
    rcases h2 hexL c with h3 | h3
    · exact h3
    · rw [h3]; decide
theorem nib : ∀ a : Nat, a < 16 → ∀ b : Nat, b < 16 → bits BinOp.or IntKind.i64 (wrap64 ((a : Int) * 16)) (b : Int) % 256 = ((a * 16 + b : Nat) : Int) := of_decide_eq_true (by kernel_rfl)
theorem esc_hex {L : Bs} {i a b z : Nat} (hc : L[i + 1]? = some 120) (ha : hx L (i + 2) = (a : Int)) (hb : hx L (i + 3) = (b : Int)) (hz : a * 16 + b = z) : esc (L.drop i) = some ([z.toUInt8], 4) := by
  unfold esc
  rw [List.getElem?_drop, hc]
  show (if (120 : UInt8) = 34 ∨ (120 : UInt8) = 92 then _ else if (120 : UInt8) = 120 ∧ 0 ≤ hx (L.drop i) 2 ∧ 0 ≤ hx (L.drop i) 3 then some ([((hx (L.drop i) 2).toNat * 16 + (hx (L.drop i) 3).toNat).toUInt8], 4) else none) = _
  rw [if_neg (by decide), hx_drop, hx_drop, ha, hb, if_pos ⟨rfl, by omega, by omega⟩, Int.toNat_natCast, Int.toNat_natCast, hz]
theorem u8_back {z : Nat} (h : z < 256) : (z.toUInt8.toNat : Int) = (z : Int) := by
  have : z.toUInt8.toNat = z := by simp; omega
  rw [this]
theorem infoU8 : (Tryd.prog.info? tU8).map (fun i => (i.zero, i.size, i.bytes)) = some (some (.int .u8 0), 1, 1) := by kernel_rfl
theorem one_u8 (c : UInt8) : ∀ u ∈ [Value.int .u8 (c.toNat : Int)], u.oneCell' = true := by
  intro u hu
  simp only [List.mem_singleton] at hu
  subst hu; rfl
theorem tabs_bel {w w' : World} (h : Tabs w) (hb : Below w.heap.size w w') : Tabs w' := Utf8Tabs_below h hb
theorem item_odd {l : Bs} (h : oddR (ru l) = true) : item l = none := by unfold item; rw [if_pos h]
theorem item_plain {l : Bs} (h : oddR (ru l) = false) (h2 : ru l ≠ 92) : item l = some (l.take (wd l), wd l) := by
  unfold item; rw [if_neg (by rw [h]; decide), if_pos h2]
theorem item_esc {l : Bs} (h2 : ru l = 92) : item l = esc l := by
  unfold item; rw [if_neg (by rw [h2]; decide), if_neg (fun h => h h2)]
set_option maxHeartbeats 4000000 in
set_option maxRecDepth 1000000 in
theorem quoted_any (s : ByteArray) (w : World) (hs : s.size ≤ 140737488351232) (hT : Tabs w) :
    Calls Tryd.prog 26 #[.string s] w fun e w' => e = .returned (quV (qu s.data.toList.tail)) ∧ Below w.heap.size w w' := by
  obtain ⟨L, hL⟩ : ∃ L, s.data.toList = L := ⟨_, rfl⟩
  have HL := Lib.hid hL
  have HSZ := Lib.hid (show L.length = s.size by rw [← hL, size_eq])
  have HTB := Lib.hid hT
  rw [hL]
  clear hL hT
  go_enter Tryd.func26, Tryd.ntmps26
  go_wp2_with fail
  go_loopg [4, 5] s.size (fun gk s4 s5 wr => ∃ (i m cP : Nat) (P : Option Addr) (acc : Bs), s4 = .slice P m cP ∧ s5 = .int .i64 (i : Int) ∧ 1 ≤ i ∧ gk + i = s.size + 1 ∧ m + 1 ≤ i ∧ qu L.tail = (qu (L.drop i)).map (fun q => (acc ++ q.1, (i - 1) + q.2)) ∧ Sep w wr [tOwn tU8 1 (.slice P m cP) m (byteCells acc)])
  case atStart => exact ⟨1, 0, 0, none, [], rfl, rfl, Nat.le_refl _, by omega, by omega, by simp, (Sep.nil w).new (t := tOwn tU8 1 (.slice none 0 0) 0 (byteCells [])) (Below.refl _ _) (Own.nil _ _ _) (fun k hk => by cases hk)⟩
  case round =>
  obtain ⟨i, m, cP, P, acc, rfl, rfl, hi1, hgk, hmi, hqu, hs⟩ := hrel
  have HT := Lib.hid hs
  have HQ := Lib.hid hqu
  clear hs hqu
  by_cases hi : i < s.size
  case neg =>
    have q1 : decide ((i : Int) < (s.size : Int)) = false := by simp; omega
    have q2 : ¬ (i : Int) < (s.size : Int) := by omega
    have HR := Lib.hid (show qu L.tail = none by rw [HQ.out, List.drop_eq_nil_of_le (by rw [HSZ.out]; omega), qu_nil]; rfl)
    go_wp2_with fail
    go_returns
    exact ⟨by rw [HR.out]; rfl, HT.out.bel⟩
  have q1 : decide ((i : Int) < (s.size : Int)) = true := by simp; omega
  have q2 : (i : Int) < (s.size : Int) := by omega
  have q3 : (0 : Int) ≤ (i : Int) := by omega
  have HD := Lib.hid (go_drop hi)
  rw [HL.out] at HD
  have hne : L.drop i ≠ [] := drop_ne (by rw [HSZ.out]; exact hi)
  have hwl := wd_le hne
  rw [List.length_drop, HSZ.out] at hwl
  have hwp := wd_pos (L.drop i)
  have HEND := Lib.hid (fun h => qu_end hne h)
  have HNONE := Lib.hid (fun h h2 => qu_none (l := L.drop i) h h2)
  have HSTEP := Lib.hid (fun (p : Bs) (k : Nat) h h2 => qu_step (p := p) (k := k) hne h h2)
  have HODD := Lib.hid (fun h => item_odd (l := L.drop i) h)
  have HPLN := Lib.hid (fun h h2 => item_plain (l := L.drop i) h h2)
  have HESC := Lib.hid (fun h => item_esc (l := L.drop i) h)
  clear hne
  obtain ⟨r, hr⟩ : ∃ r, ru (L.drop i) = r := ⟨_, rfl⟩
  obtain ⟨d, hd⟩ : ∃ d, wd (L.drop i) = d := ⟨_, rfl⟩
  rw [hr] at HD HEND HNONE HSTEP HODD HPLN HESC
  rw [hd] at HD HPLN hwl hwp
  clear hr hd
  have HTK := Lib.hid (ext_take s i d)
  rw [HL.out] at HTK
  go_upto_region 6 with (go_at_call 19; refine (Tryd.utf8_DecodeRuneInString _ _ (tabs_bel HTB.out HT.out.bel)).mono ?_; rw [HD.out]; rintro e w4 ⟨rfl, hB⟩; have HT := Lib.hid (HT.out.step hB); clear hB)
  have hcv := conv_own HT.out.own
  by_cases h34 : r = 34
  · as_aux_lemma =>
      have e1 : ((r : Int) == 34) = true := by rw [h34]; rfl
      have hw1 : IntKind.i64.wrap ((i : Int) + 1) = (i : Int) + 1 := IntWalk.i64_in _ (by omega)
      have HR := Lib.hid (show qu L.tail = some (acc, i) by rw [HQ.out, HEND.out h34]; simp; omega)
      clear h34
      go_wp2_with fail
      go_returns
      exact ⟨by rw [HR.out]; rfl, HT.out.bel⟩
  clear hcv
  have e1 : ((r : Int) == 34) = false := by simp; omega
  have HNONE := Lib.hid (HNONE.out h34)
  have HSTEP := Lib.hid (fun p k => HSTEP.out p k h34)
  clear h34 HEND
  cases hod : oddR r with
  | true =>
    as_aux_lemma =>
      have HO := Lib.hid hod
      have HR := Lib.hid (show qu L.tail = none by rw [HQ.out, HNONE.out (HODD.out hod)]; rfl)
      clear hod
      go_wp2_with (go_at_call 21; refine (odd_any r _).mono ?_; rw [HO.out]; rintro e w5 ⟨rfl, rfl⟩)
      go_returns
      exact ⟨by rw [HR.out]; rfl, HT.out.bel⟩
  | false =>
  have HO := Lib.hid hod
  have HPLN := Lib.hid (HPLN.out hod)
  clear hod HODD
  by_cases h92 : r = 92
  case neg =>
    as_aux_lemma =>
      have e2 : ((r : Int) != 92) = true := by simp [bne]; omega
      have HI := Lib.hid (HPLN.out h92)
      have HS := Lib.hid (HSTEP.out _ _ HI.out)
      have hw1 : IntKind.i64.wrap ((i : Int) + (d : Int)) = (i : Int) + (d : Int) := IntWalk.i64_in _ (by omega)
      have q4 : (i : Int) + (d : Int) ≤ (s.size : Int) := by omega
      have q5 : (i : Int) ≤ (i : Int) + (d : Int) := by omega
      clear h92
      have hsz : (s.extract i (i + d)).size = d := by rw [size_eq, HTK.out, List.length_take, List.length_drop, HSZ.out]; omega
      have HX := Lib.hid hsz
      clear hsz
      have HST := Lib.hid (show byteCells acc ++ strCells (s.extract i (i + d)) = byteCells (acc ++ (L.drop i).take d) by rw [byteCells_append]; unfold strCells; rw [HTK.out]; rfl)
      have HBD := Lib.hid (show m + (s.extract i (i + d)).size ≤ 140737488355328 by rw [HX.out]; omega)
      go_wp2_with (first | (go_at_call 21; refine (odd_any r _).mono ?_; rw [HO.out]; rintro e w5 ⟨rfl, rfl⟩) | (at_builtin; refine appendS 34 9 tU8 HT.out.own (s.extract i (i + d)) HBD.out Tryd.underlying34 Tryd.underlying9 infoU8 (.tmp 32) (.tmp 38) rfl rfl rfl rfl ?_; intro v1 w1 ho1 hg1 hat1; rw [HX.out, HST.out] at ho1; obtain ⟨A1, c1, rfl, _⟩ := ho1.form; have HT := Lib.hid (HT.out.app ho1 hg1 hat1); clear ho1 hg1 hat1))
      go_roundg (s.size + 1 - (i + d))
      case measure => omega
      case rel => exact ⟨i + d, m + d, c1, A1, _, rfl, by push_cast; rfl, by omega, by omega, by omega, by
        rw [HQ.out, HS.out, List.drop_drop, Option.map_map]
        congr 1
        funext q
        simp only [Function.comp, List.append_assoc, Prod.mk.injEq, true_and]
        omega, HT.out⟩
  have e2 : ((r : Int) != 92) = false := by rw [h92]; rfl
  have HESC := Lib.hid (HESC.out h92)
  clear h92
  have hw1 : IntKind.i64.wrap ((i : Int) + 1) = (i : Int) + 1 := IntWalk.i64_in _ (by omega)
  have HNO : Hid (esc (L.drop i) = none → qu L.tail = none) := Lib.hid (fun h => by rw [HQ.out, HNONE.out (HESC.out.trans h)]; rfl)
  have HYES : Hid (∀ p k, esc (L.drop i) = some (p, k) → qu L.tail = (qu (L.drop (i + k))).map (fun q => ((acc ++ p) ++ q.1, (i + k - 1) + q.2))) := Lib.hid (fun p k h => by
    rw [HQ.out, HSTEP.out p k (HESC.out.trans h), List.drop_drop, Option.map_map]
    congr 1
    funext q
    simp only [Function.comp, List.append_assoc, Prod.mk.injEq, true_and]
    omega)
  clear HESC HSTEP HNONE HQ HPLN HTK HD
  by_cases hlt : i + 1 < s.size
  case neg =>
    as_aux_lemma =>
      have q4 : decide ((i : Int) + 1 < (s.size : Int)) = false := by simp; omega
      have q5 : ¬ (i : Int) + 1 < (s.size : Int) := by omega
      have HR := Lib.hid (HNO.out (by unfold esc; rw [List.getElem?_drop, List.getElem?_eq_none (by rw [HSZ.out]; omega)]))
      go_wp2_with (go_at_call 21; refine (odd_any r _).mono ?_; rw [HO.out]; rintro e w5 ⟨rfl, rfl⟩)
      go_returns
      exact ⟨by rw [HR.out]; rfl, HT.out.bel⟩
  have q4 : decide ((i : Int) + 1 < (s.size : Int)) = true := by simp; omega
  have q5 : (i : Int) + 1 < (s.size : Int) := by omega
  have q6 : (0 : Int) ≤ (i : Int) + 1 := by omega
  obtain ⟨c, hc, hc2⟩ := byte_at hlt
  rw [HL.out] at hc2
  have HC := Lib.hid hc2
  clear hc2
  have HBD := Lib.hid (show (m + 1) * 1 ≤ 140737488355328 by omega)
  by_cases hq : c = 34 ∨ c = 92
  · as_aux_lemma =>
      have HE := Lib.hid (HYES.out [c] 2 (by unfold esc; rw [List.getElem?_drop, HC.out]; simp only; rw [if_pos hq]))
      have HST := Lib.hid (show byteCells acc ++ [Value.int .u8 (c.toNat : Int)] = byteCells (acc ++ [c]) by rw [byteCells_append]; rfl)
      have hw2 : IntKind.i64.wrap ((i : Int) + 2) = (i : Int) + 2 := IntWalk.i64_in _ (by omega)
      have hcc : c.toNat = 34 ∨ c.toNat = 92 := by rcases hq with h | h <;> rw [h] <;> decide
      clear hq HNO HYES
      rcases hcc with hcc | hcc
      · have e3 : ((c.toNat : Int) == 34) = true := by rw [hcc]; rfl
        clear hcc
        go_wp2_with (first | (go_at_call 21; refine (odd_any r _).mono ?_; rw [HO.out]; rintro e w5 ⟨rfl, rfl⟩) | (at_builtin; refine app1O 34 tU8 (.int .u8 0) 1 1 [.int .u8 (c.toNat : Int)] HT.out.own HBD.out Tryd.underlying34 infoU8 rfl (by decide) (by decide) rfl (one_u8 c) (.tmp 63) (.tmp 68) rfl rfl rfl rfl ?_; intro v1 w11 ho1 hg1 hat1; rw [HST.out] at ho1; obtain ⟨A1, c1, rfl, _⟩ := ho1.form; have HT := Lib.hid (HT.out.appG ho1 hg1 hat1); clear ho1 hg1 hat1))
        go_roundg (s.size + 1 - (i + 2))
        case measure => omega
        case rel => exact ⟨i + 2, m + 1, c1, A1, _, rfl, by push_cast; rfl, by omega, by omega, by omega, HE.out, HT.out⟩
      · have e3 : ((c.toNat : Int) == 34) = false := by rw [hcc]; rfl
        have e4 : ((c.toNat : Int) == 92) = true := by rw [hcc]; rfl
        clear hcc
        go_wp2_with (first | (go_at_call 21; refine (odd_any r _).mono ?_; rw [HO.out]; rintro e w5 ⟨rfl, rfl⟩) | (at_builtin; refine app1O 34 tU8 (.int .u8 0) 1 1 [.int .u8 (c.toNat : Int)] HT.out.own HBD.out Tryd.underlying34 infoU8 rfl (by decide) (by decide) rfl (one_u8 c) (.tmp 63) (.tmp 68) rfl rfl rfl rfl ?_; intro v1 w11 ho1 hg1 hat1; rw [HST.out] at ho1; obtain ⟨A1, c1, rfl, _⟩ := ho1.form; have HT := Lib.hid (HT.out.appG ho1 hg1 hat1); clear ho1 hg1 hat1))
        go_roundg (s.size + 1 - (i + 2))
        case measure => omega
        case rel => exact ⟨i + 2, m + 1, c1, A1, _, rfl, by push_cast; rfl, by omega, by omega, by omega, HE.out, HT.out⟩
  have HNQ := Lib.hid hq
  have hcn : c.toNat ≠ 34 ∧ c.toNat ≠ 92 := ⟨fun h => hq (.inl (UInt8.toNat_inj.1 h)), fun h => hq (.inr (UInt8.toNat_inj.1 h))⟩
  have e3 : ((c.toNat : Int) == 34) = false := by simp; omega
  have e4 : ((c.toNat : Int) == 92) = false := by simp; omega
  clear hcn hq
  have HESC2 := Lib.hid (show esc (L.drop i) = if c = 120 ∧ 0 ≤ hx L (i + 2) ∧ 0 ≤ hx L (i + 3) then some ([((hx L (i + 2)).toNat * 16 + (hx L (i + 3)).toNat).toUInt8], 4) else none by
    unfold esc
    rw [List.getElem?_drop, HC.out]
    simp only
    rw [if_neg HNQ.out, hx_drop, hx_drop])
  by_cases hx0 : c.toNat = 120
  case neg =>
    as_aux_lemma =>
      have e5 : ((c.toNat : Int) == 120) = false := by simp; omega
      have HR := Lib.hid (HNO.out (by rw [HESC2.out, if_neg (fun h => hx0 (by rw [h.1]; rfl))]))
      clear hx0
      go_wp2_with (go_at_call 21; refine (odd_any r _).mono ?_; rw [HO.out]; rintro e w5 ⟨rfl, rfl⟩)
      go_returns
      exact ⟨by rw [HR.out]; rfl, HT.out.bel⟩
  have e5 : ((c.toNat : Int) == 120) = true := by rw [hx0]; rfl
  have HX0 := Lib.hid (show c = 120 from UInt8.toNat_inj.1 hx0)
  clear hx0
  have hw2 : IntKind.i64.wrap ((i : Int) + 2) = (i : Int) + 2 := IntWalk.i64_in _ (by omega)
  have hw3 : IntKind.i64.wrap ((i : Int) + 3) = (i : Int) + 3 := IntWalk.i64_in _ (by omega)
  have hw4 : IntKind.i64.wrap ((i : Int) + 4) = (i : Int) + 4 := IntWalk.i64_in _ (by omega)
  have HH2 := Lib.hid (fun (w : World) => show Calls Tryd.prog 37 #[.string s, .int .i64 ((i : Int) + 2)] w fun e w' => e = .returned (.int .i64 (hx L (i + 2))) ∧ w' = w by
    have := hx_any s (i + 2) w hs
    rw [HL.out] at this
    exact this)
  have HH3 := Lib.hid (fun (w : World) => show Calls Tryd.prog 37 #[.string s, .int .i64 ((i : Int) + 3)] w fun e w' => e = .returned (.int .i64 (hx L (i + 3))) ∧ w' = w by
    have := hx_any s (i + 3) w hs
    rw [HL.out] at this
    exact this)
  have HLT := Lib.hid (hx_lt (L := L) (i := i + 2))
  have HLT3 := Lib.hid (hx_lt (L := L) (i := i + 3))
  obtain ⟨a, ha⟩ : ∃ a, hx L (i + 2) = a := ⟨_, rfl⟩
  obtain ⟨b, hb⟩ : ∃ b, hx L (i + 3) = b := ⟨_, rfl⟩
  have HAB := Lib.hid (And.intro ha hb)
  rw [ha] at HH2 HLT HESC2
  rw [hb] at HH3 HLT3 HESC2
  clear ha hb
  by_cases h2 : 0 ≤ a
  case neg =>
    as_aux_lemma =>
      have e6 : decide ((0 : Int) ≤ a) = false := decide_eq_false h2
      have HR := Lib.hid (HNO.out (by rw [HESC2.out, if_neg (fun h => h2 h.2.1)]))
      clear h2
      go_wp2_with (first | (go_at_call 21; refine (odd_any r _).mono ?_; rw [HO.out]; rintro e w5 ⟨rfl, rfl⟩) | (go_at_call 37; refine (HH2.out _).mono ?_; rintro e w5 ⟨rfl, rfl⟩))
      go_returns
      exact ⟨by rw [HR.out]; rfl, HT.out.bel⟩
  have e6 : decide ((0 : Int) ≤ a) = true := decide_eq_true h2
  by_cases h3 : 0 ≤ b
  case neg =>
    as_aux_lemma =>
      have e7 : decide ((0 : Int) ≤ b) = false := decide_eq_false h3
      have HR := Lib.hid (HNO.out (by rw [HESC2.out, if_neg (fun h => h3 h.2.2)]))
      clear h2 h3
      go_wp2_with (first | (go_at_call 21; refine (odd_any r _).mono ?_; rw [HO.out]; rintro e w5 ⟨rfl, rfl⟩) | (go_at_call 37; with_reducible refine (HH2.out _).mono ?_; rintro e w5 ⟨rfl, rfl⟩) | (go_at_call 37; with_reducible refine (HH3.out _).mono ?_; rintro e w5 ⟨rfl, rfl⟩))
      go_returns
      exact ⟨by rw [HR.out]; rfl, HT.out.bel⟩
  have e7 : decide ((0 : Int) ≤ b) = true := decide_eq_true h3
  as_aux_lemma =>
    have hi3 : i + 3 < s.size := by rw [← HSZ.out]; exact (HLT3.out h3).1
    obtain ⟨a, rfl⟩ := Int.eq_ofNat_of_zero_le h2
    obtain ⟨b, rfl⟩ := Int.eq_ofNat_of_zero_le h3
    have ha := (HLT.out h2).2
    have hb := (HLT3.out h3).2
    have hna : a < 16 := by omega
    have hnb : b < 16 := by omega
    clear ha hb
    obtain ⟨z, hz⟩ : ∃ z, a * 16 + b = z := ⟨_, rfl⟩
    have hz256 : z < 256 := by omega
    have hnib := nib a hna b hnb
    rw [hz] at hnib
    have HE := Lib.hid (HYES.out [z.toUInt8] 4 (esc_hex (by rw [← HX0.out]; exact HC.out) HAB.out.1 HAB.out.2 hz))
    have hu8 := u8_back hz256
    have HST := Lib.hid (show byteCells acc ++ [Value.int .u8 (z : Int)] = byteCells (acc ++ [z.toUInt8]) by rw [byteCells_append, ← hu8]; rfl)
    have HON := Lib.hid (show ∀ u ∈ [Value.int .u8 (z : Int)], u.oneCell' = true from fun u hu => by
      simp only [List.mem_singleton] at hu
      subst hu; rfl)
    have HZ := Lib.hid hz
    clear hz
    clear HNO HYES HESC2 hna hnb hu8 h2 h3 hz256
    go_upto_region 17 with (first | (go_at_call 21; refine (odd_any r _).mono ?_; rw [HO.out]; rintro e w5 ⟨rfl, rfl⟩) | (go_at_call 37; with_reducible refine (HH2.out _).mono ?_; rintro e w5 ⟨rfl, rfl⟩) | (go_at_call 37; with_reducible refine (HH3.out _).mono ?_; rintro e w5 ⟨rfl, rfl⟩))
    go_wp2_with (first | (go_at_call 37; with_reducible refine (HH2.out _).mono ?_; rintro e w5 ⟨rfl, rfl⟩) | (go_at_call 37; with_reducible refine (HH3.out _).mono ?_; rintro e w5 ⟨rfl, rfl⟩) | (at_builtin; refine app1O 34 tU8 (.int .u8 0) 1 1 [.int .u8 (z : Int)] HT.out.own HBD.out Tryd.underlying34 infoU8 rfl (by decide) (by decide) rfl HON.out (.tmp 99) (.tmp 111) rfl rfl rfl rfl ?_; intro v1 w11 ho1 hg1 hat1; rw [HST.out] at ho1; obtain ⟨A1, c1, rfl, _⟩ := ho1.form; have HT := Lib.hid (HT.out.appG ho1 hg1 hat1); clear ho1 hg1 hat1))
    go_roundg (s.size + 1 - (i + 4))
    case measure => clear hnib; omega
    case rel =>
      clear hnib
      exact ⟨i + 4, m + 1, c1, A1, _, rfl, by push_cast; rfl, by omega, by omega, by omega, HE.out, HT.out⟩
end Go.Proofs.YtjjdefkaohbmjaaDoor
