/- The walk of the law TokenNumbers: it returns true. Condition: utf8's tables lie where they should. -/
import Derived.Test.YtjjdefkaohbmjaaDoorTokA
import Derived.Test.YtjjdefkaohbmjaaDoorTokI
import Derived.Test.YtjjdefkaohbmjaaDoorTokD
set_option linter.unusedVariables false
set_option linter.unusedSimpArgs false
namespace Go.Proofs.YtjjdefkaohbmjaaDoor
open Go.RowKit Go.Lib
set_option maxHeartbeats 8000000 in
set_option maxRecDepth 1000000 in
theorem w_TokenNumbers (a0 : Int) (w : World) (b0 : -9223372036854775808 ≤ a0 ∧ a0 ≤ 9223372036854775807) (hT : Tabs w) :
    Calls Tryd.prog 8 #[.int .i64 a0] w fun e w' => e = .returned (.bool true) ∧ Below w.heap.size w w' := by
  have HTB := Lib.hid hT
  clear hT
  go_enter Tryd.func8, Tryd.ntmps8
  go_wp2_with fail
  refine (awake_any _ HTB.out).mono ?_
  rintro e w1 ⟨rfl, hB1⟩
  have HT := Lib.hid ((Sep.nil w).step hB1)
  clear hB1
  by_cases hneg : a0 < 0
  · have q1 : decide (a0 < 0) = true := by simp; omega
    obtain ⟨u, hu⟩ : ∃ u : Nat, a0 = -(u : Int) := ⟨a0.natAbs, by omega⟩
    have hul : u ≤ 9223372036854775808 := by omega
    have hu0 : u ≠ 0 := by omega
    have hwu : IntKind.u64.wrap (-IntKind.u64.wrap a0) = (u : Int) := by rw [IntKind.wrap_u64, IntKind.wrap_u64]; omega
    have HN1 := Lib.hid (number_neg hul hu0)
    have HN2 := Lib.hid (number_zero (S := 45 :: d10 u) (by simp))
    have HN3 := Lib.hid (number_nbl u)
    have HU := Lib.hid hu
    have HWU := Lib.hid hwu
    clear hu hwu
    go_upto_region 7 with fail
    rw [HWU.out]
    clear HWU
    go_loopg [3, 4] 19 (fun gk s3 s4 wr => ∃ (v : Nat) (acc : Bs), s3 = .string (ba acc) ∧ s4 = .int .u64 (v : Int) ∧ d10 u = d10F gk v ++ acc ∧ v < 10 ^ gk ∧ acc.length + gk ≤ 19 ∧ Sep w wr [])
    case atStart => exact ⟨u, [], rfl, rfl, (List.append_nil _).symm, Nat.lt_of_le_of_lt hul p1019, by simp, HT.out⟩
    case round =>
    obtain ⟨v, acc, rfl, rfl, hd, hv, hal, hs⟩ := hrel
    have HT := Lib.hid hs
    have HD := Lib.hid hd
    have hv2 : v < 10 ^ 19 := Nat.lt_of_lt_of_le hv (Nat.pow_le_pow_right (by decide) (by omega))
    have hv3 : v < 10000000000000000000 := hv2
    have HV := Lib.hid hv
    clear hs hd hv hv2
    have HX := Lib.hid (show ba [dg v] ++ ba acc = ba (dg v :: acc) from ba_app [dg v] acc)
    have hxs := ba_size acc
    have hys := ba_size [dg v]
    have hcv : (convert 34 9 (.slice (some ⟨wr.heap.size, 0, none⟩) 1 1)).run Tryd.prog (wr.alloc (.cells #[.int .u8 (48 + (v : Int) % 10)] 5)) = .ok (.string (ba [dg v])) (wr.alloc (.cells #[.int .u8 (48 + (v : Int) % 10)] 5)) :=
      conv_own (Own.made wr #[.int .u8 (48 + (v : Int) % 10)] tU8 1 1 (byteCells [dg v]) rfl (by decide) (by
        show [Value.int .u8 (48 + (v : Int) % 10)] = [Value.int .u8 ((dg v).toNat : Int)]
        rw [dg_nat]
        push_cast
        rfl) rfl)
    have HT := Lib.hid (HT.out.alloc (.cells #[.int .u8 (48 + (v : Int) % 10)] 5))
    obtain ⟨x, hx⟩ : ∃ x, ba acc = x := ⟨_, rfl⟩
    obtain ⟨y, hy⟩ : ∃ y, ba [dg v] = y := ⟨_, rfl⟩
    rw [hx] at HX hxs ⊢
    rw [hy] at HX hys hcv
    have hxs2 : x.size ≤ 20 := by omega
    have hys2 : y.size ≤ 1 := by rw [hys]; exact Nat.le_refl _
    clear hx hy hxs hys
    have q2 : (0 : Int) ≤ (v : Int) := by omega
    have q3 : (v : Int) ≤ 18446744073709551615 := by omega
    by_cases hz : v / 10 = 0
    case neg =>
      have e3 : ((v : Int) / 10 == 0) = false := by simp; omega
      have HZ := Lib.hid hz
      clear hz
      as_aux_lemma =>
        go_wp2_with fail
        cases gk with
        | zero =>
          have := HV.out
          have := HZ.out
          exact absurd HZ.out (by omega)
        | succ f =>
          go_roundg f
          case measure => omega
          case rel => exact ⟨v / 10, dg v :: acc, by rw [HX.out], by push_cast; rfl, by rw [HD.out, d10F_step HZ.out, List.append_assoc]; rfl, lt10 HV.out, by rw [List.length_cons]; omega, HT.out⟩
    have e3 : ((v : Int) / 10 == 0) = true := by simp; omega
    have HE := Lib.hid (show d10 u = dg v :: acc by rw [HD.out, d10F_end hz]; rfl)
    have hal2 : acc.length ≤ 19 := by omega
    clear HD HV hz hal
    rw [HE.out] at HN1 HN2 HN3
    have HQ := Lib.hid (show ({ data := #[45] } : ByteArray) ++ (y ++ x) = ba (45 :: dg v :: acc) by rw [HX.out]; exact ba_app [45] (dg v :: acc))
    have hyx : (y ++ x).size ≤ 21 := by rw [ByteArray.size_append]; omega
    have HC1 := Lib.hid (fun (W : World) => Number_any (ba (45 :: dg v :: acc)) W)
    have HC2 := Lib.hid (fun (W : World) => Number_any (ba (48 :: 45 :: dg v :: acc)) W)
    have HC3 := Lib.hid (fun (W : World) => Number_any (ba (45 :: dg v :: acc ++ [32])) W)
    rw [ba_list, HN1.out] at HC1
    rw [ba_list, HN2.out] at HC2
    rw [ba_list, HN3.out] at HC3
    have HQ2 := Lib.hid (show ba (48 :: 45 :: dg v :: acc) = ({ data := #[48] } : ByteArray) ++ ba (45 :: dg v :: acc) from (ba_app [48] (45 :: dg v :: acc)).symm)
    have HQ3 := Lib.hid (show ba (45 :: dg v :: acc ++ [32]) = ba (45 :: dg v :: acc) ++ ({ data := #[32] } : ByteArray) from (ba_app (45 :: dg v :: acc) [32]).symm)
    rw [HQ2.out] at HC2
    rw [HQ3.out] at HC3
    have hss := ba_size (45 :: dg v :: acc)
    have hsl : List.length (45 :: dg v :: acc) ≤ 22 := by simp only [List.length_cons]; omega
    obtain ⟨s, hs⟩ : ∃ s, ba (45 :: dg v :: acc) = s := ⟨_, rfl⟩
    rw [hs] at HQ HC1 HC2 HC3 hss
    clear hs HQ2 HQ3 HX
    have hsz : s.size ≤ 22 := by omega
    clear hsl hss HN1 HN2 HN3
    go_upto_region 12 with fail
    rw [HQ.out]
    clear HQ hcv
    generalize wr.alloc (.cells #[.int .u8 (48 + (v : Int) % 10)] 5) = W0 at *
    have HC2 : Hid (∀ (W : World), Calls Tryd.prog 16 #[.string ({ data := #[48] } ++ s)] W fun e w' => e = .returned (.tuple #[.int .i64 0, .int .i64 4]) ∧ Below W.heap.size W w') := HC2
    have HC3 : Hid (∀ (W : World), Calls Tryd.prog 16 #[.string (s ++ { data := #[32] })] W fun e w' => e = .returned (.tuple #[.int .i64 0, .int .i64 4]) ∧ Below W.heap.size W w') := HC3
    clear q2 q3 e3 hv3
    by_cases hbig : 4611686018427387904 < u
    · as_aux_lemma =>
        rw [if_pos hbig] at HC1
        have HC1 : Hid (∀ (W : World), Calls Tryd.prog 16 #[.string s] W fun e w' => e = .returned (.tuple #[.int .i64 0, .int .i64 4]) ∧ Below W.heap.size W w') := HC1
        have hu := HU.out
        have e1 : decide ((4611686018427387904 : Int) < a0) = false := by simp; omega
        have e2 : decide (a0 < (-4611686018427387904 : Int)) = true := by simp; omega
        have e3 : ¬ (4611686018427387904 : Int) < a0 := by omega
        have e4 : a0 < (-4611686018427387904 : Int) := by omega
        clear hu
        go_wp2_with (go_at_call 16; with_reducible refine (HC1.out _).mono ?_; rintro e w5 ⟨rfl, hB⟩; have HT := Lib.hid (HT.out.step hB); clear hB)
        go_ret
        exact ⟨rfl, HT.out.bel⟩
    · as_aux_lemma =>
        rw [if_neg hbig] at HC1
        have HC1 : Hid (∀ (W : World), Calls Tryd.prog 16 #[.string s] W fun e w' => e = .returned (.tuple #[.int .i64 (-(u : Int)), .int .i64 0]) ∧ Below W.heap.size W w') := HC1
        rw [← HU.out] at HC1
        have hu := HU.out
        have e1 : decide ((4611686018427387904 : Int) < a0) = false := by simp; omega
        have e2 : decide (a0 < (-4611686018427387904 : Int)) = false := by simp; omega
        have e3 : ¬ (4611686018427387904 : Int) < a0 := by omega
        have e4 : ¬ a0 < (-4611686018427387904 : Int) := by omega
        have e5 : (a0 == a0) = true := by simp
        clear hu
        go_wp2_with (first | (go_at_call 16; with_reducible refine (HC1.out _).mono ?_; rintro e w5 ⟨rfl, hB⟩; have HT := Lib.hid (HT.out.step hB); clear hB) | (go_at_call 16; with_reducible refine (HC2.out _).mono ?_; rintro e w6 ⟨rfl, hB⟩; have HT := Lib.hid (HT.out.step hB); clear hB) | (go_at_call 16; with_reducible refine (HC3.out _).mono ?_; rintro e w7 ⟨rfl, hB⟩; have HT := Lib.hid (HT.out.step hB); clear hB))
        go_ret
        exact ⟨rfl, HT.out.bel⟩
  · have q1 : decide (a0 < 0) = false := by simp; omega
    obtain ⟨u, hu⟩ : ∃ u : Nat, a0 = (u : Int) := ⟨a0.natAbs, by omega⟩
    have hul : u ≤ 9223372036854775808 := by omega
    have HN1 := Lib.hid (number_pos hul)
    have HN2 := Lib.hid (number_zero (S := d10 u) (d10F_ne 19 u))
    have HN3 := Lib.hid (number_bl u)
    have HU := Lib.hid hu
    clear hu
    go_upto_region 7 with fail
    rw [HU.out]
    clear q1 hneg b0
    have q1 : decide ((u : Int) < 0) = false := by simp
    go_loopg [3, 4] 19 (fun gk s3 s4 wr => ∃ (v : Nat) (acc : Bs), s3 = .string (ba acc) ∧ s4 = .int .u64 (v : Int) ∧ d10 u = d10F gk v ++ acc ∧ v < 10 ^ gk ∧ acc.length + gk ≤ 19 ∧ Sep w wr [])
    case atStart => exact ⟨u, [], rfl, rfl, (List.append_nil _).symm, Nat.lt_of_le_of_lt hul p1019, by simp, HT.out⟩
    case round =>
    obtain ⟨v, acc, rfl, rfl, hd, hv, hal, hs⟩ := hrel
    have HT := Lib.hid hs
    have HD := Lib.hid hd
    have hv2 : v < 10 ^ 19 := Nat.lt_of_lt_of_le hv (Nat.pow_le_pow_right (by decide) (by omega))
    have hv3 : v < 10000000000000000000 := hv2
    have HV := Lib.hid hv
    clear hs hd hv hv2
    have HX := Lib.hid (show ba [dg v] ++ ba acc = ba (dg v :: acc) from ba_app [dg v] acc)
    have hxs := ba_size acc
    have hys := ba_size [dg v]
    have hcv : (convert 34 9 (.slice (some ⟨wr.heap.size, 0, none⟩) 1 1)).run Tryd.prog (wr.alloc (.cells #[.int .u8 (48 + (v : Int) % 10)] 5)) = .ok (.string (ba [dg v])) (wr.alloc (.cells #[.int .u8 (48 + (v : Int) % 10)] 5)) :=
      conv_own (Own.made wr #[.int .u8 (48 + (v : Int) % 10)] tU8 1 1 (byteCells [dg v]) rfl (by decide) (by
        show [Value.int .u8 (48 + (v : Int) % 10)] = [Value.int .u8 ((dg v).toNat : Int)]
        rw [dg_nat]
        push_cast
        rfl) rfl)
    have HT := Lib.hid (HT.out.alloc (.cells #[.int .u8 (48 + (v : Int) % 10)] 5))
    obtain ⟨x, hx⟩ : ∃ x, ba acc = x := ⟨_, rfl⟩
    obtain ⟨y, hy⟩ : ∃ y, ba [dg v] = y := ⟨_, rfl⟩
    rw [hx] at HX hxs ⊢
    rw [hy] at HX hys hcv
    have hxs2 : x.size ≤ 20 := by omega
    have hys2 : y.size ≤ 1 := by rw [hys]; exact Nat.le_refl _
    clear hx hy hxs hys
    have q2 : (0 : Int) ≤ (v : Int) := by omega
    have q3 : (v : Int) ≤ 18446744073709551615 := by omega
    by_cases hz : v / 10 = 0
    case neg =>
      have e3 : ((v : Int) / 10 == 0) = false := by simp; omega
      have HZ := Lib.hid hz
      clear hz
      as_aux_lemma =>
        go_wp2_with fail
        cases gk with
        | zero =>
          have := HV.out
          have := HZ.out
          exact absurd HZ.out (by omega)
        | succ f =>
          go_roundg f
          case measure => omega
          case rel => exact ⟨v / 10, dg v :: acc, by rw [HX.out], by push_cast; rfl, by rw [HD.out, d10F_step HZ.out, List.append_assoc]; rfl, lt10 HV.out, by rw [List.length_cons]; omega, HT.out⟩
    have e3 : ((v : Int) / 10 == 0) = true := by simp; omega
    have HE := Lib.hid (show d10 u = dg v :: acc by rw [HD.out, d10F_end hz]; rfl)
    have hal2 : acc.length ≤ 19 := by omega
    clear HD HV hz hal
    rw [HE.out] at HN1 HN2 HN3
    have HQ := HX
    have HC1 := Lib.hid (fun (W : World) => Number_any (ba (dg v :: acc)) W)
    have HC2 := Lib.hid (fun (W : World) => Number_any (ba (48 :: dg v :: acc)) W)
    have HC3 := Lib.hid (fun (W : World) => Number_any (ba (dg v :: acc ++ [32])) W)
    rw [ba_list, HN1.out] at HC1
    rw [ba_list, HN2.out] at HC2
    rw [ba_list, HN3.out] at HC3
    have HQ2 := Lib.hid (show ba (48 :: dg v :: acc) = ({ data := #[48] } : ByteArray) ++ ba (dg v :: acc) from (ba_app [48] (dg v :: acc)).symm)
    have HQ3 := Lib.hid (show ba (dg v :: acc ++ [32]) = ba (dg v :: acc) ++ ({ data := #[32] } : ByteArray) from (ba_app (dg v :: acc) [32]).symm)
    rw [HQ2.out] at HC2
    rw [HQ3.out] at HC3
    have hss := ba_size (dg v :: acc)
    have hsl : List.length (dg v :: acc) ≤ 22 := by simp only [List.length_cons]; omega
    obtain ⟨s, hs⟩ : ∃ s, ba (dg v :: acc) = s := ⟨_, rfl⟩
    rw [hs] at HQ HC1 HC2 HC3 hss
    clear hs HQ2 HQ3 HX
    have hsz : s.size ≤ 22 := by omega
    clear hsl hss HN1 HN2 HN3
    go_upto_region 12 with fail
    rw [HQ.out]
    clear HQ hcv
    generalize wr.alloc (.cells #[.int .u8 (48 + (v : Int) % 10)] 5) = W0 at *
    have HC2 : Hid (∀ (W : World), Calls Tryd.prog 16 #[.string ({ data := #[48] } ++ s)] W fun e w' => e = .returned (.tuple #[.int .i64 0, .int .i64 4]) ∧ Below W.heap.size W w') := HC2
    have HC3 : Hid (∀ (W : World), Calls Tryd.prog 16 #[.string (s ++ { data := #[32] })] W fun e w' => e = .returned (.tuple #[.int .i64 0, .int .i64 4]) ∧ Below W.heap.size W w') := HC3
    clear q2 q3 e3 hv3
    by_cases hbig : 4611686018427387904 < u
    · as_aux_lemma =>
        rw [if_pos hbig] at HC1
        have HC1 : Hid (∀ (W : World), Calls Tryd.prog 16 #[.string s] W fun e w' => e = .returned (.tuple #[.int .i64 0, .int .i64 4]) ∧ Below W.heap.size W w') := HC1
        have e1 : decide ((4611686018427387904 : Int) < (u : Int)) = true := by simp; omega
        have e3 : (4611686018427387904 : Int) < (u : Int) := by omega
        go_wp2_with (go_at_call 16; with_reducible refine (HC1.out _).mono ?_; rintro e w5 ⟨rfl, hB⟩; have HT := Lib.hid (HT.out.step hB); clear hB)
        go_ret
        exact ⟨rfl, HT.out.bel⟩
    · as_aux_lemma =>
        rw [if_neg hbig] at HC1
        have HC1 : Hid (∀ (W : World), Calls Tryd.prog 16 #[.string s] W fun e w' => e = .returned (.tuple #[.int .i64 ((u : Int)), .int .i64 0]) ∧ Below W.heap.size W w') := HC1
        have e1 : decide ((4611686018427387904 : Int) < (u : Int)) = false := by simp; omega
        have e2 : decide ((u : Int) < (-4611686018427387904 : Int)) = false := decide_eq_false (by omega)
        have e3 : ¬ (4611686018427387904 : Int) < (u : Int) := by omega
        have e4 : ¬ (u : Int) < (-4611686018427387904 : Int) := by omega
        have e5 : ((u : Int) == (u : Int)) = true := by simp
        go_wp2_with (first | (go_at_call 16; with_reducible refine (HC1.out _).mono ?_; rintro e w5 ⟨rfl, hB⟩; have HT := Lib.hid (HT.out.step hB); clear hB) | (go_at_call 16; with_reducible refine (HC2.out _).mono ?_; rintro e w6 ⟨rfl, hB⟩; have HT := Lib.hid (HT.out.step hB); clear hB) | (go_at_call 16; with_reducible refine (HC3.out _).mono ?_; rintro e w7 ⟨rfl, hB⟩; have HT := Lib.hid (HT.out.step hB); clear hB))
        go_ret
        exact ⟨rfl, HT.out.bel⟩
end Go.Proofs.YtjjdefkaohbmjaaDoor
