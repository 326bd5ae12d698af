/- The walk of the law TokenMany: it returns true. Condition: utf8's tables lie where they should. -/
import Derived.Test.YtjjdefkaohbmjaaDoorTokA
import Derived.Test.YtjjdefkaohbmjaaDoorTokI
set_option linter.unusedVariables false
set_option linter.unusedSimpArgs false
namespace Go.Proofs.YtjjdefkaohbmjaaDoor
open Go.RowKit Go.Lib
set_option maxHeartbeats 8000000 in
set_option maxRecDepth 1000000 in
theorem w_TokenMany (a0 : Int) (a1 : ByteArray) (w : World) (b0 : 0 ≤ a0 ∧ a0 ≤ 255) (b1 : a1.size ≤ 140737488351232) (hT : Tabs w) :
    Calls Tryd.prog 4 #[.int .u8 a0, .string a1] w fun e w' => e = .returned (.bool true) ∧ Below w.heap.size w w' := by
  obtain ⟨L, hL⟩ : ∃ L, a1.data.toList = L := ⟨_, rfl⟩
  have HSZ := Lib.hid (show L.length = a1.size by rw [← hL, size_eq])
  have HL := Lib.hid hL
  have HTB := Lib.hid hT
  clear hL hT
  go_enter Tryd.func4, Tryd.ntmps4
  go_wp2_with fail
  refine (awake_any _ HTB.out).mono ?_
  rintro e w1 ⟨rfl, hB1⟩
  have HT := Lib.hid ((Sep.nil w).step hB1)
  clear hB1
  by_cases h2k : 2048 < a1.size
  · have q1 : decide ((2048 : Int) < (a1.size : Int)) = true := by simp; omega
    have q2 : (2048 : Int) < (a1.size : Int) := by omega
    go_wp2_with fail
    go_ret
    exact ⟨rfl, HT.out.bel⟩
  have q1 : decide ((2048 : Int) < (a1.size : Int)) = false := by simp; omega
  have q2 : ¬ (2048 : Int) < (a1.size : Int) := by omega
  have HQU := Lib.hid (fun (W : World) (h : Tabs W) => Quote_any a1 W (by omega) h)
  rw [HL.out] at HQU
  go_upto_region 6 with fail
  obtain ⟨n, hn⟩ : ∃ n : Nat, a0 % 20 = (n : Int) := ⟨(a0 % 20).toNat, by omega⟩
  have hn20 : n < 20 := by omega
  rw [hn]
  clear hn
  have hqs := ba_size (quote L)
  have hqx := quote_le L
  rw [HSZ.out] at hqx
  have HRS : Hid (∀ k, k ≤ 20 → (ba (rp k L)).size ≤ 200000) := Lib.hid (fun k hk => by
    rw [ba_size, rp_len]
    have := Nat.mul_le_mul hk (show (quote L).length + 1 ≤ 10000 by omega)
    omega)
  have HRQ : Hid (∀ k, ba (rp k L) ++ (ba (quote L) ++ { data := #[32] }) = ba (rp (k + 1) L)) := Lib.hid (fun k => by
    rw [rp_succ, ← ba_app, ← ba_app])
  obtain ⟨q, hq⟩ : ∃ q, ba (quote L) = q := ⟨_, rfl⟩
  rw [hq] at HQU HRQ hqs
  clear hq
  have hqz : q.size ≤ 10000 := by omega
  have hqz2 : (q ++ { data := #[32] }).size ≤ 10001 := by rw [ByteArray.size_append]; exact Nat.add_le_add_right hqz 1
  clear hqs hqx
  go_wp2_with fail
  go_loopg [6, 7] n (fun gk s6 s7 wr => ∃ (k : Nat), s7 = .int .i64 (k : Int) ∧ k + gk = n ∧ s6 = .string (ba (rp k L)) ∧ Sep w wr [])
  case atStart => exact ⟨0, rfl, by omega, rfl, HT.out⟩
  case round =>
  obtain ⟨k, rfl, hgk, rfl, hs⟩ := hrel
  have HT := Lib.hid hs
  clear hs
  by_cases hkn : k < n
  · as_aux_lemma =>
      have q3 : decide ((k : Int) < (n : Int)) = true := by simp; omega
      have q4 : (k : Int) < (n : Int) := by omega
      have hwk : IntKind.i64.wrap ((k : Int) + 1) = (k : Int) + 1 := IntWalk.i64_in _ (by omega)
      have hx1 := HRS.out k (by omega)
      have HX2 := Lib.hid (HRQ.out k)
      obtain ⟨x, hx⟩ : ∃ x, ba (rp k L) = x := ⟨_, rfl⟩
      rw [hx] at hx1 HX2 ⊢
      clear hx
      go_wp2_with (go_at_call 12; with_reducible refine (HQU.out _ (tabs_bel HTB.out HT.out.bel)).mono ?_; rintro e w2 ⟨rfl, hB⟩; have HT := Lib.hid (HT.out.step hB); clear hB)
      go_roundg (n - (k + 1))
      case measure => omega
      case rel => exact ⟨k + 1, by push_cast; rfl, by omega, by rw [HX2.out], HT.out⟩
  obtain rfl : k = n := by omega
  have q3 : decide ((k : Int) < (k : Int)) = false := by simp
  have HX1 := Lib.hid (ba_list (rp k L))
  have HX2 := Lib.hid (ba_size (rp k L))
  have hx1 := HRS.out k (by omega)
  have HWY := Lib.hid (fun h1 h2 => words_rp (k := k) (s := L) h1 h2)
  have HWN := Lib.hid (fun h1 => words_rp_many (k := k) (s := L) h1)
  obtain ⟨x, hx⟩ : ∃ x, ba (rp k L) = x := ⟨_, rfl⟩
  obtain ⟨Z, hZ⟩ : ∃ Z, rp k L = Z := ⟨_, rfl⟩
  rw [hx] at HX1 HX2 hx1 ⊢
  rw [hZ] at HX1 HX2 HWY HWN
  clear hx hZ
  have HBAD : Hid (400 < x.size ∨ 12 < k → ∀ (W : World), Tabs W → Calls Tryd.prog 14 #[.string x] W fun e w' => e = .returned (.tuple #[.slice none 0 0, .int .i64 5]) ∧ Below W.heap.size W w') := Lib.hid (fun hh W h => (Words_any x W (by omega) h).mono fun e w' h => by
    rw [HX1.out, HWN.out (by rw [← HX2.out]; exact hh)] at h
    exact h)
  by_cases h4 : 400 < x.size
  · as_aux_lemma =>
      have e2 : decide ((400 : Int) < (x.size : Int)) = true := by simp; omega
      have e3 : (400 : Int) < (x.size : Int) := by omega
      have HWO := Lib.hid (HBAD.out (.inl h4))
      clear h4
      go_wp2_with (go_at_call 14; with_reducible refine (HWO.out _ (tabs_bel HTB.out HT.out.bel)).mono ?_; rintro e w4 ⟨rfl, hB⟩; have HT := Lib.hid (HT.out.step hB); clear hB)
      go_ret
      exact ⟨rfl, HT.out.bel⟩
  have e2 : decide ((400 : Int) < (x.size : Int)) = false := by simp; omega
  have e3 : ¬ (400 : Int) < (x.size : Int) := by omega
  by_cases h12 : 12 < k
  · as_aux_lemma =>
      have e4 : decide ((12 : Int) < (k : Int)) = true := by simp; omega
      have e5 : (12 : Int) < (k : Int) := by omega
      have HWO := Lib.hid (HBAD.out (.inr h12))
      clear h12
      go_wp2_with (go_at_call 14; with_reducible refine (HWO.out _ (tabs_bel HTB.out HT.out.bel)).mono ?_; rintro e w4 ⟨rfl, hB⟩; have HT := Lib.hid (HT.out.step hB); clear hB)
      go_ret
      exact ⟨rfl, HT.out.bel⟩
  have e4 : decide ((12 : Int) < (k : Int)) = false := by simp; omega
  have e5 : ¬ (12 : Int) < (k : Int) := by omega
  have HW := Lib.hid (HWY.out (by rw [← HX2.out]; omega) (by omega))
  have HWO : Hid (∀ (W : World), Tabs W → Calls Tryd.prog 14 #[.string x] W fun e w' => ∃ P c, e = .returned (.tuple #[.slice P k c, .int .i64 0]) ∧ Sep W w' [tOwn tStr 1 (.slice P k c) k (eStr.fl ((List.replicate k L).map ba))]) := Lib.hid (fun W h => (Words_any x W (by omega) h).mono fun e w' h => by
    rw [HX1.out, HW.out] at h
    obtain ⟨P, c, he, hs⟩ := h
    rw [List.length_replicate] at he hs
    exact ⟨P, c, he, hs⟩)
  have HBA := Lib.hid (show ba L = a1 from (ba_eq HL.out).symm)
  have e6 := str_same a1
  have e7 : ((k : Int) != (k : Int)) = false := by simp
  clear HBAD HWN HWY
  go_wp2_with (go_at_call 14; with_reducible refine (HWO.out _ (tabs_bel HTB.out HT.out.bel)).mono ?_; rintro e w4 ⟨P, c, rfl, hs⟩; have HT := Lib.hid (HT.out.join hs); clear hs)
  clear e7
  go_loopg [58] k (fun gk s58 wr => ∃ (j : Nat), s58 = .int .i64 (j : Int) ∧ j + gk = k ∧ Sep w wr [tOwn tStr 1 (.slice P k c) k (eStr.fl ((List.replicate k L).map ba))])
  case atStart => exact ⟨0, rfl, by omega, HT.out⟩
  case round =>
  obtain ⟨j, rfl, hgj, hs⟩ := hrel
  have HT := Lib.hid hs
  clear hs
  by_cases hjk : j < k
  · as_aux_lemma =>
      have q5 : decide ((j : Int) < (k : Int)) = true := by simp; omega
      have q6 : (j : Int) < (k : Int) := by omega
      have q7 : (0 : Int) ≤ (j : Int) := by omega
      have hwj : IntKind.i64.wrap ((j : Int) + 1) = (j : Int) + 1 := IntWalk.i64_in _ (by omega)
      obtain ⟨ga, oa, rfl, hcell⟩ := strs_at HT.out.own.rd j L (by rw [List.getElem?_replicate, if_pos hjk])
      rw [HBA.out] at hcell
      go_wp2_with fail
      go_roundg (k - (j + 1))
      case measure => omega
      case rel => exact ⟨j + 1, by push_cast; rfl, by omega, HT.out⟩
  · as_aux_lemma =>
      have q5 : decide ((j : Int) < (k : Int)) = false := by simp; omega
      have q6 : ¬ (j : Int) < (k : Int) := by omega
      go_wp2_with fail
      go_ret
      exact ⟨rfl, HT.out.bel⟩
end Go.Proofs.YtjjdefkaohbmjaaDoor
