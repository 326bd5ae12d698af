/- The walk of the law TokenBlanks: it returns true. Condition: utf8's tables lie where they should. -/
import Derived.Test.YtjjdefkaohbmjaaDoorTokA
import Derived.Test.YtjjdefkaohbmjaaDoorTokJ
set_option linter.unusedVariables false
set_option linter.unusedSimpArgs false
namespace Go.Proofs.YtjjdefkaohbmjaaDoor
open Go.RowKit Go.Lib
/-- The line with blanks ahead and behind. -/
def bk (i : Nat) (l : Bs) (j : Nat) : Bs := List.replicate i 32 ++ l ++ List.replicate j 9
theorem bk_len (i : Nat) (l : Bs) (j : Nat) : (bk i l j).length = i + l.length + j := by unfold bk; simp only [List.length_append, List.length_replicate]
theorem bk_left (i : Nat) (l : Bs) (j : Nat) : ({ data := #[32] } : ByteArray) ++ ba (bk i l j) = ba (bk (i + 1) l j) := by
  have := ba_app [32] (bk i l j)
  rw [show ([32] : Bs) ++ bk i l j = bk (i + 1) l j by unfold bk; rw [List.replicate_succ]; rfl] at this
  exact this
theorem bk_right (i : Nat) (l : Bs) (j : Nat) : ba (bk i l j) ++ ({ data := #[9] } : ByteArray) = ba (bk i l (j + 1)) := by
  have := ba_app (bk i l j) [9]
  rw [show bk i l j ++ ([9] : Bs) = bk i l (j + 1) by unfold bk; rw [List.replicate_succ', List.append_assoc]] at this
  exact this
theorem bk_zero (l : Bs) : bk 0 l 0 = l := by unfold bk; simp
set_option maxHeartbeats 8000000 in
set_option maxRecDepth 1000000 in
theorem w_TokenBlanks (a0 : ByteArray) (a1 : Int) (a2 : Int) (w : World) (b0 : a0.size ≤ 140737488351232) (b1 : 0 ≤ a1 ∧ a1 ≤ 255) (b2 : 0 ≤ a2 ∧ a2 ≤ 255) (hT : Tabs w) :
    Calls Tryd.prog 6 #[.string a0, .int .u8 a1, .int .u8 a2] w fun e w' => e = .returned (.bool true) ∧ Below w.heap.size w w' := by
  obtain ⟨L, hL⟩ : ∃ L, a0.data.toList = L := ⟨_, rfl⟩
  have HSZ := Lib.hid (show L.length = a0.size by rw [← hL, size_eq])
  have HL := Lib.hid hL
  have HTB := Lib.hid hT
  clear hL hT
  go_enter Tryd.func6, Tryd.ntmps6
  go_wp2_with fail
  refine (awake_any _ HTB.out).mono ?_
  rintro e w1 ⟨rfl, hB1⟩
  have HT := Lib.hid ((Sep.nil w).step hB1)
  clear hB1
  by_cases h2k : 2048 < a0.size
  · have q1 : decide ((2048 : Int) < (a0.size : Int)) = true := by simp; omega
    have q2 : (2048 : Int) < (a0.size : Int) := by omega
    go_wp2_with fail
    go_ret
    exact ⟨rfl, HT.out.bel⟩
  have q1 : decide ((2048 : Int) < (a0.size : Int)) = false := by simp; omega
  have q2 : ¬ (2048 : Int) < (a0.size : Int) := by omega
  obtain ⟨n, hn⟩ : ∃ n : Nat, a1 % 5 = (n : Int) := ⟨(a1 % 5).toNat, by omega⟩
  have hn5 : n < 5 := by omega
  obtain ⟨m, hm⟩ : ∃ m : Nat, a2 % 5 = (m : Int) := ⟨(a2 % 5).toNat, by omega⟩
  have hm5 : m < 5 := by omega
  have HNN := Lib.hid hn
  have HMM := Lib.hid hm
  have HBK : Hid (∀ i j, i ≤ 5 → j ≤ 5 → (ba (bk i L j)).size ≤ 2058) := Lib.hid (fun i j hi hj => by
    rw [ba_size, bk_len, HSZ.out]; omega)
  have HB0 := Lib.hid (show a0 = ba (bk 0 L 0) by rw [bk_zero]; exact ba_eq HL.out)
  clear hn hm
  go_upto_region 7 with fail
  go_loopg [7, 8] n (fun gk s7 s8 wr => ∃ (k : Nat), s8 = .int .i64 (k : Int) ∧ k + gk = n ∧ s7 = .string (ba (bk k L 0)) ∧ Sep w wr [])
  case atStart => exact ⟨0, rfl, by omega, by rw [← HB0.out], HT.out⟩
  case round =>
  obtain ⟨k, rfl, hgk, rfl, hs⟩ := hrel
  have HT := Lib.hid hs
  clear hs
  by_cases hkn : k < n
  · as_aux_lemma =>
      have hnn := HNN.out
      have q3 : decide ((k : Int) < a1 % 5) = true := by simp; omega
      have q4 : (k : Int) < a1 % 5 := by omega
      have hwk : IntKind.i64.wrap ((k : Int) + 1) = (k : Int) + 1 := IntWalk.i64_in _ (by omega)
      have hx1 := HBK.out k 0 (by omega) (by omega)
      have HX2 := Lib.hid (bk_left k L 0)
      clear hnn
      obtain ⟨x, hx⟩ : ∃ x, ba (bk k L 0) = x := ⟨_, rfl⟩
      rw [hx] at hx1 HX2 ⊢
      clear hx
      go_wp2_with fail
      go_roundg (n - (k + 1))
      case measure => omega
      case rel => exact ⟨k + 1, by push_cast; rfl, by omega, by rw [HX2.out], HT.out⟩
  obtain rfl : k = n := by omega
  have hnn := HNN.out
  have q3 : decide ((k : Int) < a1 % 5) = false := by simp; omega
  have q4 : ¬ (k : Int) < a1 % 5 := by omega
  clear hnn hgk hkn
  go_upto_region 11 with fail
  go_loopg [7, 9] m (fun gk s7 s9 wr => ∃ (j : Nat), s9 = .int .i64 (j : Int) ∧ j + gk = m ∧ s7 = .string (ba (bk k L j)) ∧ Sep w wr [])
  case atStart => exact ⟨0, rfl, by omega, rfl, HT.out⟩
  case round =>
  obtain ⟨j, rfl, hgj, rfl, hs⟩ := hrel
  have HT := Lib.hid hs
  clear hs
  by_cases hjm : j < m
  · as_aux_lemma =>
      have hmm := HMM.out
      have q5 : decide ((j : Int) < a2 % 5) = true := by simp; omega
      have q6 : (j : Int) < a2 % 5 := by omega
      have hwj : IntKind.i64.wrap ((j : Int) + 1) = (j : Int) + 1 := IntWalk.i64_in _ (by omega)
      have hx1 := HBK.out k j (by omega) (by omega)
      have HX2 := Lib.hid (bk_right k L j)
      clear hmm
      obtain ⟨x, hx⟩ : ∃ x, ba (bk k L j) = x := ⟨_, rfl⟩
      rw [hx] at hx1 HX2 ⊢
      clear hx
      go_wp2_with fail
      go_roundg (m - (j + 1))
      case measure => omega
      case rel => exact ⟨j + 1, by push_cast; rfl, by omega, by rw [HX2.out], HT.out⟩
  obtain rfl : j = m := by omega
  have hmm := HMM.out
  have q5 : decide ((j : Int) < a2 % 5) = false := by simp; omega
  have q6 : ¬ (j : Int) < a2 % 5 := by omega
  clear hmm hgj hjm
  have hx1 := HBK.out k j (by omega) (by omega)
  have HX1 := Lib.hid (ba_size (bk k L j))
  have HX2 := Lib.hid (ba_app (bk k L j) [32, 35, 32, 120])
  have HW1 := Lib.hid (fun (W : World) (h : Tabs W) => words_uni a0 W (by omega) h)
  have HW2 := Lib.hid (fun (W : World) (h : Tabs W) => words_uni (ba (bk k L j)) W (by omega) h)
  have HW3 := Lib.hid (fun (W : World) (h : Tabs W) => words_uni (ba (bk k L j ++ [32, 35, 32, 120])) W (by rw [ba_size, List.length_append, ← HX1.out]; simp; omega) h)
  rw [HL.out] at HW1
  rw [ba_list] at HW2 HW3
  have HE2 := Lib.hid (show (bk k L j).length ≤ 400 → words (bk k L j) = words L from words_blanks k j)
  have HE3 := Lib.hid (show (bk k L j ++ [32, 35, 32, 120]).length ≤ 400 → words (bk k L j ++ [32, 35, 32, 120]) = words L from words_blanks2 k j)
  have HE4 := Lib.hid (show 400 < (bk k L j).length → words (bk k L j) = .bad 5 from words_long)
  have HLN := Lib.hid (ws_len L)
  rw [← HX1.out] at HE2 HE4
  rw [List.length_append, ← HX1.out] at HE3
  rw [← HX2.out] at HW3
  clear HX2 HX1 HBK HB0
  generalize words L = r1 at *
  generalize words (bk k L j) = r2 at *
  generalize words (bk k L j ++ [32, 35, 32, 120]) = r3 at *
  have HLY : Hid (ba [32, 35, 32, 120] = ({ data := #[32, 35, 32, 120] } : ByteArray)) := Lib.hid rfl
  rw [HLY.out] at HW3
  clear HLY
  obtain ⟨x, hx⟩ : ∃ x, ba (bk k L j) = x := ⟨_, rfl⟩
  rw [hx] at hx1 HW2 HW3 HE2 HE3 HE4 ⊢
  clear hx
  by_cases h4 : 400 < x.size
  · as_aux_lemma =>
      have e2 : decide ((400 : Int) < (x.size : Int)) = true := by simp; omega
      have e3 : (400 : Int) < (x.size : Int) := by omega
      have HR := Lib.hid (HE4.out h4)
      rw [HR.out] at HW2
      have HW2 : Hid (∀ (W : World), Tabs W → Calls Tryd.prog 14 #[.string x] W fun e w' => ∃ P c, e = .returned (.tuple #[.slice P 0 c, .int .i64 5]) ∧ Sep W w' [tOwn tStr 1 (.slice P 0 c) 0 (eStr.fl (([] : List Bs).map ba))]) := HW2
      clear h4 HE2 HE3 HE4 HW3
      generalize r1.ez = z1 at *
      generalize r1.ws = l1 at *
      go_wp2_with (first | (go_at_call 14; with_reducible refine (HW1.out _ (tabs_bel HTB.out HT.out.bel)).mono ?_; rintro e w4 ⟨P1, c1, rfl, hs⟩; have HT := Lib.hid (HT.out.join hs); clear hs) | (go_at_call 14; with_reducible refine (HW2.out _ (tabs_bel HTB.out HT.out.bel)).mono ?_; rintro e w5 ⟨P2, c2, rfl, hs⟩; have HT := Lib.hid (HT.out.join hs); clear hs))
      go_ret
      exact ⟨rfl, HT.out.bel⟩
  have e2 : decide ((400 : Int) < (x.size : Int)) = false := by simp; omega
  have e3 : ¬ (400 : Int) < (x.size : Int) := by omega
  have HR := Lib.hid (HE2.out (by omega))
  rw [HR.out] at HW2
  have hw4 : IntKind.i64.wrap ((x.size : Int) + 4) = (x.size : Int) + 4 := IntWalk.i64_in _ (by omega)
  have HN : Hid (∀ q, q = r1.ws.length → q ≤ 12) := Lib.hid (fun q h => by rw [h]; exact HLN.out)
  clear HLN HE2 HE4
  by_cases h5 : 400 < x.size + 4
  · as_aux_lemma =>
      have e4 : decide ((400 : Int) < (x.size : Int) + 4) = true := by simp; omega
      have e5 : (400 : Int) < (x.size : Int) + 4 := by omega
      clear h5 HE3
      generalize r1.ez = z1 at *
      generalize r1.ws = ws at *
      generalize r3.ez = z3 at *
      generalize r3.ws = l3 at *
      obtain ⟨q, hq⟩ : ∃ q, ws.length = q := ⟨_, rfl⟩
      have HQ := Lib.hid hq
      have hq12 := HN.out q hq.symm
      rw [hq] at HW1 HW2
      clear hq
      have e6 : (z1 == z1) = true := by simp
      have HSE : Hid (∀ (W : World) (P1 P2 P3 : Option Addr) (c1 c2 c3 : Nat), Sep w W [tOwn tStr 1 (.slice P3 l3.length c3) l3.length (eStr.fl (l3.map ba)), tOwn tStr 1 (.slice P2 q c2) q (eStr.fl (ws.map ba)), tOwn tStr 1 (.slice P1 q c1) q (eStr.fl (ws.map ba))] → Calls Tryd.prog 15 #[.slice P1 q c1, .slice P2 q c2] W fun e w' => e = .returned (.bool true) ∧ Below W.heap.size W w') := Lib.hid (fun W P1 P2 P3 c1 c2 c3 h => (same_any ws ws P1 P2 q c1 q c2 W HQ.out HQ.out (by omega) (by omega) (Own.rd h.h3) (Own.rd h.h2)).mono fun e w' h => by
        rw [decide_eq_true rfl] at h
        exact h)
      go_wp2_with (first | (go_at_call 14; with_reducible refine (HW1.out _ (tabs_bel HTB.out HT.out.bel)).mono ?_; rintro e w4 ⟨P1, c1, rfl, hs⟩; have HT := Lib.hid (HT.out.join hs); clear hs) | (go_at_call 14; with_reducible refine (HW2.out _ (tabs_bel HTB.out HT.out.bel)).mono ?_; rintro e w5 ⟨P2, c2, rfl, hs⟩; have HT := Lib.hid (HT.out.join hs); clear hs) | (go_at_call 14; with_reducible refine (HW3.out _ (tabs_bel HTB.out HT.out.bel)).mono ?_; rintro e w6 ⟨P3, c3, rfl, hs⟩; have HT := Lib.hid (HT.out.join hs); clear hs) | (go_at_call 15; with_reducible refine (HSE.out _ _ _ _ _ _ _ HT.out).mono ?_; rintro e w7 ⟨rfl, hB⟩; have HT := Lib.hid (HT.out.step hB); clear hB))
      go_ret
      exact ⟨rfl, HT.out.bel⟩
  · as_aux_lemma =>
      have e4 : decide ((400 : Int) < (x.size : Int) + 4) = false := by simp; omega
      have e5 : ¬ (400 : Int) < (x.size : Int) + 4 := by omega
      have HR3 := Lib.hid (HE3.out (by simp; omega))
      rw [HR3.out] at HW3
      clear h5 HE3
      generalize r1.ez = z1 at *
      generalize r1.ws = ws at *
      obtain ⟨q, hq⟩ : ∃ q, ws.length = q := ⟨_, rfl⟩
      have HQ := Lib.hid hq
      have hq12 := HN.out q hq.symm
      rw [hq] at HW1 HW2 HW3
      clear hq
      have e6 : (z1 == z1) = true := by simp
      have HSE : Hid (∀ (W : World) (P1 P2 P3 : Option Addr) (c1 c2 c3 : Nat), Sep w W [tOwn tStr 1 (.slice P3 q c3) q (eStr.fl (ws.map ba)), tOwn tStr 1 (.slice P2 q c2) q (eStr.fl (ws.map ba)), tOwn tStr 1 (.slice P1 q c1) q (eStr.fl (ws.map ba))] → Calls Tryd.prog 15 #[.slice P1 q c1, .slice P2 q c2] W fun e w' => e = .returned (.bool true) ∧ Below W.heap.size W w') := Lib.hid (fun W P1 P2 P3 c1 c2 c3 h => (same_any ws ws P1 P2 q c1 q c2 W HQ.out HQ.out (by omega) (by omega) (Own.rd h.h3) (Own.rd h.h2)).mono fun e w' h => by
        rw [decide_eq_true rfl] at h
        exact h)
      have HSF : Hid (∀ (W : World) (P1 P2 P3 : Option Addr) (c1 c2 c3 : Nat), Sep w W [tOwn tStr 1 (.slice P3 q c3) q (eStr.fl (ws.map ba)), tOwn tStr 1 (.slice P2 q c2) q (eStr.fl (ws.map ba)), tOwn tStr 1 (.slice P1 q c1) q (eStr.fl (ws.map ba))] → Calls Tryd.prog 15 #[.slice P3 q c3, .slice P2 q c2] W fun e w' => e = .returned (.bool true) ∧ Below W.heap.size W w') := Lib.hid (fun W P1 P2 P3 c1 c2 c3 h => (same_any ws ws P3 P2 q c3 q c2 W HQ.out HQ.out (by omega) (by omega) (Own.rd h.hd) (Own.rd h.h2)).mono fun e w' h => by
        rw [decide_eq_true rfl] at h
        exact h)
      go_wp2_with (first | (go_at_call 14; with_reducible refine (HW1.out _ (tabs_bel HTB.out HT.out.bel)).mono ?_; rintro e w4 ⟨P1, c1, rfl, hs⟩; have HT := Lib.hid (HT.out.join hs); clear hs) | (go_at_call 14; with_reducible refine (HW2.out _ (tabs_bel HTB.out HT.out.bel)).mono ?_; rintro e w5 ⟨P2, c2, rfl, hs⟩; have HT := Lib.hid (HT.out.join hs); clear hs) | (go_at_call 14; with_reducible refine (HW3.out _ (tabs_bel HTB.out HT.out.bel)).mono ?_; rintro e w6 ⟨P3, c3, rfl, hs⟩; have HT := Lib.hid (HT.out.join hs); clear hs) | (go_at_call 15; with_reducible refine (HSE.out _ _ _ _ _ _ _ HT.out).mono ?_; rintro e w7 ⟨rfl, hB⟩; have HT := Lib.hid (HT.out.step hB); clear hB) | (go_at_call 15; with_reducible refine (HSF.out _ _ _ _ _ _ _ HT.out).mono ?_; rintro e w8 ⟨rfl, hB⟩; have HT := Lib.hid (HT.out.step hB); clear hB))
      go_ret
      exact ⟨rfl, HT.out.bel⟩
end Go.Proofs.YtjjdefkaohbmjaaDoor
