/- The walk of the law TokenBehind: it returns true. Condition: utf8's tables lie where they should. -/
import Derived.Test.YtjjdefkaohbmjaaDoorTokA
import Derived.Test.YtjjdefkaohbmjaaDoorTokJ
set_option linter.unusedVariables false
set_option linter.unusedSimpArgs false
namespace Go.Proofs.YtjjdefkaohbmjaaDoor
open Go.RowKit Go.Lib
set_option maxHeartbeats 8000000 in
set_option maxRecDepth 1000000 in
theorem w_TokenBehind (a0 : ByteArray) (a1 : ByteArray) (w : World) (b0 : a0.size ≤ 140737488351232) (b1 : a1.size ≤ 140737488351232) (hT : Tabs w) :
    Calls Tryd.prog 10 #[.string a0, .string a1] w fun e w' => e = .returned (.bool true) ∧ Below w.heap.size w w' := by
  obtain ⟨L, hL⟩ : ∃ L, a0.data.toList = L := ⟨_, rfl⟩
  obtain ⟨M, hM⟩ : ∃ M, a1.data.toList = M := ⟨_, rfl⟩
  have HSZ := Lib.hid (show L.length = a0.size by rw [← hL, size_eq])
  have HSM := Lib.hid (show M.length = a1.size by rw [← hM, size_eq])
  have HL := Lib.hid hL
  have HM := Lib.hid hM
  have HTB := Lib.hid hT
  clear hL hM hT
  go_enter Tryd.func10, Tryd.ntmps10
  go_wp2_with fail
  refine (awake_any _ HTB.out).mono ?_
  rintro e w1 ⟨rfl, hB1⟩
  have HT := Lib.hid ((Sep.nil w).step hB1)
  clear hB1
  have hws : IntKind.i64.wrap ((a0.size : Int) + (a1.size : Int)) = (a0.size : Int) + (a1.size : Int) := IntWalk.i64_in _ (by omega)
  by_cases h390 : 390 < a0.size + a1.size
  · have q1 : decide ((390 : Int) < (a0.size : Int) + (a1.size : Int)) = true := by simp; omega
    have q2 : (390 : Int) < (a0.size : Int) + (a1.size : Int) := by omega
    go_wp2_with fail
    go_ret
    exact ⟨rfl, HT.out.bel⟩
  have q1 : decide ((390 : Int) < (a0.size : Int) + (a1.size : Int)) = false := by simp; omega
  have q2 : ¬ (390 : Int) < (a0.size : Int) + (a1.size : Int) := by omega
  have hsx : (a0 ++ { data := #[32, 35] }).size ≤ 392 := by rw [ByteArray.size_append]; exact Nat.add_le_add_right (show a0.size ≤ 390 by omega) 2
  have hsy : (a0 ++ { data := #[32, 35] } ++ a1).size ≤ 784 := by rw [ByteArray.size_append]; omega
  have HX := Lib.hid (show ba (L ++ [32, 35]) = a0 ++ { data := #[32, 35] } by rw [← ba_app, ← ba_eq HL.out])
  have HY := Lib.hid (show ba (L ++ (32 :: 35 :: M)) = a0 ++ { data := #[32, 35] } ++ a1 by
    rw [← HX.out, ba_eq HM.out, ba_app, List.append_assoc]; rfl)
  have HW1 := Lib.hid (fun (W : World) (h : Tabs W) => words_uni (ba (L ++ [32, 35])) W (by rw [HX.out]; omega) h)
  have HW2 := Lib.hid (fun (W : World) (h : Tabs W) => words_uni (ba (L ++ (32 :: 35 :: M))) W (by rw [HY.out]; omega) h)
  have HW3 := Lib.hid (fun (W : World) (h : Tabs W) => words_uni a0 W (by omega) h)
  rw [ba_list] at HW1 HW2
  rw [HX.out] at HW1
  rw [HY.out] at HW2
  rw [HL.out] at HW3
  cases hw : words L with
  | bad z =>
    as_aux_lemma =>
      have hz := words_bad hw
      rw [hw] at HW3
      have HW3 : Hid (∀ (W : World), Tabs W → Calls Tryd.prog 14 #[.string a0] W fun e w' => ∃ P c, e = .returned (.tuple #[.slice P 0 c, .int .i64 z]) ∧ Sep W w' [tOwn tStr 1 (.slice P 0 c) 0 (eStr.fl (([] : List Bs).map ba))]) := HW3
      have e1 : (z != 0) = true := by rcases hz with rfl | rfl <;> rfl
      have e2 : (z == 0) = false := by rcases hz with rfl | rfl <;> rfl
      generalize words (L ++ [32, 35]) = r1 at *
      generalize words (L ++ (32 :: 35 :: M)) = r2 at *
      generalize r1.ez = z1 at *
      generalize r2.ez = z2 at *
      generalize r1.ws = l1 at *
      generalize r2.ws = l2 at *
      clear hw hz HX HY
      go_wp2_with (first | (go_at_call 14; with_reducible refine (HW1.out _ (tabs_bel HTB.out HT.out.bel)).mono ?_; rintro e w4 ⟨P1, c1, rfl, hs⟩; have HT := Lib.hid (HT.out.join hs); clear hs) | (go_at_call 14; with_reducible refine (HW2.out _ (tabs_bel HTB.out HT.out.bel)).mono ?_; rintro e w5 ⟨P2, c2, rfl, hs⟩; have HT := Lib.hid (HT.out.join hs); clear hs) | (go_at_call 14; with_reducible refine (HW3.out _ (tabs_bel HTB.out HT.out.bel)).mono ?_; rintro e w6 ⟨P3, c3, rfl, hs⟩; have HT := Lib.hid (HT.out.join hs); clear hs))
      go_ret
      exact ⟨rfl, HT.out.bel⟩
  | ok ws =>
    as_aux_lemma =>
      have hlen := (words_ok hw).2.1
      have hx : words (L ++ [32, 35]) = .ok ws := words_behind (t := []) (by rw [List.length_append, HSZ.out]; simp; omega) hw
      have hy : words (L ++ (32 :: 35 :: M)) = .ok ws := words_behind (by rw [List.length_append, HSZ.out]; simp; rw [HSM.out]; omega) hw
      rw [hw] at HW3
      rw [hx] at HW1
      rw [hy] at HW2
      obtain ⟨n, hn⟩ : ∃ n, ws.length = n := ⟨_, rfl⟩
      have HN := Lib.hid hn
      have HW1 : Hid (∀ (W : World), Tabs W → Calls Tryd.prog 14 #[.string (a0 ++ { data := #[32, 35] })] W fun e w' => ∃ P c, e = .returned (.tuple #[.slice P n c, .int .i64 0]) ∧ Sep W w' [tOwn tStr 1 (.slice P n c) n (eStr.fl (ws.map ba))]) := by rw [← hn]; exact HW1
      have HW2 : Hid (∀ (W : World), Tabs W → Calls Tryd.prog 14 #[.string (a0 ++ { data := #[32, 35] } ++ a1)] W fun e w' => ∃ P c, e = .returned (.tuple #[.slice P n c, .int .i64 0]) ∧ Sep W w' [tOwn tStr 1 (.slice P n c) n (eStr.fl (ws.map ba))]) := by rw [← hn]; exact HW2
      have HW3 : Hid (∀ (W : World), Tabs W → Calls Tryd.prog 14 #[.string a0] W fun e w' => ∃ P c, e = .returned (.tuple #[.slice P n c, .int .i64 0]) ∧ Sep W w' [tOwn tStr 1 (.slice P n c) n (eStr.fl (ws.map ba))]) := by rw [← hn]; exact HW3
      rw [hn] at hlen
      have HSE : Hid (∀ (W : World) (P1 P2 P3 : Option Addr) (c1 c2 c3 : Nat), Sep w W [tOwn tStr 1 (.slice P3 n c3) n (eStr.fl (ws.map ba)), tOwn tStr 1 (.slice P2 n c2) n (eStr.fl (ws.map ba)), tOwn tStr 1 (.slice P1 n c1) n (eStr.fl (ws.map ba))] → Calls Tryd.prog 15 #[.slice P1 n c1, .slice P2 n c2] W fun e w' => e = .returned (.bool true) ∧ Below W.heap.size W w') := Lib.hid (fun W P1 P2 P3 c1 c2 c3 h => (same_any ws ws P1 P2 n c1 n c2 W HN.out HN.out (by omega) (by omega) (Own.rd h.h3) (Own.rd h.h2)).mono fun e w' h => by
        rw [decide_eq_true rfl] at h
        exact h)
      clear hw hx hy hn HX HY
      go_wp2_with (first | (go_at_call 14; with_reducible refine (HW1.out _ (tabs_bel HTB.out HT.out.bel)).mono ?_; rintro e w4 ⟨P1, c1, rfl, hs⟩; have HT := Lib.hid (HT.out.join hs); clear hs) | (go_at_call 14; with_reducible refine (HW2.out _ (tabs_bel HTB.out HT.out.bel)).mono ?_; rintro e w5 ⟨P2, c2, rfl, hs⟩; have HT := Lib.hid (HT.out.join hs); clear hs) | (go_at_call 14; with_reducible refine (HW3.out _ (tabs_bel HTB.out HT.out.bel)).mono ?_; rintro e w6 ⟨P3, c3, rfl, hs⟩; have HT := Lib.hid (HT.out.join hs); clear hs) | (go_at_call 15; with_reducible refine (HSE.out _ _ _ _ _ _ _ HT.out).mono ?_; rintro e w7 ⟨rfl, hB⟩; have HT := Lib.hid (HT.out.step hB); clear hB))
      go_ret
      exact ⟨rfl, HT.out.bel⟩
end Go.Proofs.YtjjdefkaohbmjaaDoor
