/- The walk of the law TokenJoins: it returns true. Condition: utf8's tables lie where they should. -/
import Derived.Test.YtjjdefkaohbmjaaDoorTokA
import Derived.Test.YtjjdefkaohbmjaaDoorTokI
set_option linter.unusedVariables false
set_option linter.unusedSimpArgs false
namespace Go.Proofs.YtjjdefkaohbmjaaDoor
open Go.RowKit Go.Lib
set_option maxHeartbeats 8000000 in
set_option maxRecDepth 1000000 in
theorem w_TokenJoins (a0 : ByteArray) (w : World) (b0 : a0.size ≤ 140737488351232) (hT : Tabs w) :
    Calls Tryd.prog 9 #[.string a0] w fun e w' => e = .returned (.bool true) ∧ Below w.heap.size w w' := by
  obtain ⟨L, hL⟩ : ∃ L, a0.data.toList = L := ⟨_, rfl⟩
  have HSZ := Lib.hid (show L.length = a0.size by rw [← hL, size_eq])
  have HL := Lib.hid hL
  have HTB := Lib.hid hT
  clear hL hT
  go_enter Tryd.func9, Tryd.ntmps9
  go_wp2_with fail
  refine (awake_any _ HTB.out).mono ?_
  rintro e w1 ⟨rfl, hB1⟩
  have HT := Lib.hid ((Sep.nil w).step hB1)
  clear hB1
  by_cases h2k : 2048 < a0.size
  · have q1 : decide ((2048 : Int) < (a0.size : Int)) = true := by simp; omega
    have q2 : (2048 : Int) < (a0.size : Int) := by omega
    go_wp2_with fail
    go_ret
    exact ⟨rfl, HT.out.bel⟩
  have q1 : decide ((2048 : Int) < (a0.size : Int)) = false := by simp; omega
  have q2 : ¬ (2048 : Int) < (a0.size : Int) := by omega
  have HWO := Lib.hid (fun (W : World) (h : Tabs W) => Words_any a0 W (by omega) h)
  rw [HL.out] at HWO
  cases hw : words L with
  | bad z =>
    as_aux_lemma =>
      have hz := words_bad hw
      have e1 : (z != 0) = true := by rcases hz with rfl | rfl <;> rfl
      have e2 : (z == 0) = false := by rcases hz with rfl | rfl <;> rfl
      rw [hw] at HWO
      clear hw hz
      go_wp2_with (go_at_call 14; refine (HWO.out _ (tabs_bel HTB.out HT.out.bel)).mono ?_; rintro e w4 ⟨rfl, hB⟩; have HT := Lib.hid (HT.out.step hB); clear hB)
      go_ret
      exact ⟨rfl, HT.out.bel⟩
  | ok ws =>
  obtain ⟨_, hl12, hlx⟩ := words_ok hw
  have HLX := Lib.hid hlx
  clear hlx
  obtain ⟨n, hn⟩ : ∃ n, ws.length = n := ⟨_, rfl⟩
  have HN := Lib.hid hn
  have HWO : Hid (∀ (W : World), Tabs W → Calls Tryd.prog 14 #[.string a0] W fun e w' => ∃ P c, e = .returned (.tuple #[.slice P n c, .int .i64 0]) ∧ Sep W w' [tOwn tStr 1 (.slice P n c) n (eStr.fl (ws.map ba))]) := Lib.hid (fun W h => (HWO.out W h).mono fun e w' h => by
    rw [hw] at h
    obtain ⟨P, c, he, hs⟩ := h
    rw [HN.out] at he hs
    exact ⟨P, c, he, hs⟩)
  rw [hn] at hl12
  have HJL : Hid (∀ k, k ≤ n → (ba (jn (ws.take k))).size ≤ 20000) := Lib.hid (fun k hk => by
    rw [ba_size]
    have h1 := jn_len (ws.take k) (fun x hx => HLX.out x (List.mem_of_mem_take hx))
    rw [List.length_take] at h1
    have h2 := Nat.mul_le_mul_right 1603 (show min k ws.length ≤ 12 by rw [HN.out]; omega)
    omega)
  clear hw hn
  go_upto_region 9 with (go_at_call 14; with_reducible refine (HWO.out _ (tabs_bel HTB.out HT.out.bel)).mono ?_; rintro e w4 ⟨P, c, rfl, hs⟩; have HT := Lib.hid (HT.out.join hs); clear hs)
  clear HWO
  go_wp2_with fail
  go_loopg [5, 26] n (fun gk s5 s26 wr => ∃ (k : Nat), s26 = .int .i64 (k : Int) ∧ k + gk = n ∧ s5 = .string (ba (jn (ws.take k))) ∧ Sep w wr [tOwn tStr 1 (.slice P n c) n (eStr.fl (ws.map ba))])
  case atStart => exact ⟨0, rfl, by omega, rfl, HT.out⟩
  case round =>
  obtain ⟨k, rfl, hgk, rfl, hs⟩ := hrel
  have HT := Lib.hid hs
  clear hs
  by_cases hkn : k < n
  · as_aux_lemma =>
      have q3 : decide ((k : Int) < (n : Int)) = true := by simp; omega
      have q4 : (k : Int) < (n : Int) := by omega
      have q5 : (0 : Int) ≤ (k : Int) := by omega
      have hwk : IntKind.i64.wrap ((k : Int) + 1) = (k : Int) + 1 := IntWalk.i64_in _ (by omega)
      have HX1 := Lib.hid (List.getElem?_eq_getElem (l := ws) (i := k) (by rw [HN.out]; exact hkn))
      have hx400 := HLX.out _ (List.getElem_mem (l := ws) (n := k) (by rw [HN.out]; exact hkn))
      generalize ws[k]'(by rw [HN.out]; exact hkn) = x at *
      obtain ⟨ga, oa, rfl, hcell⟩ := strs_at HT.out.own.rd k x HX1.out
      have hx1 := HJL.out k (by omega)
      have HJ := Lib.hid (show ba (jn (ws.take k)) ++ ({ data := #[32] } ++ ba (quote x)) = ba (jn (ws.take (k + 1))) by
        rw [List.take_add_one, HX1.out, Option.toList_some, jn_snoc, ← ba_app, show (32 :: quote x : Bs) = [32] ++ quote x from rfl, ← ba_app])
      have hxs := ba_size x
      have HQU := Lib.hid (fun (W : World) (h : Tabs W) => Quote_any (ba x) W (by omega) h)
      rw [ba_list] at HQU
      have hqs := ba_size (quote x)
      have hqx := quote_le x
      obtain ⟨sx, hsx⟩ : ∃ s, ba x = s := ⟨_, rfl⟩
      obtain ⟨q, hq⟩ : ∃ s, ba (quote x) = s := ⟨_, rfl⟩
      obtain ⟨ln, hln⟩ : ∃ s, ba (jn (ws.take k)) = s := ⟨_, rfl⟩
      rw [hsx] at hcell HQU
      rw [hq] at HQU HJ hqs
      rw [hln] at HJ hx1 ⊢
      have hqz : q.size ≤ 10000 := by omega
      have hqz2 : (({ data := #[32] } : ByteArray) ++ q).size ≤ 10001 := by rw [ByteArray.size_append, Nat.add_comm]; exact Nat.add_le_add_right hqz 1
      clear hsx hq hln hqs hqx hxs
      go_wp2_with (go_at_call 12; with_reducible refine (HQU.out _ (tabs_bel HTB.out HT.out.bel)).mono ?_; rintro e w2 ⟨rfl, hB⟩; have HT := Lib.hid (HT.out.step hB); clear hB)
      go_roundg (n - (k + 1))
      case measure => omega
      case rel => exact ⟨k + 1, by push_cast; rfl, by omega, by rw [HJ.out], HT.out⟩
  obtain rfl : k = n := by omega
  have q3 : decide ((k : Int) < (k : Int)) = false := by simp
  have HX1 := Lib.hid (ba_list (jn ws))
  have HX2 := Lib.hid (ba_size (jn ws))
  have hx1 := HJL.out k (by omega)
  have htk : ws.take k = ws := List.take_of_length_le (by rw [HN.out]; exact Nat.le_refl _)
  rw [htk] at hx1 ⊢
  clear htk HJL
  have HWY := Lib.hid (fun h2 => words_jn (ws := ws) (by rw [HN.out]; exact hl12) h2)
  obtain ⟨x, hx⟩ : ∃ x, ba (jn ws) = x := ⟨_, rfl⟩
  obtain ⟨Z, hZ⟩ : ∃ Z, jn ws = Z := ⟨_, rfl⟩
  rw [hx] at HX1 HX2 hx1 ⊢
  rw [hZ] at HX1 HX2 HWY
  clear hx hZ
  by_cases h4 : 400 < x.size
  · as_aux_lemma =>
      have e2 : decide ((400 : Int) < (x.size : Int)) = true := by simp; omega
      have e3 : (400 : Int) < (x.size : Int) := by omega
      go_wp2_with fail
      go_ret
      exact ⟨rfl, HT.out.bel⟩
  have e2 : decide ((400 : Int) < (x.size : Int)) = false := by simp; omega
  have e3 : ¬ (400 : Int) < (x.size : Int) := by omega
  have HW := Lib.hid (HWY.out (by rw [← HX2.out]; omega))
  have HWO : Hid (∀ (W : World), Tabs W → Calls Tryd.prog 14 #[.string x] W fun e w' => ∃ P c, e = .returned (.tuple #[.slice P k c, .int .i64 0]) ∧ Sep W w' [tOwn tStr 1 (.slice P k c) k (eStr.fl (ws.map ba))]) := Lib.hid (fun W h => (Words_any x W (by omega) h).mono fun e w' h => by
    rw [HX1.out, HW.out] at h
    obtain ⟨P, c, he, hs⟩ := h
    rw [HN.out] at he hs
    exact ⟨P, c, he, hs⟩)
  clear HWY
  have e4 : decide ((k : Int) ≤ 12) = true := by simp; omega
  have e5 : (k : Int) ≤ 12 := by omega
  have HSM : Hid (∀ (W : World) (P P' : Option Addr) (c c' : Nat), Sep w W [tOwn tStr 1 (.slice P' k c') k (eStr.fl (ws.map ba)), tOwn tStr 1 (.slice P k c) k (eStr.fl (ws.map ba))] → Calls Tryd.prog 15 #[.slice P k c, .slice P' k c'] W fun e w' => e = .returned (.bool true) ∧ Below W.heap.size W w') := Lib.hid (fun W P P' c c' h => (same_any ws ws P P' k c k c' W HN.out HN.out (by omega) (by omega) (Own.rd h.h2) h.own.rd).mono fun e w' h => by
    rw [decide_eq_true rfl] at h
    exact h)
  go_wp2_with (first | (go_at_call 14; with_reducible refine (HWO.out _ (tabs_bel HTB.out HT.out.bel)).mono ?_; rintro e w6 ⟨P', c', rfl, hs⟩; have HT := Lib.hid (HT.out.join hs); clear hs) | (go_at_call 15; with_reducible refine (HSM.out _ _ _ _ _ HT.out).mono ?_; rintro e w7 ⟨rfl, hB⟩; have HT := Lib.hid (HT.out.step hB); clear hB))
  go_ret
  exact ⟨rfl, HT.out.bel⟩
end Go.Proofs.YtjjdefkaohbmjaaDoor
