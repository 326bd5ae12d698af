/- The walk of BitsLen. No condition but the row's own. -/
import Derived.Test.YtlgmomjofhbggaaBitK
set_option linter.unusedVariables false
set_option linter.unusedSimpArgs false
namespace Go.Proofs.Ytlgmomjofhbggaa
open Go.RowKit

theorem has_zero (m : Nat) (i : Int) : has m 0 i = false := by simp [has]
theorem next_zero (m : Nat) (i : Int) : next m 0 i = none := next_none (fun j _ _ => by simp)
theorem all_put0 {m k : Nat} (hk : k < m) : (all m (put 0 k)).length = 1 := by
  have : all m (put 0 k) = [k] := by
    unfold all
    induction m with
    | zero => omega
    | succ m ih =>
      rw [List.range_succ, List.filter_append]
      by_cases h : k = m
      · subst h
        have e : (List.range k).filter (fun j => (put 0 k).testBit j) = [] := by
          rw [List.filter_eq_nil_iff]
          intro j hj
          have : j < k := by simpa using hj
          rw [testBit_put]; simp; omega
        rw [e]
        simp [testBit_put]
      · rw [ih (by omega)]
        have : (put 0 k).testBit m = false := by rw [testBit_put]; simp [h]
        simp [this]
  rw [this]; rfl

set_option maxRecDepth 100000 in
set_option maxHeartbeats 2000000 in
theorem w_BitsLen (a0 : Int) (a1 : Int) (w : World) (b0 : -9223372036854775808 ≤ a0 ∧ a0 ≤ 9223372036854775807) (b1 : -9223372036854775808 ≤ a1 ∧ a1 ≤ 9223372036854775807) :
    Calls Try.prog 9 #[.int .i64 a0, .int .i64 a1] w fun e w' => e = .returned (.bool true) ∧ Below w.heap.size w w' := by
  obtain ⟨m, hM⟩ : ∃ m, newOf a0 = m := ⟨_, rfl⟩
  obtain ⟨z, hZ⟩ : ∃ z, z = 0 := ⟨0, rfl⟩
  obtain ⟨s, hT⟩ : ∃ s, strOf (text m z) = s := ⟨_, rfl⟩
  have hm : m ≤ 64 := hM ▸ newOf_le a0
  have hz : z < 18446744073709551616 := by omega
  have hs : s.size = 1 + (m + 7) / 8 := by rw [← hT, strOf_size, text_len]
  have kc : (((all m z).length : Int) != 0) = false := by rw [hZ, all_nil_of_zero]; rfl
  have HH := Lib.hid (show has m z a1 = false by rw [hZ]; exact has_zero m a1)
  have HN := Lib.hid (show nextV (next m z a1) = .tuple #[.int .i64 0, .bool false] by rw [hZ, next_zero]; rfl)
  have hcase : (a0 < 0 ∧ m = 0) ∨ (0 ≤ a0 ∧ 64 < a0 ∧ m = 0) ∨ (0 ≤ a0 ∧ a0 ≤ 64 ∧ a0 = m) := by
    unfold newOf at hM
    split at hM <;> omega
  have HM := Lib.hid hM; have HZ := Lib.hid hZ; have HT := Lib.hid hT; have HS := Lib.hid hs
  clear hM hZ hT hs
  rcases hcase with ⟨h1, h0⟩ | ⟨h2, h1, h0⟩ | ⟨h2, h3, rfl⟩
  · have k1 : decide (a0 < 0) = true := decide_eq_true h1
    have k2 : ((m : Int) != 0) = false := by rw [h0]; rfl
    have k3 : ((s.size : Int) != 1) = false := by rw [HS.out, h0]; rfl
    have hin : inn m a1 = false := by simp [inn, h0] <;> omega
    clear h0
    by_cases g : 0 ≤ a1
    · have kg : decide (0 ≤ a1) = true := decide_eq_true g
      have kg2 : decide (a1 < 0) = false := by simp <;> omega
      go_enter Try.func9, Try.ntmps9
      go_wp2_with (first
      | (go_at_call 10; refine (awake_any _).mono ?_; rintro e1 w1 ⟨rfl, B1⟩; have K1 := Lib.hid (Kp.nil B1); clear B1)
      | (go_at_call 11; with_reducible refine (new_eq _ m z _ HM.out HZ.out).mono ?_; rintro e2 w2 ⟨rfl, B2⟩; have h := (K1.out.step B2).new m z; obtain ⟨c0, c1, f0, f1⟩ := (h.mem (g := w2.heap.size) (n := m) (b := z) (by simp)).c2; have K2 := Lib.hid h; clear B2 h)
      | (go_at_call 25; with_reducible refine (blen_any m z _).mono ?_; rintro e3 w3 ⟨rfl, B3⟩; have h := K2.out.step B3; clear c0 c1 f0 f1; obtain ⟨c0, c1, f0, f1⟩ := (h.mem (g := w2.heap.size) (n := m) (b := z) (by simp)).c2; have K3 := Lib.hid h; clear B3 h)
      | (go_at_call 28; with_reducible refine (bcount_any m z _ hm hz).mono ?_; rintro e4 w4 ⟨rfl, B4⟩; have h := K3.out.step B4; clear c0 c1 f0 f1; obtain ⟨c0, c1, f0, f1⟩ := (h.mem (g := w2.heap.size) (n := m) (b := z) (by simp)).c2; have K4 := Lib.hid h; clear B4 h)
      | (go_at_call 24; with_reducible refine (ball_len m z _ hm hz).mono ?_; rintro e5 w5 ⟨⟨A5, c5, rfl, _⟩, B5⟩; have h := K4.out.step B5; clear c0 c1 f0 f1; obtain ⟨c0, c1, f0, f1⟩ := (h.mem (g := w2.heap.size) (n := m) (b := z) (by simp)).c2; have K5 := Lib.hid h; clear B5 h)
      | (go_at_call 26; with_reducible refine (has_eq m z a1 false _ HH.out hm hz).mono ?_; rintro e6 w6 ⟨rfl, B6⟩; have h := K5.out.step B6; clear c0 c1 f0 f1; obtain ⟨c0, c1, f0, f1⟩ := (h.mem (g := w2.heap.size) (n := m) (b := z) (by simp)).c2; have K6 := Lib.hid h; clear B6 h)
      | (go_at_call 22; with_reducible refine (text_eq m z s _ HT.out hm hz).mono ?_; rintro e7 w7 ⟨rfl, B7⟩; have h := K6.out.step B7; clear c0 c1 f0 f1; obtain ⟨c0, c1, f0, f1⟩ := (h.mem (g := w2.heap.size) (n := m) (b := z) (by simp)).c2; have K7 := Lib.hid h; clear B7 h)
      | (go_at_call 27; with_reducible refine (nextV_any m z a1 _ _ HN.out hm hz b1).mono ?_; rintro e8 w8 ⟨rfl, B8⟩; have h := K7.out.step B8; clear c0 c1 f0 f1; obtain ⟨c0, c1, f0, f1⟩ := (h.mem (g := w2.heap.size) (n := m) (b := z) (by simp)).c2; have K8 := Lib.hid h; clear B8 h)
      | (go_at_call 13; with_reducible refine (put_out m z a1 _ hin hm hz).mono ?_; rintro e9 w9 ⟨rfl, B9⟩; have K9 := Lib.hid ((K8.out.step B9).new 0 0); clear B9))
      go_ret
      exact ⟨rfl, K9.out.bel⟩
    · have kg : decide (0 ≤ a1) = false := decide_eq_false g
      go_enter Try.func9, Try.ntmps9
      go_wp2_with (first
      | (go_at_call 10; refine (awake_any _).mono ?_; rintro e1 w1 ⟨rfl, B1⟩; have K1 := Lib.hid (Kp.nil B1); clear B1)
      | (go_at_call 11; with_reducible refine (new_eq _ m z _ HM.out HZ.out).mono ?_; rintro e2 w2 ⟨rfl, B2⟩; have h := (K1.out.step B2).new m z; obtain ⟨c0, c1, f0, f1⟩ := (h.mem (g := w2.heap.size) (n := m) (b := z) (by simp)).c2; have K2 := Lib.hid h; clear B2 h)
      | (go_at_call 25; with_reducible refine (blen_any m z _).mono ?_; rintro e3 w3 ⟨rfl, B3⟩; have h := K2.out.step B3; clear c0 c1 f0 f1; obtain ⟨c0, c1, f0, f1⟩ := (h.mem (g := w2.heap.size) (n := m) (b := z) (by simp)).c2; have K3 := Lib.hid h; clear B3 h)
      | (go_at_call 28; with_reducible refine (bcount_any m z _ hm hz).mono ?_; rintro e4 w4 ⟨rfl, B4⟩; have h := K3.out.step B4; clear c0 c1 f0 f1; obtain ⟨c0, c1, f0, f1⟩ := (h.mem (g := w2.heap.size) (n := m) (b := z) (by simp)).c2; have K4 := Lib.hid h; clear B4 h)
      | (go_at_call 24; with_reducible refine (ball_len m z _ hm hz).mono ?_; rintro e5 w5 ⟨⟨A5, c5, rfl, _⟩, B5⟩; have h := K4.out.step B5; clear c0 c1 f0 f1; obtain ⟨c0, c1, f0, f1⟩ := (h.mem (g := w2.heap.size) (n := m) (b := z) (by simp)).c2; have K5 := Lib.hid h; clear B5 h)
      | (go_at_call 26; with_reducible refine (has_eq m z a1 false _ HH.out hm hz).mono ?_; rintro e6 w6 ⟨rfl, B6⟩; have h := K5.out.step B6; clear c0 c1 f0 f1; obtain ⟨c0, c1, f0, f1⟩ := (h.mem (g := w2.heap.size) (n := m) (b := z) (by simp)).c2; have K6 := Lib.hid h; clear B6 h)
      | (go_at_call 22; with_reducible refine (text_eq m z s _ HT.out hm hz).mono ?_; rintro e7 w7 ⟨rfl, B7⟩; have h := K6.out.step B7; clear c0 c1 f0 f1; obtain ⟨c0, c1, f0, f1⟩ := (h.mem (g := w2.heap.size) (n := m) (b := z) (by simp)).c2; have K7 := Lib.hid h; clear B7 h)
      | (go_at_call 27; with_reducible refine (nextV_any m z a1 _ _ HN.out hm hz b1).mono ?_; rintro e8 w8 ⟨rfl, B8⟩; have h := K7.out.step B8; clear c0 c1 f0 f1; obtain ⟨c0, c1, f0, f1⟩ := (h.mem (g := w2.heap.size) (n := m) (b := z) (by simp)).c2; have K8 := Lib.hid h; clear B8 h)
      | (go_at_call 13; with_reducible refine (put_out m z a1 _ hin hm hz).mono ?_; rintro e9 w9 ⟨rfl, B9⟩; have K9 := Lib.hid ((K8.out.step B9).new 0 0); clear B9))
      go_ret
      exact ⟨rfl, K9.out.bel⟩
  · have k1 : decide (a0 < 0) = false := by simp <;> omega
    have k1b : decide (64 < a0) = true := decide_eq_true h1
    have k2 : ((m : Int) != 0) = false := by rw [h0]; rfl
    have k3 : ((s.size : Int) != 1) = false := by rw [HS.out, h0]; rfl
    have hin : inn m a1 = false := by simp [inn, h0] <;> omega
    clear h0
    by_cases g : 0 ≤ a1
    · have kg : decide (0 ≤ a1) = true := decide_eq_true g
      have kg2 : decide (a1 < 0) = false := by simp <;> omega
      go_enter Try.func9, Try.ntmps9
      go_wp2_with (first
      | (go_at_call 10; refine (awake_any _).mono ?_; rintro e1 w1 ⟨rfl, B1⟩; have K1 := Lib.hid (Kp.nil B1); clear B1)
      | (go_at_call 11; with_reducible refine (new_eq _ m z _ HM.out HZ.out).mono ?_; rintro e2 w2 ⟨rfl, B2⟩; have h := (K1.out.step B2).new m z; obtain ⟨c0, c1, f0, f1⟩ := (h.mem (g := w2.heap.size) (n := m) (b := z) (by simp)).c2; have K2 := Lib.hid h; clear B2 h)
      | (go_at_call 25; with_reducible refine (blen_any m z _).mono ?_; rintro e3 w3 ⟨rfl, B3⟩; have h := K2.out.step B3; clear c0 c1 f0 f1; obtain ⟨c0, c1, f0, f1⟩ := (h.mem (g := w2.heap.size) (n := m) (b := z) (by simp)).c2; have K3 := Lib.hid h; clear B3 h)
      | (go_at_call 28; with_reducible refine (bcount_any m z _ hm hz).mono ?_; rintro e4 w4 ⟨rfl, B4⟩; have h := K3.out.step B4; clear c0 c1 f0 f1; obtain ⟨c0, c1, f0, f1⟩ := (h.mem (g := w2.heap.size) (n := m) (b := z) (by simp)).c2; have K4 := Lib.hid h; clear B4 h)
      | (go_at_call 24; with_reducible refine (ball_len m z _ hm hz).mono ?_; rintro e5 w5 ⟨⟨A5, c5, rfl, _⟩, B5⟩; have h := K4.out.step B5; clear c0 c1 f0 f1; obtain ⟨c0, c1, f0, f1⟩ := (h.mem (g := w2.heap.size) (n := m) (b := z) (by simp)).c2; have K5 := Lib.hid h; clear B5 h)
      | (go_at_call 26; with_reducible refine (has_eq m z a1 false _ HH.out hm hz).mono ?_; rintro e6 w6 ⟨rfl, B6⟩; have h := K5.out.step B6; clear c0 c1 f0 f1; obtain ⟨c0, c1, f0, f1⟩ := (h.mem (g := w2.heap.size) (n := m) (b := z) (by simp)).c2; have K6 := Lib.hid h; clear B6 h)
      | (go_at_call 22; with_reducible refine (text_eq m z s _ HT.out hm hz).mono ?_; rintro e7 w7 ⟨rfl, B7⟩; have h := K6.out.step B7; clear c0 c1 f0 f1; obtain ⟨c0, c1, f0, f1⟩ := (h.mem (g := w2.heap.size) (n := m) (b := z) (by simp)).c2; have K7 := Lib.hid h; clear B7 h)
      | (go_at_call 27; with_reducible refine (nextV_any m z a1 _ _ HN.out hm hz b1).mono ?_; rintro e8 w8 ⟨rfl, B8⟩; have h := K7.out.step B8; clear c0 c1 f0 f1; obtain ⟨c0, c1, f0, f1⟩ := (h.mem (g := w2.heap.size) (n := m) (b := z) (by simp)).c2; have K8 := Lib.hid h; clear B8 h)
      | (go_at_call 13; with_reducible refine (put_out m z a1 _ hin hm hz).mono ?_; rintro e9 w9 ⟨rfl, B9⟩; have K9 := Lib.hid ((K8.out.step B9).new 0 0); clear B9))
      go_ret
      exact ⟨rfl, K9.out.bel⟩
    · have kg : decide (0 ≤ a1) = false := decide_eq_false g
      go_enter Try.func9, Try.ntmps9
      go_wp2_with (first
      | (go_at_call 10; refine (awake_any _).mono ?_; rintro e1 w1 ⟨rfl, B1⟩; have K1 := Lib.hid (Kp.nil B1); clear B1)
      | (go_at_call 11; with_reducible refine (new_eq _ m z _ HM.out HZ.out).mono ?_; rintro e2 w2 ⟨rfl, B2⟩; have h := (K1.out.step B2).new m z; obtain ⟨c0, c1, f0, f1⟩ := (h.mem (g := w2.heap.size) (n := m) (b := z) (by simp)).c2; have K2 := Lib.hid h; clear B2 h)
      | (go_at_call 25; with_reducible refine (blen_any m z _).mono ?_; rintro e3 w3 ⟨rfl, B3⟩; have h := K2.out.step B3; clear c0 c1 f0 f1; obtain ⟨c0, c1, f0, f1⟩ := (h.mem (g := w2.heap.size) (n := m) (b := z) (by simp)).c2; have K3 := Lib.hid h; clear B3 h)
      | (go_at_call 28; with_reducible refine (bcount_any m z _ hm hz).mono ?_; rintro e4 w4 ⟨rfl, B4⟩; have h := K3.out.step B4; clear c0 c1 f0 f1; obtain ⟨c0, c1, f0, f1⟩ := (h.mem (g := w2.heap.size) (n := m) (b := z) (by simp)).c2; have K4 := Lib.hid h; clear B4 h)
      | (go_at_call 24; with_reducible refine (ball_len m z _ hm hz).mono ?_; rintro e5 w5 ⟨⟨A5, c5, rfl, _⟩, B5⟩; have h := K4.out.step B5; clear c0 c1 f0 f1; obtain ⟨c0, c1, f0, f1⟩ := (h.mem (g := w2.heap.size) (n := m) (b := z) (by simp)).c2; have K5 := Lib.hid h; clear B5 h)
      | (go_at_call 26; with_reducible refine (has_eq m z a1 false _ HH.out hm hz).mono ?_; rintro e6 w6 ⟨rfl, B6⟩; have h := K5.out.step B6; clear c0 c1 f0 f1; obtain ⟨c0, c1, f0, f1⟩ := (h.mem (g := w2.heap.size) (n := m) (b := z) (by simp)).c2; have K6 := Lib.hid h; clear B6 h)
      | (go_at_call 22; with_reducible refine (text_eq m z s _ HT.out hm hz).mono ?_; rintro e7 w7 ⟨rfl, B7⟩; have h := K6.out.step B7; clear c0 c1 f0 f1; obtain ⟨c0, c1, f0, f1⟩ := (h.mem (g := w2.heap.size) (n := m) (b := z) (by simp)).c2; have K7 := Lib.hid h; clear B7 h)
      | (go_at_call 27; with_reducible refine (nextV_any m z a1 _ _ HN.out hm hz b1).mono ?_; rintro e8 w8 ⟨rfl, B8⟩; have h := K7.out.step B8; clear c0 c1 f0 f1; obtain ⟨c0, c1, f0, f1⟩ := (h.mem (g := w2.heap.size) (n := m) (b := z) (by simp)).c2; have K8 := Lib.hid h; clear B8 h)
      | (go_at_call 13; with_reducible refine (put_out m z a1 _ hin hm hz).mono ?_; rintro e9 w9 ⟨rfl, B9⟩; have K9 := Lib.hid ((K8.out.step B9).new 0 0); clear B9))
      go_ret
      exact ⟨rfl, K9.out.bel⟩
  · have k1 : decide ((m : Int) < 0) = false := by simp <;> omega
    have k1b : decide (64 < (m : Int)) = false := by simp <;> omega
    have k2 : ((m : Int) != (m : Int)) = false := by simp
    have k3 : ((s.size : Int) != 1 + ((m : Int) + 7) / 8) = false := by rw [HS.out]; simp <;> omega
    by_cases g : 0 ≤ a1
    · have kg : decide (0 ≤ a1) = true := decide_eq_true g
      by_cases g2 : a1 < m
      · obtain ⟨k, rfl⟩ := Int.eq_ofNat_of_zero_le g
        have hk : k < m := by omega
        have kg2 : decide ((k : Int) < (m : Int)) = true := by simp <;> omega
        have hin : inn m (k : Int) = true := by simp [inn] <;> omega
        have hp : put z k < 18446744073709551616 := put_lt hz (by omega)
        have HH2 := Lib.hid (show has m (put z k) (k : Int) = true by rw [has, hin, Int.toNat_natCast, testBit_put]; simp)
        have kc2 : (((all m (put z k)).length : Int) == 1) = true := by rw [HZ.out, all_put0 hk]; rfl
        go_enter Try.func9, Try.ntmps9
        go_wp2_with (first
      | (go_at_call 10; refine (awake_any _).mono ?_; rintro e1 w1 ⟨rfl, B1⟩; have K1 := Lib.hid (Kp.nil B1); clear B1)
      | (go_at_call 11; with_reducible refine (new_eq _ m z _ HM.out HZ.out).mono ?_; rintro e2 w2 ⟨rfl, B2⟩; have h := (K1.out.step B2).new m z; obtain ⟨c0, c1, f0, f1⟩ := (h.mem (g := w2.heap.size) (n := m) (b := z) (by simp)).c2; have K2 := Lib.hid h; clear B2 h)
      | (go_at_call 25; with_reducible refine (blen_any m z _).mono ?_; rintro e3 w3 ⟨rfl, B3⟩; have h := K2.out.step B3; clear c0 c1 f0 f1; obtain ⟨c0, c1, f0, f1⟩ := (h.mem (g := w2.heap.size) (n := m) (b := z) (by simp)).c2; have K3 := Lib.hid h; clear B3 h)
      | (go_at_call 28; with_reducible refine (bcount_any m z _ hm hz).mono ?_; rintro e4 w4 ⟨rfl, B4⟩; have h := K3.out.step B4; clear c0 c1 f0 f1; obtain ⟨c0, c1, f0, f1⟩ := (h.mem (g := w2.heap.size) (n := m) (b := z) (by simp)).c2; have K4 := Lib.hid h; clear B4 h)
      | (go_at_call 24; with_reducible refine (ball_len m z _ hm hz).mono ?_; rintro e5 w5 ⟨⟨A5, c5, rfl, _⟩, B5⟩; have h := K4.out.step B5; clear c0 c1 f0 f1; obtain ⟨c0, c1, f0, f1⟩ := (h.mem (g := w2.heap.size) (n := m) (b := z) (by simp)).c2; have K5 := Lib.hid h; clear B5 h)
      | (go_at_call 26; with_reducible refine (has_eq m z (k : Int) false _ HH.out hm hz).mono ?_; rintro e6 w6 ⟨rfl, B6⟩; have h := K5.out.step B6; clear c0 c1 f0 f1; obtain ⟨c0, c1, f0, f1⟩ := (h.mem (g := w2.heap.size) (n := m) (b := z) (by simp)).c2; have K6 := Lib.hid h; clear B6 h)
      | (go_at_call 22; with_reducible refine (text_eq m z s _ HT.out hm hz).mono ?_; rintro e7 w7 ⟨rfl, B7⟩; have h := K6.out.step B7; clear c0 c1 f0 f1; obtain ⟨c0, c1, f0, f1⟩ := (h.mem (g := w2.heap.size) (n := m) (b := z) (by simp)).c2; have K7 := Lib.hid h; clear B7 h)
      | (go_at_call 27; with_reducible refine (nextV_any m z (k : Int) _ _ HN.out hm hz b1).mono ?_; rintro e8 w8 ⟨rfl, B8⟩; have h := K7.out.step B8; clear c0 c1 f0 f1; obtain ⟨c0, c1, f0, f1⟩ := (h.mem (g := w2.heap.size) (n := m) (b := z) (by simp)).c2; have K8 := Lib.hid h; clear B8 h)
      | (go_at_call 13; with_reducible refine (put_in m z (k : Int) _ hin hm hz).mono ?_; rintro e9 w9 ⟨rfl, B9⟩; have h := (K8.out.step B9).new m (put z k); clear c0 c1 f0 f1; obtain ⟨c0, c1, f0, f1⟩ := (h.mem (g := w9.heap.size) (n := m) (b := put z k) (by simp)).c2; have K9 := Lib.hid h; clear B9 h)
      | (go_at_call 26; with_reducible refine (has_eq m (put z k) (k : Int) true _ HH2.out hm hp).mono ?_; rintro e10 w10 ⟨rfl, B10⟩; have h := K9.out.step B10; clear c0 c1 f0 f1; obtain ⟨c0, c1, f0, f1⟩ := (h.mem (g := w9.heap.size) (n := m) (b := put z k) (by simp)).c2; have K10 := Lib.hid h; clear B10 h)
      | (go_at_call 28; with_reducible refine (bcount_any m (put z k) _ hm hp).mono ?_; rintro e11 w11 ⟨rfl, B11⟩; have h := K10.out.step B11; clear c0 c1 f0 f1; obtain ⟨c0, c1, f0, f1⟩ := (h.mem (g := w2.heap.size) (n := m) (b := z) (by simp)).c2; have K11 := Lib.hid h; clear B11 h)
      | (go_at_call 26; with_reducible refine (has_eq m z (k : Int) false _ HH.out hm hz).mono ?_; rintro e12 w12 ⟨rfl, B12⟩; have h := K11.out.step B12; have K12 := Lib.hid h; clear B12 h))
        go_ret
        exact ⟨rfl, K12.out.bel⟩
      · have kg2 : decide (a1 < (m : Int)) = false := by simp <;> omega
        have hin : inn m a1 = false := by simp [inn] <;> omega
        go_enter Try.func9, Try.ntmps9
        go_wp2_with (first
      | (go_at_call 10; refine (awake_any _).mono ?_; rintro e1 w1 ⟨rfl, B1⟩; have K1 := Lib.hid (Kp.nil B1); clear B1)
      | (go_at_call 11; with_reducible refine (new_eq _ m z _ HM.out HZ.out).mono ?_; rintro e2 w2 ⟨rfl, B2⟩; have h := (K1.out.step B2).new m z; obtain ⟨c0, c1, f0, f1⟩ := (h.mem (g := w2.heap.size) (n := m) (b := z) (by simp)).c2; have K2 := Lib.hid h; clear B2 h)
      | (go_at_call 25; with_reducible refine (blen_any m z _).mono ?_; rintro e3 w3 ⟨rfl, B3⟩; have h := K2.out.step B3; clear c0 c1 f0 f1; obtain ⟨c0, c1, f0, f1⟩ := (h.mem (g := w2.heap.size) (n := m) (b := z) (by simp)).c2; have K3 := Lib.hid h; clear B3 h)
      | (go_at_call 28; with_reducible refine (bcount_any m z _ hm hz).mono ?_; rintro e4 w4 ⟨rfl, B4⟩; have h := K3.out.step B4; clear c0 c1 f0 f1; obtain ⟨c0, c1, f0, f1⟩ := (h.mem (g := w2.heap.size) (n := m) (b := z) (by simp)).c2; have K4 := Lib.hid h; clear B4 h)
      | (go_at_call 24; with_reducible refine (ball_len m z _ hm hz).mono ?_; rintro e5 w5 ⟨⟨A5, c5, rfl, _⟩, B5⟩; have h := K4.out.step B5; clear c0 c1 f0 f1; obtain ⟨c0, c1, f0, f1⟩ := (h.mem (g := w2.heap.size) (n := m) (b := z) (by simp)).c2; have K5 := Lib.hid h; clear B5 h)
      | (go_at_call 26; with_reducible refine (has_eq m z a1 false _ HH.out hm hz).mono ?_; rintro e6 w6 ⟨rfl, B6⟩; have h := K5.out.step B6; clear c0 c1 f0 f1; obtain ⟨c0, c1, f0, f1⟩ := (h.mem (g := w2.heap.size) (n := m) (b := z) (by simp)).c2; have K6 := Lib.hid h; clear B6 h)
      | (go_at_call 22; with_reducible refine (text_eq m z s _ HT.out hm hz).mono ?_; rintro e7 w7 ⟨rfl, B7⟩; have h := K6.out.step B7; clear c0 c1 f0 f1; obtain ⟨c0, c1, f0, f1⟩ := (h.mem (g := w2.heap.size) (n := m) (b := z) (by simp)).c2; have K7 := Lib.hid h; clear B7 h)
      | (go_at_call 27; with_reducible refine (nextV_any m z a1 _ _ HN.out hm hz b1).mono ?_; rintro e8 w8 ⟨rfl, B8⟩; have h := K7.out.step B8; clear c0 c1 f0 f1; obtain ⟨c0, c1, f0, f1⟩ := (h.mem (g := w2.heap.size) (n := m) (b := z) (by simp)).c2; have K8 := Lib.hid h; clear B8 h)
      | (go_at_call 13; with_reducible refine (put_out m z a1 _ hin hm hz).mono ?_; rintro e9 w9 ⟨rfl, B9⟩; have K9 := Lib.hid ((K8.out.step B9).new 0 0); clear B9))
        go_ret
        exact ⟨rfl, K9.out.bel⟩
    · have kg : decide (0 ≤ a1) = false := decide_eq_false g
      have hin : inn m a1 = false := by simp [inn] <;> omega
      go_enter Try.func9, Try.ntmps9
      go_wp2_with (first
      | (go_at_call 10; refine (awake_any _).mono ?_; rintro e1 w1 ⟨rfl, B1⟩; have K1 := Lib.hid (Kp.nil B1); clear B1)
      | (go_at_call 11; with_reducible refine (new_eq _ m z _ HM.out HZ.out).mono ?_; rintro e2 w2 ⟨rfl, B2⟩; have h := (K1.out.step B2).new m z; obtain ⟨c0, c1, f0, f1⟩ := (h.mem (g := w2.heap.size) (n := m) (b := z) (by simp)).c2; have K2 := Lib.hid h; clear B2 h)
      | (go_at_call 25; with_reducible refine (blen_any m z _).mono ?_; rintro e3 w3 ⟨rfl, B3⟩; have h := K2.out.step B3; clear c0 c1 f0 f1; obtain ⟨c0, c1, f0, f1⟩ := (h.mem (g := w2.heap.size) (n := m) (b := z) (by simp)).c2; have K3 := Lib.hid h; clear B3 h)
      | (go_at_call 28; with_reducible refine (bcount_any m z _ hm hz).mono ?_; rintro e4 w4 ⟨rfl, B4⟩; have h := K3.out.step B4; clear c0 c1 f0 f1; obtain ⟨c0, c1, f0, f1⟩ := (h.mem (g := w2.heap.size) (n := m) (b := z) (by simp)).c2; have K4 := Lib.hid h; clear B4 h)
      | (go_at_call 24; with_reducible refine (ball_len m z _ hm hz).mono ?_; rintro e5 w5 ⟨⟨A5, c5, rfl, _⟩, B5⟩; have h := K4.out.step B5; clear c0 c1 f0 f1; obtain ⟨c0, c1, f0, f1⟩ := (h.mem (g := w2.heap.size) (n := m) (b := z) (by simp)).c2; have K5 := Lib.hid h; clear B5 h)
      | (go_at_call 26; with_reducible refine (has_eq m z a1 false _ HH.out hm hz).mono ?_; rintro e6 w6 ⟨rfl, B6⟩; have h := K5.out.step B6; clear c0 c1 f0 f1; obtain ⟨c0, c1, f0, f1⟩ := (h.mem (g := w2.heap.size) (n := m) (b := z) (by simp)).c2; have K6 := Lib.hid h; clear B6 h)
      | (go_at_call 22; with_reducible refine (text_eq m z s _ HT.out hm hz).mono ?_; rintro e7 w7 ⟨rfl, B7⟩; have h := K6.out.step B7; clear c0 c1 f0 f1; obtain ⟨c0, c1, f0, f1⟩ := (h.mem (g := w2.heap.size) (n := m) (b := z) (by simp)).c2; have K7 := Lib.hid h; clear B7 h)
      | (go_at_call 27; with_reducible refine (nextV_any m z a1 _ _ HN.out hm hz b1).mono ?_; rintro e8 w8 ⟨rfl, B8⟩; have h := K7.out.step B8; clear c0 c1 f0 f1; obtain ⟨c0, c1, f0, f1⟩ := (h.mem (g := w2.heap.size) (n := m) (b := z) (by simp)).c2; have K8 := Lib.hid h; clear B8 h)
      | (go_at_call 13; with_reducible refine (put_out m z a1 _ hin hm hz).mono ?_; rintro e9 w9 ⟨rfl, B9⟩; have K9 := Lib.hid ((K8.out.step B9).new 0 0); clear B9))
      go_ret
      exact ⟨rfl, K9.out.bel⟩
end Go.Proofs.Ytlgmomjofhbggaa
