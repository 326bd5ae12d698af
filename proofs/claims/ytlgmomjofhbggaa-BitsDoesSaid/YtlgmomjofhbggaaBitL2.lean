/- The walk of BitsBack. No condition but the row's own. -/
import Derived.Test.YtlgmomjofhbggaaBitK
set_option linter.unusedVariables false
set_option linter.unusedSimpArgs false
namespace Go.Proofs.Ytlgmomjofhbggaa
open Go.RowKit

theorem Kp.two {w W : World} {bs : List (Nat × Nat × Nat)} (h : Kp w W bs) {g n b g' n' b' : Nat} (h1 : (g, n, b) ∈ bs) (h2 : (g', n', b') ∈ bs) :
    W.cell? ⟨g, 0, none⟩ = some (.int .i64 n) ∧ W.cell? ⟨g, 1, none⟩ = some (.int .u64 b) ∧ W.cell? ⟨g', 0, none⟩ = some (.int .i64 n') ∧ W.cell? ⟨g', 1, none⟩ = some (.int .u64 b') :=
  ⟨(h.mem h1).cell 0, (h.mem h1).cell 1, (h.mem h2).cell 0, (h.mem h2).cell 1⟩
theorem len00 (w : World) : Calls Try.prog 25 #[.agg #[.int .i64 0, .int .u64 0]] w fun e w' => e = .returned (.int .i64 0) ∧ Below w.heap.size w w' := blen_any 0 0 w
theorem load_some (s : ByteArray) (n b : Nat) (w : World) (h : load (natsOf s) = some (n, b)) (hs : s.size ≤ 140737488351232) :
    Calls Try.prog 19 #[.string s] w fun e w' => e = .returned (.tuple #[.agg #[.int .i64 n, .int .u64 b], .int .i64 0]) ∧ Below w.heap.size w w' := by
  have := bload_any s w hs
  rwa [h] at this
theorem load_none (s : ByteArray) (o : Nat) (w : World) (h : load (natsOf s) = none) (ho : o = 0) (hs : s.size ≤ 140737488351232) :
    Calls Try.prog 19 #[.string s] w fun e w' => e = .returned (.tuple #[.agg #[.int .i64 (o : Int), .int .u64 (o : Int)], .int .i64 4]) ∧ Below w.heap.size w w' := by
  subst ho
  have := bload_any s w hs
  rwa [h] at this
theorem ints_same (A B : Option Addr) (xs : List Nat) (n c d : Nat) (w : World) (hx : xs.length = n) (hr : Rd w A (ivals xs)) (hs : Rd w B (ivals xs)) (hn : n ≤ 140737488351232) :
    Calls Try.prog 23 #[.slice A n c, .slice B n d] w fun e w' => e = .returned (.bool true) ∧ Below w.heap.size w w' := by
  have := ints_any A B xs xs n n c d w hx hx hr hs hn hn
  rwa [show decide (xs = xs) = true by simp] at this

set_option maxRecDepth 100000 in
set_option maxHeartbeats 2000000 in
theorem w_BitsBack (a0 : Int) (a1 : Int) (a2 : ByteArray) (w : World) (b0 : -9223372036854775808 ≤ a0 ∧ a0 ≤ 9223372036854775807) (b1 : 0 ≤ a1 ∧ a1 ≤ 18446744073709551615) (b2 : a2.size ≤ 140737488351232) :
    Calls Try.prog 5 #[.int .i64 a0, .int .u64 a1, .string a2] w fun e w' => e = .returned (.bool true) ∧ Below w.heap.size w w' := by
  obtain ⟨u, rfl⟩ := Int.eq_ofNat_of_zero_le b1.1
  have hu : u < 18446744073709551616 := by omega
  by_cases g : 4096 < a2.size
  · have k0 : decide ((4096 : Int) < (a2.size : Int)) = true := by simp; omega
    go_enter Try.func5, Try.ntmps5
    go_wp2_with (go_at_call 10; refine (awake_any _).mono ?_; rintro e1 w1 ⟨rfl, B1⟩)
    go_ret
    exact ⟨rfl, B1⟩
  have k0 : decide ((4096 : Int) < (a2.size : Int)) = false := by simp; omega
  obtain ⟨m, hM⟩ : ∃ m, newOf a0 = m := ⟨_, rfl⟩
  obtain ⟨z, hZ⟩ : ∃ z, u % 2 ^ m = z := ⟨_, rfl⟩
  obtain ⟨s, hT⟩ : ∃ s, strOf (text m z) = s := ⟨_, rfl⟩
  have hm : m ≤ 64 := hM ▸ newOf_le a0
  have hz : z < 18446744073709551616 := by rw [← hZ]; exact Nat.lt_of_le_of_lt (Nat.mod_le _ _) hu
  have hzm : z < 2 ^ m := by rw [← hZ]; exact Nat.mod_lt _ (Nat.two_pow_pos _)
  have hs : s.size ≤ 140737488351232 := by rw [← hT, strOf_size, text_len]; omega
  have HLD := Lib.hid (show load (natsOf s) = some (m, z) by rw [← hT, natsOf_strOf (text_lt m z hm)]; exact load_text hm hzm)
  have HAL := Lib.hid (all_len m z)
  have HM := Lib.hid hM; have HZ := Lib.hid hZ; have HT := Lib.hid hT
  clear hM hZ hT hzm
  generalize hall : all m z = al at *
  have HA := Lib.hid hall
  clear hall
  cases hl : load (natsOf a2) with
  | none =>
    have HL2 := Lib.hid hl
    clear hl
    obtain ⟨o, ho⟩ : ∃ o : Nat, o = 0 := ⟨0, rfl⟩
    have q1 : ((o : Int) == 0) = true := by rw [ho]; rfl
    have HO := Lib.hid ho
    clear ho
    go_enter Try.func5, Try.ntmps5
    go_upto_region 8 with (first
      | (go_at_call 10; refine (awake_any _).mono ?_; rintro e1 w1 ⟨rfl, B1⟩; have K1 := Lib.hid (Kp.nil B1); clear B1)
      | (go_at_call 21; with_reducible refine (row_eq a0 u m z _ HM.out HZ.out hu).mono ?_; rintro e2 w2 ⟨rfl, B2⟩; have h := (K1.out.step B2).new m z; have K2 := Lib.hid h; clear B2 h)
      | (go_at_call 22; with_reducible refine (text_eq m z s _ HT.out hm hz).mono ?_; rintro e3 w3 ⟨rfl, B3⟩; have h := K2.out.step B3; have K3 := Lib.hid h; clear B3 h)
      | (go_at_call 19; with_reducible refine (load_some s m z _ HLD.out hs).mono ?_; rintro e4 w4 ⟨rfl, B4⟩; have h := (K3.out.step B4).new m z; have K4 := Lib.hid h; clear B4 h)
      | (go_at_call 19; with_reducible refine (load_none a2 o _ HL2.out HO.out b2).mono ?_; rintro e5 w5 ⟨rfl, B5⟩; have h := (K4.out.step B5).new o o; have S0 := h.two (g := w2.heap.size) (n := m) (b := z) (g' := w4.heap.size) (n' := m) (b' := z) (by simp) (by simp); have K5 := Lib.hid h; clear B5 h))
    have HS0 := Lib.hid S0
    clear S0
    generalize hW : w5.alloc (.cells (rc o o) 26) = W at *
    have S0 := HS0.out
    go_region_held3 (fun w' => w'.cell? ⟨w2.heap.size, 0, none⟩ = some (.int .i64 m) ∧ w'.cell? ⟨w2.heap.size, 1, none⟩ = some (.int .u64 z) ∧ w'.cell? ⟨w4.heap.size, 0, none⟩ = some (.int .i64 m) ∧ w'.cell? ⟨w4.heap.size, 1, none⟩ = some (.int .u64 z))
      (first | exact HS0.out | exact S6.out | exact S7.out | exact S8.out | exact S9.out | exact S10.out)
      (first
      | (go_at_call 24; with_reducible refine (ball_len m z _ hm hz).mono ?_; rw [HA.out]; rintro e6 w6 ⟨⟨A6, c6, rfl, R6⟩, B6⟩; have h := K5.out.drew.step B6; have S6 := Lib.hid (h.two (g := w2.heap.size) (n := m) (b := z) (g' := w4.heap.size) (n' := m) (b' := z) (by simp) (by simp)); have K6 := Lib.hid h; have HR6 := Lib.hid R6; clear B6 h R6 K5)
      | (go_at_call 24; with_reducible refine (ball_len m z _ hm hz).mono ?_; rw [HA.out]; rintro e7 w7 ⟨⟨A7, c7, rfl, R7⟩, B7⟩; have h := K6.out.step B7; have S7 := Lib.hid (h.two (g := w2.heap.size) (n := m) (b := z) (g' := w4.heap.size) (n' := m) (b' := z) (by simp) (by simp)); have K7 := Lib.hid h; have HR7 := Lib.hid R7; have HR6b := Lib.hid (HR6.out.below B7); clear B7 h R7 K6)
      | (go_at_call 23; with_reducible refine (ints_same A6 A7 al _ c6 c7 _ rfl HR6b.out HR7.out (by have := HAL.out; omega)).mono ?_; rintro e8 w8 ⟨rfl, B8⟩; have h := K7.out.step B8; have S8 := Lib.hid (h.two (g := w2.heap.size) (n := m) (b := z) (g' := w4.heap.size) (n' := m) (b' := z) (by simp) (by simp)); have K8 := Lib.hid h; clear B8 h K7)
      | (go_at_call 25; with_reducible refine (blen_any m z _).mono ?_; rintro e9 w9 ⟨rfl, B9⟩; have h := K8.out.step B9; have S9 := Lib.hid (h.two (g := w2.heap.size) (n := m) (b := z) (g' := w4.heap.size) (n' := m) (b' := z) (by simp) (by simp)); have K9 := Lib.hid h; clear B9 h K8)
      | (go_at_call 25; with_reducible refine (blen_any m z _).mono ?_; rintro e10 w10 ⟨rfl, B10⟩; have h := K9.out.step B10; have S10 := Lib.hid (h.two (g := w2.heap.size) (n := m) (b := z) (g' := w4.heap.size) (n' := m) (b' := z) (by simp) (by simp)); have K10 := Lib.hid h; clear B10 h K9))
    obtain ⟨c0, c1, f0, f1⟩ := (K10.out.mem (g := w5.heap.size) (n := o) (b := o) (by simp)).c2
    go_wp2_with (go_at_call 25; with_reducible refine (blen_any o o _).mono ?_; rintro e11 w11 ⟨rfl, B11⟩; have K11 := Lib.hid (K10.out.step B11); clear B11)
    go_ret
    exact ⟨rfl, K11.out.bel⟩
  | some p =>
    obtain ⟨n, b⟩ := p
    have hlx := text_load (natsOf_lt a2) hl
    have HL2 := Lib.hid hl
    have HT2 := Lib.hid (show strOf (text n b) = a2 by rw [hlx.1, strOf_natsOf])
    have hn := hlx.2.1
    have hb : b < 18446744073709551616 := Nat.lt_of_lt_of_le hlx.2.2 (by rw [← p64]; exact Nat.pow_le_pow_right (by decide) hn)
    clear hl hlx
    go_enter Try.func5, Try.ntmps5
    go_upto_region 8 with (first
      | (go_at_call 10; refine (awake_any _).mono ?_; rintro e1 w1 ⟨rfl, B1⟩; have K1 := Lib.hid (Kp.nil B1); clear B1)
      | (go_at_call 21; with_reducible refine (row_eq a0 u m z _ HM.out HZ.out hu).mono ?_; rintro e2 w2 ⟨rfl, B2⟩; have h := (K1.out.step B2).new m z; have K2 := Lib.hid h; clear B2 h)
      | (go_at_call 22; with_reducible refine (text_eq m z s _ HT.out hm hz).mono ?_; rintro e3 w3 ⟨rfl, B3⟩; have h := K2.out.step B3; have K3 := Lib.hid h; clear B3 h)
      | (go_at_call 19; with_reducible refine (load_some s m z _ HLD.out hs).mono ?_; rintro e4 w4 ⟨rfl, B4⟩; have h := (K3.out.step B4).new m z; have K4 := Lib.hid h; clear B4 h)
      | (go_at_call 19; with_reducible refine (load_some a2 n b _ HL2.out b2).mono ?_; rintro e5 w5 ⟨rfl, B5⟩; have h := (K4.out.step B5).new n b; have S0 := h.two (g := w2.heap.size) (n := m) (b := z) (g' := w4.heap.size) (n' := m) (b' := z) (by simp) (by simp); have K5 := Lib.hid h; clear B5 h))
    have HS0 := Lib.hid S0
    clear S0
    generalize hW : w5.alloc (.cells (rc n b) 26) = W at *
    have S0 := HS0.out
    go_region_held3 (fun w' => w'.cell? ⟨w2.heap.size, 0, none⟩ = some (.int .i64 m) ∧ w'.cell? ⟨w2.heap.size, 1, none⟩ = some (.int .u64 z) ∧ w'.cell? ⟨w4.heap.size, 0, none⟩ = some (.int .i64 m) ∧ w'.cell? ⟨w4.heap.size, 1, none⟩ = some (.int .u64 z))
      (first | exact HS0.out | exact S6.out | exact S7.out | exact S8.out | exact S9.out | exact S10.out)
      (first
      | (go_at_call 24; with_reducible refine (ball_len m z _ hm hz).mono ?_; rw [HA.out]; rintro e6 w6 ⟨⟨A6, c6, rfl, R6⟩, B6⟩; have h := K5.out.drew.step B6; have S6 := Lib.hid (h.two (g := w2.heap.size) (n := m) (b := z) (g' := w4.heap.size) (n' := m) (b' := z) (by simp) (by simp)); have K6 := Lib.hid h; have HR6 := Lib.hid R6; clear B6 h R6 K5)
      | (go_at_call 24; with_reducible refine (ball_len m z _ hm hz).mono ?_; rw [HA.out]; rintro e7 w7 ⟨⟨A7, c7, rfl, R7⟩, B7⟩; have h := K6.out.step B7; have S7 := Lib.hid (h.two (g := w2.heap.size) (n := m) (b := z) (g' := w4.heap.size) (n' := m) (b' := z) (by simp) (by simp)); have K7 := Lib.hid h; have HR7 := Lib.hid R7; have HR6b := Lib.hid (HR6.out.below B7); clear B7 h R7 K6)
      | (go_at_call 23; with_reducible refine (ints_same A6 A7 al _ c6 c7 _ rfl HR6b.out HR7.out (by have := HAL.out; omega)).mono ?_; rintro e8 w8 ⟨rfl, B8⟩; have h := K7.out.step B8; have S8 := Lib.hid (h.two (g := w2.heap.size) (n := m) (b := z) (g' := w4.heap.size) (n' := m) (b' := z) (by simp) (by simp)); have K8 := Lib.hid h; clear B8 h K7)
      | (go_at_call 25; with_reducible refine (blen_any m z _).mono ?_; rintro e9 w9 ⟨rfl, B9⟩; have h := K8.out.step B9; have S9 := Lib.hid (h.two (g := w2.heap.size) (n := m) (b := z) (g' := w4.heap.size) (n' := m) (b' := z) (by simp) (by simp)); have K9 := Lib.hid h; clear B9 h K8)
      | (go_at_call 25; with_reducible refine (blen_any m z _).mono ?_; rintro e10 w10 ⟨rfl, B10⟩; have h := K9.out.step B10; have S10 := Lib.hid (h.two (g := w2.heap.size) (n := m) (b := z) (g' := w4.heap.size) (n' := m) (b' := z) (by simp) (by simp)); have K10 := Lib.hid h; clear B10 h K9))
    obtain ⟨c0, c1, f0, f1⟩ := (K10.out.mem (g := w5.heap.size) (n := n) (b := b) (by simp)).c2
    go_wp2_with (go_at_call 22; with_reducible refine (text_eq n b a2 _ HT2.out hn hb).mono ?_; rintro e11 w11 ⟨rfl, B11⟩; have K11 := Lib.hid (K10.out.step B11); clear B11)
    go_ret
    exact ⟨rfl, K11.out.bel⟩
end Go.Proofs.Ytlgmomjofhbggaa
