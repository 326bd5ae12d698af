/- The walk of BitsOr. No condition but the row's own. -/
import Derived.Test.YtlgmomjofhbggaaBitL2
set_option linter.unusedVariables false
set_option linter.unusedSimpArgs false
namespace Go.Proofs.Ytlgmomjofhbggaa
open Go.RowKit

theorem has_or (m a b : Nat) (i : Int) : has m (a ||| b) i = (has m a i || has m b i) := by
  unfold has
  rw [Nat.testBit_or]
  cases inn m i <;> simp

set_option maxRecDepth 100000 in
set_option maxHeartbeats 4000000 in
theorem w_BitsOr (a0 : Int) (a1 : Int) (a2 : Int) (w : World) (b0 : -9223372036854775808 ≤ a0 ∧ a0 ≤ 9223372036854775807) (b1 : 0 ≤ a1 ∧ a1 ≤ 18446744073709551615) (b2 : 0 ≤ a2 ∧ a2 ≤ 18446744073709551615) :
    Calls Try.prog 6 #[.int .i64 a0, .int .u64 a1, .int .u64 a2] w fun e w' => e = .returned (.bool true) ∧ Below w.heap.size w w' := by
  obtain ⟨u, rfl⟩ := Int.eq_ofNat_of_zero_le b1.1
  obtain ⟨v, rfl⟩ := Int.eq_ofNat_of_zero_le b2.1
  have hu : u < 18446744073709551616 := by omega
  have hv : v < 18446744073709551616 := by omega
  obtain ⟨m, hM⟩ : ∃ m, newOf a0 = m := ⟨_, rfl⟩
  obtain ⟨za, hA⟩ : ∃ z, u % 2 ^ m = z := ⟨_, rfl⟩
  obtain ⟨zb, hB⟩ : ∃ z, v % 2 ^ m = z := ⟨_, rfl⟩
  obtain ⟨x, hX⟩ : ∃ x, za ||| zb = x := ⟨_, rfl⟩
  obtain ⟨s, hT⟩ : ∃ s, strOf (text m x) = s := ⟨_, rfl⟩
  obtain ⟨q, hQ⟩ : ∃ q, u ||| v = q := ⟨_, rfl⟩
  have hm : m ≤ 64 := hM ▸ newOf_le a0
  have ha : za < 18446744073709551616 := by rw [← hA]; exact Nat.lt_of_le_of_lt (Nat.mod_le _ _) hu
  have hb : zb < 18446744073709551616 := by rw [← hB]; exact Nat.lt_of_le_of_lt (Nat.mod_le _ _) hv
  have hx : x < 18446744073709551616 := by rw [← hX]; exact or_lt64 ha hb
  have hq : q < 18446744073709551616 := by rw [← hQ]; exact or_lt64 hu hv
  have HQM := Lib.hid (show q % 2 ^ m = x by rw [← hQ, ← hX, ← hA, ← hB, Nat.or_mod_two_pow])
  have hor : bits .or .u64 (u : Int) (v : Int) = (q : Int) := by rw [or64 hu hv, hQ]
  have HX2 := Lib.hid (show zb ||| za = x by rw [Nat.or_comm, hX])
  have HX3 := Lib.hid (show x ||| za = x by rw [← hX, Nat.or_assoc, Nat.or_comm zb, ← Nat.or_assoc, Nat.or_self])
  have HH := Lib.hid (show ∀ i, has m x i = (has m za i || has m zb i) from fun i => by rw [← hX, has_or])
  have HM := Lib.hid hM; have HA := Lib.hid hA; have HB := Lib.hid hB; have HX := Lib.hid hX; have HT := Lib.hid hT
  clear hM hA hB hX hT hQ
  go_enter Try.func6, Try.ntmps6
  go_upto_region 6 with (first
    | (go_at_call 10; refine (awake_any _).mono ?_; rintro e1 w1 ⟨rfl, B1⟩; have K1 := Lib.hid (Kp.nil B1); clear B1)
    | (go_at_call 21; with_reducible refine (row_eq a0 u m za _ HM.out HA.out hu).mono ?_; rintro e2 w2 ⟨rfl, B2⟩; have K2 := Lib.hid (K1.out.step B2); clear B2 K1)
    | (go_at_call 21; with_reducible refine (row_eq a0 v m zb _ HM.out HB.out hv).mono ?_; rintro e3 w3 ⟨rfl, B3⟩; have h := ((K2.out.step B3).new m za).new m zb; have hg : (w3.alloc (.cells (rc m za) 26)).heap.size = w3.heap.size + 1 := by simp
       rw [hg] at h
       obtain ⟨c0, c1, _, _⟩ := (h.mem (g := w3.heap.size) (n := m) (b := za) (by simp)).c2
       obtain ⟨d0, d1, _, _⟩ := (h.mem (g := w3.heap.size + 1) (n := m) (b := zb) (by simp)).c2
       have K3 := Lib.hid h; clear B3 K2 h hg)
    | (go_at_call 16; with_reducible refine (or_eq m za zb _ ha hb).mono ?_; rw [HX.out]; rintro e4 w4 ⟨rfl, B4⟩; have h := (K3.out.step B4).new m x
       clear c0 c1 d0 d1
       obtain ⟨c0, c1, _, _⟩ := (h.mem (g := w3.heap.size) (n := m) (b := za) (by simp)).c2
       obtain ⟨d0, d1, _, _⟩ := (h.mem (g := w3.heap.size + 1) (n := m) (b := zb) (by simp)).c2
       have K4 := Lib.hid h; clear B4 K3 h)
    | (go_at_call 16; with_reducible refine (or_eq m zb za _ hb ha).mono ?_; rw [HX2.out]; rintro e5 w5 ⟨rfl, B5⟩; have h := (K4.out.step B5).new m x
       clear c0 c1 d0 d1
       have K5 := Lib.hid h; clear B5 K4 h))
  generalize w5.alloc (.cells (rc m x) 26) = W at *
  generalize w3.heap.size + 1 = gs at *
  generalize w3.heap.size = gr at *
  generalize w4.heap.size = gx at *
  generalize w5.heap.size = gy at *
  have HSa : Hid (W.cell? ⟨gx, 0, none⟩ = some (.int .i64 m) ∧ W.cell? ⟨gx, 1, none⟩ = some (.int .u64 x) ∧ W.cell? ⟨gy, 0, none⟩ = some (.int .i64 m) ∧ W.cell? ⟨gy, 1, none⟩ = some (.int .u64 x)) := Lib.hid ⟨Kp.c0 K5.out (g := gx) (n := m) (b := x) (by simp), Kp.c1 K5.out (g := gx) (n := m) (b := x) (by simp), Kp.c0 K5.out (g := gy) (n := m) (b := x) (by simp), Kp.c1 K5.out (g := gy) (n := m) (b := x) (by simp)⟩
  go_region_held3 (fun w' => w'.cell? ⟨gx, 0, none⟩ = some (.int .i64 m) ∧ w'.cell? ⟨gx, 1, none⟩ = some (.int .u64 x) ∧ w'.cell? ⟨gy, 0, none⟩ = some (.int .i64 m) ∧ w'.cell? ⟨gy, 1, none⟩ = some (.int .u64 x))
    (first | exact HSa.out | exact Sa1.out | exact Sa2.out | exact Sa3.out | exact Sa4.out | exact Sa5.out)
    (first
    | (go_at_call 22; with_reducible refine (text_eq m x s _ HT.out hm hx).mono ?_; rintro e wa1 ⟨rfl, B⟩; have h := K5.out.drew.step B; have Sa1 : Hid (wa1.cell? ⟨gx, 0, none⟩ = some (.int .i64 m) ∧ wa1.cell? ⟨gx, 1, none⟩ = some (.int .u64 x) ∧ wa1.cell? ⟨gy, 0, none⟩ = some (.int .i64 m) ∧ wa1.cell? ⟨gy, 1, none⟩ = some (.int .u64 x)) := Lib.hid ⟨Kp.c0 h (g := gx) (n := m) (b := x) (by simp), Kp.c1 h (g := gx) (n := m) (b := x) (by simp), Kp.c0 h (g := gy) (n := m) (b := x) (by simp), Kp.c1 h (g := gy) (n := m) (b := x) (by simp)⟩; have Ka1 := Lib.hid h; clear B h K5)
    | (go_at_call 22; with_reducible refine (text_eq m x s _ HT.out hm hx).mono ?_; rintro e wa2 ⟨rfl, B⟩; have h := Ka1.out.step B; have Sa2 : Hid (wa2.cell? ⟨gx, 0, none⟩ = some (.int .i64 m) ∧ wa2.cell? ⟨gx, 1, none⟩ = some (.int .u64 x) ∧ wa2.cell? ⟨gy, 0, none⟩ = some (.int .i64 m) ∧ wa2.cell? ⟨gy, 1, none⟩ = some (.int .u64 x)) := Lib.hid ⟨Kp.c0 h (g := gx) (n := m) (b := x) (by simp), Kp.c1 h (g := gx) (n := m) (b := x) (by simp), Kp.c0 h (g := gy) (n := m) (b := x) (by simp), Kp.c1 h (g := gy) (n := m) (b := x) (by simp)⟩; have Ka2 := Lib.hid h; clear B h Ka1)
    | (go_at_call 22; with_reducible refine (text_eq m x s _ HT.out hm hx).mono ?_; rintro e wa3 ⟨rfl, B⟩; have h := Ka2.out.step B; have Sa3 : Hid (wa3.cell? ⟨gx, 0, none⟩ = some (.int .i64 m) ∧ wa3.cell? ⟨gx, 1, none⟩ = some (.int .u64 x) ∧ wa3.cell? ⟨gy, 0, none⟩ = some (.int .i64 m) ∧ wa3.cell? ⟨gy, 1, none⟩ = some (.int .u64 x)) := Lib.hid ⟨Kp.c0 h (g := gx) (n := m) (b := x) (by simp), Kp.c1 h (g := gx) (n := m) (b := x) (by simp), Kp.c0 h (g := gy) (n := m) (b := x) (by simp), Kp.c1 h (g := gy) (n := m) (b := x) (by simp)⟩; have Ka3 := Lib.hid h; clear B h Ka2)
    | (go_at_call 21; with_reducible refine (row_eq a0 q m x _ HM.out HQM.out hq).mono ?_; rintro e wa4 ⟨rfl, B⟩; have h := Ka3.out.step B; have Sa4 : Hid (wa4.cell? ⟨gx, 0, none⟩ = some (.int .i64 m) ∧ wa4.cell? ⟨gx, 1, none⟩ = some (.int .u64 x) ∧ wa4.cell? ⟨gy, 0, none⟩ = some (.int .i64 m) ∧ wa4.cell? ⟨gy, 1, none⟩ = some (.int .u64 x)) := Lib.hid ⟨Kp.c0 h (g := gx) (n := m) (b := x) (by simp), Kp.c1 h (g := gx) (n := m) (b := x) (by simp), Kp.c0 h (g := gy) (n := m) (b := x) (by simp), Kp.c1 h (g := gy) (n := m) (b := x) (by simp)⟩; have Ka4 := Lib.hid h; clear B h Ka3)
    | (go_at_call 22; with_reducible refine (text_eq m x s _ HT.out hm hx).mono ?_; rintro e wa5 ⟨rfl, B⟩; have h := Ka4.out.step B; have Sa5 : Hid (wa5.cell? ⟨gx, 0, none⟩ = some (.int .i64 m) ∧ wa5.cell? ⟨gx, 1, none⟩ = some (.int .u64 x) ∧ wa5.cell? ⟨gy, 0, none⟩ = some (.int .i64 m) ∧ wa5.cell? ⟨gy, 1, none⟩ = some (.int .u64 x)) := Lib.hid ⟨Kp.c0 h (g := gx) (n := m) (b := x) (by simp), Kp.c1 h (g := gx) (n := m) (b := x) (by simp), Kp.c0 h (g := gy) (n := m) (b := x) (by simp), Kp.c1 h (g := gy) (n := m) (b := x) (by simp)⟩; have Ka5 := Lib.hid h; clear B h Ka4))
  have KB := Lib.hid Ka5.out
  clear Ka5 HSa Sa1 Sa2 Sa3 Sa4 Sa5
  generalize wa5 = W1 at *
  go_wp2
  go_loopw [13] (fun i wr => ∃ (k : Nat), i = .int .i64 ((k : Int) - 1) ∧ k ≤ 66 ∧ Kp w wr [(gy, m, x), (gx, m, x), (gs, m, zb), (gr, m, za)]) (fun i _ => 66 - (intOf i + 1).toNat)
  case atStart => exact ⟨0, rfl, by omega, KB.out⟩
  case round =>
    obtain ⟨k, rfl, hk, hkp⟩ := hrel
    clear KB
    have K0 := Lib.hid hkp
    clear hkp
    by_cases hlt : k < 66
    · have hle : decide ((k : Int) - 1 ≤ 64) = true := by simp; omega
      have HSM := Lib.hid (show wrap64 ((k : Int) - 1 + 1) = ((k + 1 : Nat) : Int) - 1 by unfold wrap64; omega)
      have HI := HH.out ((k : Int) - 1)
      obtain ⟨j, hj⟩ : ∃ j : Int, j = (k : Int) - 1 := ⟨_, rfl⟩
      rw [← hj] at hle HI HSM
      rw [← hj]
      have HJ := Lib.hid hj
      clear hj
      cases hr : has m za j with
      | true =>
        have HR := Lib.hid hr
        have HX1 := Lib.hid (show has m x j = true by rw [HI, hr]; rfl)
        clear HI hr
        go_wp2
        have cbx00 := Kp.c0 K0.out (g := gx) (n := m) (b := x) (by simp)
        have cbx01 := Kp.c1 K0.out (g := gx) (n := m) (b := x) (by simp)
        have cbx10 := Kp.c0 K0.out (g := gr) (n := m) (b := za) (by simp)
        have cbx11 := Kp.c1 K0.out (g := gr) (n := m) (b := za) (by simp)
        first
        | (go_region_with (first
             | (go_at_call 26; with_reducible refine (has_eq m x j true _ HX1.out hm hx).mono ?_; rintro e wb1 ⟨rfl, B⟩; have h := K0.out.drew.step B; have cb100 := Kp.c0 h (g := gx) (n := m) (b := x) (by simp); have cb101 := Kp.c1 h (g := gx) (n := m) (b := x) (by simp); have cb110 := Kp.c0 h (g := gr) (n := m) (b := za) (by simp); have cb111 := Kp.c1 h (g := gr) (n := m) (b := za) (by simp); have Kb1 := Lib.hid h; clear B h K0)
             | (go_at_call 26; with_reducible refine (has_eq m za j true _ HR.out hm ha).mono ?_; rintro e wb2 ⟨rfl, B⟩; have h := Kb1.out.step B; have cb200 := Kp.c0 h (g := gx) (n := m) (b := x) (by simp); have cb201 := Kp.c1 h (g := gx) (n := m) (b := x) (by simp); have cb210 := Kp.c0 h (g := gr) (n := m) (b := za) (by simp); have cb211 := Kp.c1 h (g := gr) (n := m) (b := za) (by simp); have Kb2 := Lib.hid h; clear B h Kb1)))
        | fail
        all_goals
          go_wp2
          rw [HSM.out]
          go_roundw
          case rel => exact ⟨k + 1, rfl, by omega, Kb2.out⟩
          case measure => simp [intOf, HJ.out]; omega
      | false =>
        have HR := Lib.hid hr
        cases hs : has m zb j with
        | true =>
          have HS := Lib.hid hs
          have HX1 := Lib.hid (show has m x j = true by rw [HI, hr, hs]; rfl)
          clear HI hr hs
          go_wp2
          have HSb : Hid (wr.cell? ⟨gx, 0, none⟩ = some (.int .i64 m) ∧ wr.cell? ⟨gx, 1, none⟩ = some (.int .u64 x) ∧ wr.cell? ⟨gr, 0, none⟩ = some (.int .i64 m) ∧ wr.cell? ⟨gr, 1, none⟩ = some (.int .u64 za) ∧ wr.cell? ⟨gs, 0, none⟩ = some (.int .i64 m) ∧ wr.cell? ⟨gs, 1, none⟩ = some (.int .u64 zb)) := Lib.hid ⟨Kp.c0 K0.out (g := gx) (n := m) (b := x) (by simp), Kp.c1 K0.out (g := gx) (n := m) (b := x) (by simp), Kp.c0 K0.out (g := gr) (n := m) (b := za) (by simp), Kp.c1 K0.out (g := gr) (n := m) (b := za) (by simp), Kp.c0 K0.out (g := gs) (n := m) (b := zb) (by simp), Kp.c1 K0.out (g := gs) (n := m) (b := zb) (by simp)⟩
          first
          | (
             go_region_held3 (fun w' => w'.cell? ⟨gx, 0, none⟩ = some (.int .i64 m) ∧ w'.cell? ⟨gx, 1, none⟩ = some (.int .u64 x) ∧ w'.cell? ⟨gr, 0, none⟩ = some (.int .i64 m) ∧ w'.cell? ⟨gr, 1, none⟩ = some (.int .u64 za) ∧ w'.cell? ⟨gs, 0, none⟩ = some (.int .i64 m) ∧ w'.cell? ⟨gs, 1, none⟩ = some (.int .u64 zb))
               (first | exact HSb.out | exact Sb1.out | exact Sb2.out | exact Sb3.out)
               (first
               | (go_at_call 26; with_reducible refine (has_eq m x j true _ HX1.out hm hx).mono ?_; rintro e wb1 ⟨rfl, B⟩; have h := K0.out.drew.step B; have Sb1 : Hid (wb1.cell? ⟨gx, 0, none⟩ = some (.int .i64 m) ∧ wb1.cell? ⟨gx, 1, none⟩ = some (.int .u64 x) ∧ wb1.cell? ⟨gr, 0, none⟩ = some (.int .i64 m) ∧ wb1.cell? ⟨gr, 1, none⟩ = some (.int .u64 za) ∧ wb1.cell? ⟨gs, 0, none⟩ = some (.int .i64 m) ∧ wb1.cell? ⟨gs, 1, none⟩ = some (.int .u64 zb)) := Lib.hid ⟨Kp.c0 h (g := gx) (n := m) (b := x) (by simp), Kp.c1 h (g := gx) (n := m) (b := x) (by simp), Kp.c0 h (g := gr) (n := m) (b := za) (by simp), Kp.c1 h (g := gr) (n := m) (b := za) (by simp), Kp.c0 h (g := gs) (n := m) (b := zb) (by simp), Kp.c1 h (g := gs) (n := m) (b := zb) (by simp)⟩; have Kb1 := Lib.hid h; clear B h K0)
               | (go_at_call 26; with_reducible refine (has_eq m za j false _ HR.out hm ha).mono ?_; rintro e wb2 ⟨rfl, B⟩; have h := Kb1.out.step B; have Sb2 : Hid (wb2.cell? ⟨gx, 0, none⟩ = some (.int .i64 m) ∧ wb2.cell? ⟨gx, 1, none⟩ = some (.int .u64 x) ∧ wb2.cell? ⟨gr, 0, none⟩ = some (.int .i64 m) ∧ wb2.cell? ⟨gr, 1, none⟩ = some (.int .u64 za) ∧ wb2.cell? ⟨gs, 0, none⟩ = some (.int .i64 m) ∧ wb2.cell? ⟨gs, 1, none⟩ = some (.int .u64 zb)) := Lib.hid ⟨Kp.c0 h (g := gx) (n := m) (b := x) (by simp), Kp.c1 h (g := gx) (n := m) (b := x) (by simp), Kp.c0 h (g := gr) (n := m) (b := za) (by simp), Kp.c1 h (g := gr) (n := m) (b := za) (by simp), Kp.c0 h (g := gs) (n := m) (b := zb) (by simp), Kp.c1 h (g := gs) (n := m) (b := zb) (by simp)⟩; have Kb2 := Lib.hid h; clear B h Kb1)
               | (go_at_call 26; with_reducible refine (has_eq m zb j true _ HS.out hm hb).mono ?_; rintro e wb3 ⟨rfl, B⟩; have h := Kb2.out.step B; have Sb3 : Hid (wb3.cell? ⟨gx, 0, none⟩ = some (.int .i64 m) ∧ wb3.cell? ⟨gx, 1, none⟩ = some (.int .u64 x) ∧ wb3.cell? ⟨gr, 0, none⟩ = some (.int .i64 m) ∧ wb3.cell? ⟨gr, 1, none⟩ = some (.int .u64 za) ∧ wb3.cell? ⟨gs, 0, none⟩ = some (.int .i64 m) ∧ wb3.cell? ⟨gs, 1, none⟩ = some (.int .u64 zb)) := Lib.hid ⟨Kp.c0 h (g := gx) (n := m) (b := x) (by simp), Kp.c1 h (g := gx) (n := m) (b := x) (by simp), Kp.c0 h (g := gr) (n := m) (b := za) (by simp), Kp.c1 h (g := gr) (n := m) (b := za) (by simp), Kp.c0 h (g := gs) (n := m) (b := zb) (by simp), Kp.c1 h (g := gs) (n := m) (b := zb) (by simp)⟩; have Kb3 := Lib.hid h; clear B h Kb2)))
          | fail
          all_goals
            go_wp2
            rw [HSM.out]
            go_roundw
            case rel => exact ⟨k + 1, rfl, by omega, Kb3.out⟩
            case measure => simp [intOf, HJ.out]; omega
        | false =>
          have HS := Lib.hid hs
          have HX1 := Lib.hid (show has m x j = false by rw [HI, hr, hs]; rfl)
          clear HI hr hs
          go_wp2
          have HSb : Hid (wr.cell? ⟨gx, 0, none⟩ = some (.int .i64 m) ∧ wr.cell? ⟨gx, 1, none⟩ = some (.int .u64 x) ∧ wr.cell? ⟨gr, 0, none⟩ = some (.int .i64 m) ∧ wr.cell? ⟨gr, 1, none⟩ = some (.int .u64 za) ∧ wr.cell? ⟨gs, 0, none⟩ = some (.int .i64 m) ∧ wr.cell? ⟨gs, 1, none⟩ = some (.int .u64 zb)) := Lib.hid ⟨Kp.c0 K0.out (g := gx) (n := m) (b := x) (by simp), Kp.c1 K0.out (g := gx) (n := m) (b := x) (by simp), Kp.c0 K0.out (g := gr) (n := m) (b := za) (by simp), Kp.c1 K0.out (g := gr) (n := m) (b := za) (by simp), Kp.c0 K0.out (g := gs) (n := m) (b := zb) (by simp), Kp.c1 K0.out (g := gs) (n := m) (b := zb) (by simp)⟩
          first
          | (
             go_region_held3 (fun w' => w'.cell? ⟨gx, 0, none⟩ = some (.int .i64 m) ∧ w'.cell? ⟨gx, 1, none⟩ = some (.int .u64 x) ∧ w'.cell? ⟨gr, 0, none⟩ = some (.int .i64 m) ∧ w'.cell? ⟨gr, 1, none⟩ = some (.int .u64 za) ∧ w'.cell? ⟨gs, 0, none⟩ = some (.int .i64 m) ∧ w'.cell? ⟨gs, 1, none⟩ = some (.int .u64 zb))
               (first | exact HSb.out | exact Sb1.out | exact Sb2.out | exact Sb3.out)
               (first
               | (go_at_call 26; with_reducible refine (has_eq m x j false _ HX1.out hm hx).mono ?_; rintro e wb1 ⟨rfl, B⟩; have h := K0.out.drew.step B; have Sb1 : Hid (wb1.cell? ⟨gx, 0, none⟩ = some (.int .i64 m) ∧ wb1.cell? ⟨gx, 1, none⟩ = some (.int .u64 x) ∧ wb1.cell? ⟨gr, 0, none⟩ = some (.int .i64 m) ∧ wb1.cell? ⟨gr, 1, none⟩ = some (.int .u64 za) ∧ wb1.cell? ⟨gs, 0, none⟩ = some (.int .i64 m) ∧ wb1.cell? ⟨gs, 1, none⟩ = some (.int .u64 zb)) := Lib.hid ⟨Kp.c0 h (g := gx) (n := m) (b := x) (by simp), Kp.c1 h (g := gx) (n := m) (b := x) (by simp), Kp.c0 h (g := gr) (n := m) (b := za) (by simp), Kp.c1 h (g := gr) (n := m) (b := za) (by simp), Kp.c0 h (g := gs) (n := m) (b := zb) (by simp), Kp.c1 h (g := gs) (n := m) (b := zb) (by simp)⟩; have Kb1 := Lib.hid h; clear B h K0)
               | (go_at_call 26; with_reducible refine (has_eq m za j false _ HR.out hm ha).mono ?_; rintro e wb2 ⟨rfl, B⟩; have h := Kb1.out.step B; have Sb2 : Hid (wb2.cell? ⟨gx, 0, none⟩ = some (.int .i64 m) ∧ wb2.cell? ⟨gx, 1, none⟩ = some (.int .u64 x) ∧ wb2.cell? ⟨gr, 0, none⟩ = some (.int .i64 m) ∧ wb2.cell? ⟨gr, 1, none⟩ = some (.int .u64 za) ∧ wb2.cell? ⟨gs, 0, none⟩ = some (.int .i64 m) ∧ wb2.cell? ⟨gs, 1, none⟩ = some (.int .u64 zb)) := Lib.hid ⟨Kp.c0 h (g := gx) (n := m) (b := x) (by simp), Kp.c1 h (g := gx) (n := m) (b := x) (by simp), Kp.c0 h (g := gr) (n := m) (b := za) (by simp), Kp.c1 h (g := gr) (n := m) (b := za) (by simp), Kp.c0 h (g := gs) (n := m) (b := zb) (by simp), Kp.c1 h (g := gs) (n := m) (b := zb) (by simp)⟩; have Kb2 := Lib.hid h; clear B h Kb1)
               | (go_at_call 26; with_reducible refine (has_eq m zb j false _ HS.out hm hb).mono ?_; rintro e wb3 ⟨rfl, B⟩; have h := Kb2.out.step B; have Sb3 : Hid (wb3.cell? ⟨gx, 0, none⟩ = some (.int .i64 m) ∧ wb3.cell? ⟨gx, 1, none⟩ = some (.int .u64 x) ∧ wb3.cell? ⟨gr, 0, none⟩ = some (.int .i64 m) ∧ wb3.cell? ⟨gr, 1, none⟩ = some (.int .u64 za) ∧ wb3.cell? ⟨gs, 0, none⟩ = some (.int .i64 m) ∧ wb3.cell? ⟨gs, 1, none⟩ = some (.int .u64 zb)) := Lib.hid ⟨Kp.c0 h (g := gx) (n := m) (b := x) (by simp), Kp.c1 h (g := gx) (n := m) (b := x) (by simp), Kp.c0 h (g := gr) (n := m) (b := za) (by simp), Kp.c1 h (g := gr) (n := m) (b := za) (by simp), Kp.c0 h (g := gs) (n := m) (b := zb) (by simp), Kp.c1 h (g := gs) (n := m) (b := zb) (by simp)⟩; have Kb3 := Lib.hid h; clear B h Kb2)))
          | fail
          all_goals
            go_wp2
            rw [HSM.out]
            go_roundw
            case rel => exact ⟨k + 1, rfl, by omega, Kb3.out⟩
            case measure => simp [intOf, HJ.out]; omega
    · have hle : decide ((k : Int) - 1 ≤ 64) = false := by simp; omega
      have c0 := Kp.c0 K0.out (g := gx) (n := m) (b := x) (by simp)
      have c1 := Kp.c1 K0.out (g := gx) (n := m) (b := x) (by simp)
      have d0 := Kp.c0 K0.out (g := gr) (n := m) (b := za) (by simp)
      have d1 := Kp.c1 K0.out (g := gr) (n := m) (b := za) (by simp)
      go_upto_region 14 with (first
        | (go_at_call 16; with_reducible refine (or_eq m x za _ hx ha).mono ?_; rw [HX3.out]; rintro e6 w6 ⟨rfl, B6⟩; have h := (K0.out.step B6).new m x
           clear c0 c1 d0 d1
           have K6 := Lib.hid h; clear B6 K0 h))
      generalize w6.alloc (.cells (rc m x) 26) = V at *
      generalize w6.heap.size = gz at *
      have HSd : Hid (V.cell? ⟨gz, 0, none⟩ = some (.int .i64 m) ∧ V.cell? ⟨gz, 1, none⟩ = some (.int .u64 x) ∧ V.cell? ⟨gx, 0, none⟩ = some (.int .i64 m) ∧ V.cell? ⟨gx, 1, none⟩ = some (.int .u64 x)) := Lib.hid ⟨Kp.c0 K6.out (g := gz) (n := m) (b := x) (by simp), Kp.c1 K6.out (g := gz) (n := m) (b := x) (by simp), Kp.c0 K6.out (g := gx) (n := m) (b := x) (by simp), Kp.c1 K6.out (g := gx) (n := m) (b := x) (by simp)⟩
      first
      | (
         go_region_held3 (fun w' => w'.cell? ⟨gz, 0, none⟩ = some (.int .i64 m) ∧ w'.cell? ⟨gz, 1, none⟩ = some (.int .u64 x) ∧ w'.cell? ⟨gx, 0, none⟩ = some (.int .i64 m) ∧ w'.cell? ⟨gx, 1, none⟩ = some (.int .u64 x))
           (first | exact HSd.out | exact Sd1.out | exact Sd2.out)
           (first
           | (go_at_call 22; with_reducible refine (text_eq m x s _ HT.out hm hx).mono ?_; rintro e wd1 ⟨rfl, B⟩; have h := K6.out.drew.step B; have Sd1 : Hid (wd1.cell? ⟨gz, 0, none⟩ = some (.int .i64 m) ∧ wd1.cell? ⟨gz, 1, none⟩ = some (.int .u64 x) ∧ wd1.cell? ⟨gx, 0, none⟩ = some (.int .i64 m) ∧ wd1.cell? ⟨gx, 1, none⟩ = some (.int .u64 x)) := Lib.hid ⟨Kp.c0 h (g := gz) (n := m) (b := x) (by simp), Kp.c1 h (g := gz) (n := m) (b := x) (by simp), Kp.c0 h (g := gx) (n := m) (b := x) (by simp), Kp.c1 h (g := gx) (n := m) (b := x) (by simp)⟩; have Kd1 := Lib.hid h; clear B h K6)
           | (go_at_call 22; with_reducible refine (text_eq m x s _ HT.out hm hx).mono ?_; rintro e wd2 ⟨rfl, B⟩; have h := Kd1.out.step B; have Sd2 : Hid (wd2.cell? ⟨gz, 0, none⟩ = some (.int .i64 m) ∧ wd2.cell? ⟨gz, 1, none⟩ = some (.int .u64 x) ∧ wd2.cell? ⟨gx, 0, none⟩ = some (.int .i64 m) ∧ wd2.cell? ⟨gx, 1, none⟩ = some (.int .u64 x)) := Lib.hid ⟨Kp.c0 h (g := gz) (n := m) (b := x) (by simp), Kp.c1 h (g := gz) (n := m) (b := x) (by simp), Kp.c0 h (g := gx) (n := m) (b := x) (by simp), Kp.c1 h (g := gx) (n := m) (b := x) (by simp)⟩; have Kd2 := Lib.hid h; clear B h Kd1)))
      | fail
      all_goals
        go_wp2
        go_ret
        exact ⟨rfl, Kd2.out.bel⟩
end Go.Proofs.Ytlgmomjofhbggaa
