/- The walk of BitsNext. No condition but the row's own. -/
import Derived.Test.YtlgmomjofhbggaaBitL2
set_option linter.unusedVariables false
set_option linter.unusedSimpArgs false
namespace Go.Proofs.Ytlgmomjofhbggaa
open Go.RowKit

theorem all_next {m z a k : Nat} (h : next m z (a : Int) = some k) : all (k + 1) z = all a z ++ [k] := by
  obtain ⟨hk, ha, hb, hn⟩ := next_spec h
  rw [all_succ, if_pos hb]
  congr 1
  have key : ∀ d, a + d ≤ k → all (a + d) z = all a z := by
    intro d
    induction d with
    | zero => intro _; rfl
    | succ d ih =>
      intro hd
      rw [← Nat.add_assoc, all_succ, if_neg (by rw [hn (a + d) (by omega) (by omega)]; decide), List.append_nil]
      exact ih (by omega)
  have := key (k - a) (by omega)
  rwa [show a + (k - a) = k by omega] at this
theorem all_end {m z a : Nat} (ha : a ≤ m) (h : next m z (a : Int) = none) : all m z = all a z := by
  have hn := next_nothing h
  have key : ∀ d, a + d ≤ m → all (a + d) z = all a z := by
    intro d
    induction d with
    | zero => intro _; rfl
    | succ d ih =>
      intro hd
      rw [← Nat.add_assoc, all_succ, if_neg (by rw [hn (a + d) (by omega) (by omega)]; decide), List.append_nil]
      exact ih (by omega)
  have := key (m - a) (by omega)
  rwa [show a + (m - a) = m by omega] at this
theorem Kp.grown {w W W' : World} {bs : List (Nat × Nat × Nat)} {B n sz : Nat} {e : TypeId} {v : Value} {xs : List Value} (h : Kp w W bs) (ho : W.ownsRow B e sz v n xs) (hg : W.grownBy W' v.ownBlock) (hb : ∀ p ∈ bs, p.1 < B) (hw : w.heap.size ≤ B) : Kp w W' bs :=
  ⟨Below.grown h.1 hg h.1.size (fun q hq => by have := (ho.lt q hq).1; omega), fun p hp => (hg.block p.1 (h.2 p hp).lt (fun he => by have h1 := (ho.lt p.1 he.symm).1; have h2 := hb p hp; omega)).trans (h.2 p hp)⟩
theorem Kp.more {w W : World} {bs : List (Nat × Nat × Nat)} (h : Kp w W bs) (o : Obj) : Kp w (W.alloc o) bs := ⟨h.1.alloc h.1.size _, fun p hp => (h.2 p hp).alloc _⟩
theorem has_put_of {m z i : Nat} (hi : i < m) (k : Nat) (hk : k < m) : has m (put z i) (k : Int) = (has m z (k : Int) || decide (k = i)) := by
  rw [has_nat, has_nat, testBit_put]
  simp [hk, eq_comm]
theorem has_del_of {m z i : Nat} (hi : i < m) (k : Nat) (hk : k < m) : has m (del z i) (k : Int) = (has m z (k : Int) && !decide (k = i)) := by
  rw [has_nat, has_nat, testBit_del]
  simp [hk, eq_comm]

theorem region_take {P : Program} {ops : Array Oper} {Q : Exit → Act → World → Prop} {md : Region.Mode} {S : World → Prop} {i d : Nat} {oi : Oper} {v : Value} {fuel : Nat} {listed : Array Bool} {ts : Array Value} {ds : List Deferred} {w : World} (hi : ops[i]? = some oi) (hd : oi.dst = some d)
    (hs : Region.noSelect ops = true) (hf : Region.free md ops listed i = true) (hr : (Region.ready md ops listed).contains i = true)
    (hQ : ∀ c a w, Q (.panic c) (a.put oi.dst v) w → Q (.panic c) a w) (hy : YieldsIf P ops S oi v ⟨ts, ds⟩) (hS : S w)
    (h : wpAnyH P md ops Q S fuel (listed.setIfInBounds i true) ⟨ts.setIfInBounds d v, ds⟩ w) : wpAnyH P md ops Q S (fuel + 1) listed ⟨ts, ds⟩ w :=
  wpAnyH_take hi hs hf hr hQ hy hS (by rw [hd]; exact h)

structure NxRel (w wr : World) (g m z B : Nat) (lv i : Value) (a : Nat) : Prop where
  ha : a ≤ m
  hi : i = .int .i64 a
  kp : Kp w wr [(g, m, z)]
  own : wr.ownsRow B 3 1 lv (all a z).length (ivals (all a z))

set_option maxRecDepth 100000 in
set_option maxHeartbeats 4000000 in
theorem w_BitsNext (a0 : Int) (a1 : Int) (a2 : Int) (w : World) (b0 : -9223372036854775808 ≤ a0 ∧ a0 ≤ 9223372036854775807) (b1 : 0 ≤ a1 ∧ a1 ≤ 18446744073709551615) (b2 : -9223372036854775808 ≤ a2 ∧ a2 ≤ 9223372036854775807) :
    Calls Try.prog 7 #[.int .i64 a0, .int .u64 a1, .int .i64 a2] w fun e w' => e = .returned (.bool true) ∧ Below w.heap.size w w' := by
  obtain ⟨u, rfl⟩ := Int.eq_ofNat_of_zero_le b1.1
  have hu : u < 18446744073709551616 := by omega
  obtain ⟨m, hM⟩ : ∃ m, newOf a0 = m := ⟨_, rfl⟩
  obtain ⟨z, hZ⟩ : ∃ z, u % 2 ^ m = z := ⟨_, rfl⟩
  have hm : m ≤ 64 := hM ▸ newOf_le a0
  have hz : z < 18446744073709551616 := by rw [← hZ]; exact Nat.lt_of_le_of_lt (Nat.mod_le _ _) hu
  have HM := Lib.hid hM; have HZ := Lib.hid hZ
  clear hM hZ
  go_enter Try.func7, Try.ntmps7
  go_upto_region 6 with (first
    | (go_at_call 10; refine (awake_any _).mono ?_; rintro e1 w1 ⟨rfl, B1⟩; have K1 := Lib.hid (Kp.nil B1); clear B1)
    | (go_at_call 21; with_reducible refine (row_eq a0 u m z _ HM.out HZ.out hu).mono ?_; rintro e2 w2 ⟨rfl, B2⟩; have K2 := Lib.hid ((K1.out.step B2).new m z); have hw2 := (K1.out.step B2).bel.size; clear B2 K1))
  have R0 := Lib.hid (show NxRel w ((w2.alloc (.cells (rc m z) 26)).alloc (.cells #[] 3)) w2.heap.size m z (w2.heap.size + 1) (.slice (some ⟨w2.heap.size + 1, 0, none⟩) 0 0) (.int .i64 0) 0 from
    ⟨by omega, rfl, ⟨K2.out.1.alloc K2.out.1.size _, fun p hp => (K2.out.2 p hp).alloc _⟩, own_zero (Blk.new' (by simp) _ _) (Nat.le_refl _)⟩)
  generalize (w2.alloc (.cells (rc m z) 26)).alloc (.cells #[] 3) = w0 at *
  clear K2
  generalize w2.heap.size = g at *
  go_loopw [8, 9] (fun lv i wr => ∃ (a : Nat), NxRel w wr g m z (g + 1) lv i a) (fun _ i _ => 65 - (intOf i).toNat)
  case atStart => exact ⟨0, R0.out⟩
  case round =>
    obtain ⟨a, ha, rfl, hkp, hown⟩ := hrel
    clear R0
    have HAL := all_len a z
    obtain ⟨A, c, rfl, hlc, hrd⟩ := own_rd hown
    have K0 := Lib.hid hkp
    have HO := Lib.hid hown
    have HR := Lib.hid hrd
    clear hkp hown hrd hlc
    have kl : decide (((all a z).length : Int) ≤ 64) = true := by simp; omega
    have c0 := Kp.c0 K0.out (g := g) (n := m) (b := z) (by simp)
    have c1 := Kp.c1 K0.out (g := g) (n := m) (b := z) (by simp)
    cases hnx : next m z (a : Int) with
    | some k =>
      have HN := Lib.hid (show nextV (next m z (a : Int)) = .tuple #[.int .i64 k, .bool true] by rw [hnx]; rfl)
      obtain ⟨hk, hak, _, _⟩ := next_spec hnx
      have HS := Lib.hid (all_next hnx)
      clear hnx
      have hsum : IntKind.i64.wrap ((k : Int) + 1) = (k : Int) + 1 := IntWalk.i64_in _ (by omega)
      go_wp2_with (first
        | (go_at_call 27; with_reducible refine (nextV_any m z a _ _ HN.out hm hz (by omega)).mono ?_; rintro e3 w3 ⟨rfl, B3⟩; have K3 := Lib.hid (K0.out.step B3); have HO3 := Lib.hid (own_below HO.out B3); clear B3)
        | (at_builtin
           refine app1 (g + 1) 49 3 (.int .i64 0) 1 8 [.int .i64 k] HO3.out (by have := (K3.out.mem (g := g) (n := m) (b := z) (by simp)).lt; omega) (by omega) Try.underlying49 infoInt rfl (by decide) (by decide) rfl (one1 _ _) (.tmp 34) (.tmp 36) rfl rfl rfl rfl ?_
           intro v1 x1 hown1 hg1 _
           have K4 := Lib.hid (K3.out.grown HO3.out hg1 (by simp) (by omega))
           have HO4 := Lib.hid hown1
           clear hg1 hown1))
      go_roundw
      case rel =>
        refine ⟨k + 1, by omega, by push_cast; rfl, K4.out, ?_⟩
        have h := HO4.out
        rw [HS.out, List.length_append, ivals, List.map_append]
        exact h
      case measure => simp [intOf]; omega
    | none =>
      have HN := Lib.hid (show nextV (next m z (a : Int)) = .tuple #[.int .i64 0, .bool false] by rw [hnx]; rfl)
      have HS := Lib.hid (all_end ha hnx)
      clear hnx
      generalize hal : all a z = al at *
      clear hal
      have hsame : (((al.length : Nat) : Int) == (al.length : Int)) = true := by simp
      by_cases hin : inn m a2 = true
      · have hin' := hin
        simp only [inn, Bool.and_eq_true, decide_eq_true_eq] at hin'
        obtain ⟨i, rfl⟩ := Int.eq_ofNat_of_zero_le hin'.1
        have hi : i < m := by omega
        have k1 : decide ((i : Int) < (m : Int)) = true := by simp; omega
        clear hin'
        obtain ⟨zp, hzp⟩ : ∃ zp, put z i = zp := ⟨_, rfl⟩
        obtain ⟨zd, hzd⟩ : ∃ zd, del z i = zd := ⟨_, rfl⟩
        have hp : zp < 18446744073709551616 := by rw [← hzp]; exact put_lt hz (by omega)
        have hd : zd < 18446744073709551616 := by rw [← hzd]; exact del_lt hz (by omega)
        have HP := Lib.hid (show ∀ k, k < m → has m zp (k : Int) = (has m z (k : Int) || decide (k = i)) by rw [← hzp]; exact has_put_of hi)
        have HD := Lib.hid (show ∀ k, k < m → has m zd (k : Int) = (has m z (k : Int) && !decide (k = i)) by rw [← hzd]; exact has_del_of hi)
        have HZP := Lib.hid hzp; have HZD := Lib.hid hzd
        clear hzp hzd
        go_upto_region 14 with (first
          | (go_at_call 27; with_reducible refine (nextV_any m z a _ _ HN.out hm hz (by omega)).mono ?_; rintro e3 w3 ⟨rfl, B3⟩; have K3 := Lib.hid (K0.out.step B3); have HR3 := Lib.hid (HR.out.below B3); clear c0 c1; have c0 := Kp.c0 K3.out (g := g) (n := m) (b := z) (by simp); have c1 := Kp.c1 K3.out (g := g) (n := m) (b := z) (by simp); clear B3)
          | (go_at_call 13; with_reducible refine (put_in m z (i : Int) _ hin hm hz).mono ?_; simp only [Int.toNat_natCast, HZP.out]; rintro e4 w4 ⟨rfl, B4⟩; have h := (K3.out.step B4).new m zp; have HR4 := Lib.hid ((HR3.out.below B4).below ((Below.refl _ _).alloc (Nat.le_refl _) (.cells (rc m zp) 26))); clear c0 c1; have c0 := Kp.c0 h (g := g) (n := m) (b := z) (by simp); have c1 := Kp.c1 h (g := g) (n := m) (b := z) (by simp); have K4 := Lib.hid h; clear B4 h)
          | (go_at_call 15; with_reducible refine (del_in m z (i : Int) _ hin hm hz).mono ?_; simp only [Int.toNat_natCast, HZD.out]; rintro e5 w5 ⟨rfl, B5⟩; have h := (K4.out.step B5).new m zd; have HR5 := Lib.hid ((HR4.out.below B5).below ((Below.refl _ _).alloc (Nat.le_refl _) (.cells (rc m zd) 26))); clear c0 c1; have c0 := Kp.c0 h (g := g) (n := m) (b := z) (by simp); have c1 := Kp.c1 h (g := g) (n := m) (b := z) (by simp); have K5 := Lib.hid h; clear B5 h)
          | (go_at_call 25; with_reducible refine (blen_any m z _).mono ?_; rintro e6 w6 ⟨rfl, B6⟩; have h := K5.out.step B6; have HR6 := Lib.hid (HR5.out.below B6); have K6 := Lib.hid h; clear B6 h))
        have KL := Lib.hid (show Kp w6 w6 [(w5.heap.size, m, zd), (w4.heap.size, m, zp), (g, m, z)] from ⟨Below.refl _ _, K6.out.2⟩)
        have HB6 := Lib.hid K6.out.bel
        clear K6 HR5 HR4 HR3 K5 K4 K3 c0 c1 K0 HO HR
        generalize w5.heap.size = gd at *
        generalize w4.heap.size = gp at *
        go_loopw [16] (fun i wr => ∃ (k : Nat), i = .int .i64 (k : Int) ∧ k ≤ m ∧ Kp w6 wr [(gd, m, zd), (gp, m, zp), (g, m, z)]) (fun i _ => m - (intOf i).toNat)
        case atStart => exact ⟨0, rfl, by omega, KL.out⟩
        case round =>
          obtain ⟨k, rfl, hk, hkp⟩ := hrel
          clear KL
          have K0 := Lib.hid hkp
          clear hkp
          have c0 := Kp.c0 K0.out (g := g) (n := m) (b := z) (by simp)
          have c1 := Kp.c1 K0.out (g := g) (n := m) (b := z) (by simp)
          by_cases hlt : k < m
          · have hlt' : decide ((k : Int) < (m : Int)) = true := by simp; omega
            have HSM := Lib.hid (show wrap64 ((k : Int) + 1) = ((k + 1 : Nat) : Int) by unfold wrap64; omega)
            have HPK := HP.out k hlt
            have HDK := HD.out k hlt
            cases hr : has m z (k : Int) with
            | true =>
              by_cases hki : k = i
              · subst hki
                have q1 : ((k : Int) == (k : Int)) = true := by simp
                have q2 : ((k : Int) != (k : Int)) = false := by simp
                have HR := Lib.hid hr
                have HP1 := Lib.hid (show has m zp (k : Int) = true by rw [HPK, hr]; rfl)
                have HD1 := Lib.hid (show has m zd (k : Int) = false by rw [HDK, hr]; simp)
                clear HPK HDK hr
                go_wp2_with (go_at_call 25; with_reducible refine (blen_any m z _).mono ?_; rintro e7 w7 ⟨rfl, B7⟩; have K7 := Lib.hid (K0.out.step B7); clear B7 K0 c0 c1)
                have HSb : Hid (w7.cell? ⟨gp, 0, none⟩ = some (.int .i64 m) ∧ w7.cell? ⟨gp, 1, none⟩ = some (.int .u64 zp) ∧ w7.cell? ⟨g, 0, none⟩ = some (.int .i64 m) ∧ w7.cell? ⟨g, 1, none⟩ = some (.int .u64 z) ∧ w7.cell? ⟨gd, 0, none⟩ = some (.int .i64 m) ∧ w7.cell? ⟨gd, 1, none⟩ = some (.int .u64 zd)) := Lib.hid ⟨Kp.c0 K7.out (g := gp) (n := m) (b := zp) (by simp), Kp.c1 K7.out (g := gp) (n := m) (b := zp) (by simp), Kp.c0 K7.out (g := g) (n := m) (b := z) (by simp), Kp.c1 K7.out (g := g) (n := m) (b := z) (by simp), Kp.c0 K7.out (g := gd) (n := m) (b := zd) (by simp), Kp.c1 K7.out (g := gd) (n := m) (b := zd) (by simp)⟩
                refine wp_region_held_drew (S := fun w' => w'.cell? ⟨gp, 0, none⟩ = some (.int .i64 m) ∧ w'.cell? ⟨gp, 1, none⟩ = some (.int .u64 zp) ∧ w'.cell? ⟨g, 0, none⟩ = some (.int .i64 m) ∧ w'.cell? ⟨g, 1, none⟩ = some (.int .u64 z) ∧ w'.cell? ⟨gd, 0, none⟩ = some (.int .i64 m) ∧ w'.cell? ⟨gd, 1, none⟩ = some (.int .u64 zd)) (by kernel_rfl) HSb.out (fun hHeld => ?_)
                refine region_take (i := 0) (d := 78) (v := ?_) rfl rfl (by kernel_rfl) (by kernel_rfl) (by kernel_rfl) (fun _ _ _ h => h) (Or.inl ⟨by rfl, ?_⟩) (by assumption) ?_
                rotate_left
                · (intro w hSw; (try dsimp only at hSw); go_simp; first | done | with_reducible rfl)
                try simp only [List.setIfInBounds_toArray, List.set_cons_zero, List.set_cons_succ]
                refine region_take (i := 1) (d := 79) (v := ?_) rfl rfl (by kernel_rfl) (by kernel_rfl) (by kernel_rfl) (fun _ _ _ h => h) (Or.inl ⟨by rfl, ?_⟩) (by assumption) ?_
                rotate_left
                · (intro w hSw; (try dsimp only at hSw); go_simp; first | done | with_reducible rfl)
                try simp only [List.setIfInBounds_toArray, List.set_cons_zero, List.set_cons_succ]
                refine region_take (i := 3) (d := 81) (v := ?_) rfl rfl (by kernel_rfl) (by kernel_rfl) (by kernel_rfl) (fun _ _ _ h => h) (Or.inl ⟨by rfl, ?_⟩) (by assumption) ?_
                rotate_left
                · (intro w hSw; (try dsimp only at hSw); go_simp; first | done | with_reducible rfl)
                try simp only [List.setIfInBounds_toArray, List.set_cons_zero, List.set_cons_succ]
                refine region_take (i := 4) (d := 82) (v := ?_) rfl rfl (by kernel_rfl) (by kernel_rfl) (by kernel_rfl) (fun _ _ _ h => h) (Or.inl ⟨by rfl, ?_⟩) (by assumption) ?_
                rotate_left
                · (intro w hSw; (try dsimp only at hSw); go_simp; first | done | with_reducible rfl)
                try simp only [List.setIfInBounds_toArray, List.set_cons_zero, List.set_cons_succ]
                refine wpAnyH_ready (rs := [2]) (by kernel_rfl) (by simp) ?_
                refine AllReadyH.cons rfl (fun K hK => ?_) AllReadyH.nil
                go_simp
                go_wp2_with ((go_at_call 26; with_reducible refine (has_eq m zp (k : Int) true _ HP1.out hm hp).mono ?_; rintro e wb1 ⟨rfl, B⟩; have h := K7.out.drew.step B; have Sb1 : Hid (wb1.cell? ⟨gp, 0, none⟩ = some (.int .i64 m) ∧ wb1.cell? ⟨gp, 1, none⟩ = some (.int .u64 zp) ∧ wb1.cell? ⟨g, 0, none⟩ = some (.int .i64 m) ∧ wb1.cell? ⟨g, 1, none⟩ = some (.int .u64 z) ∧ wb1.cell? ⟨gd, 0, none⟩ = some (.int .i64 m) ∧ wb1.cell? ⟨gd, 1, none⟩ = some (.int .u64 zd)) := Lib.hid ⟨Kp.c0 h (g := gp) (n := m) (b := zp) (by simp), Kp.c1 h (g := gp) (n := m) (b := zp) (by simp), Kp.c0 h (g := g) (n := m) (b := z) (by simp), Kp.c1 h (g := g) (n := m) (b := z) (by simp), Kp.c0 h (g := gd) (n := m) (b := zd) (by simp), Kp.c1 h (g := gd) (n := m) (b := zd) (by simp)⟩; have Kb1 := Lib.hid h; clear B h K7))
                refine hK.out _ _ Sb1.out (fun hHeld => ?_)
                try simp only [List.setIfInBounds_toArray, List.set_cons_zero, List.set_cons_succ]
                refine wpAnyH_ready (rs := [5]) (by kernel_rfl) (by simp) ?_
                refine AllReadyH.cons rfl (fun K hK => ?_) AllReadyH.nil
                go_simp
                go_wp2_with ((go_at_call 26; with_reducible refine (has_eq m z (k : Int) true _ HR.out hm hz).mono ?_; rintro e wb2 ⟨rfl, B⟩; have h := Kb1.out.step B; have Sb2 : Hid (wb2.cell? ⟨gp, 0, none⟩ = some (.int .i64 m) ∧ wb2.cell? ⟨gp, 1, none⟩ = some (.int .u64 zp) ∧ wb2.cell? ⟨g, 0, none⟩ = some (.int .i64 m) ∧ wb2.cell? ⟨g, 1, none⟩ = some (.int .u64 z) ∧ wb2.cell? ⟨gd, 0, none⟩ = some (.int .i64 m) ∧ wb2.cell? ⟨gd, 1, none⟩ = some (.int .u64 zd)) := Lib.hid ⟨Kp.c0 h (g := gp) (n := m) (b := zp) (by simp), Kp.c1 h (g := gp) (n := m) (b := zp) (by simp), Kp.c0 h (g := g) (n := m) (b := z) (by simp), Kp.c1 h (g := g) (n := m) (b := z) (by simp), Kp.c0 h (g := gd) (n := m) (b := zd) (by simp), Kp.c1 h (g := gd) (n := m) (b := zd) (by simp)⟩; have Kb2 := Lib.hid h; clear B h Kb1))
                refine hK.out _ _ Sb2.out (fun hHeld => ?_)
                try simp only [List.setIfInBounds_toArray, List.set_cons_zero, List.set_cons_succ]
                refine region_take (i := 6) (d := 84) (v := ?_) rfl rfl (by kernel_rfl) (by kernel_rfl) (by kernel_rfl) (fun _ _ _ h => h) (Or.inl ⟨by rfl, ?_⟩) (by assumption) ?_
                rotate_left
                · (intro w hSw; (try dsimp only at hSw); go_simp; first | done | with_reducible rfl)
                try simp only [List.setIfInBounds_toArray, List.set_cons_zero, List.set_cons_succ]
                refine region_take (i := 7) (d := 85) (v := undef) rfl rfl (by kernel_rfl) (by kernel_rfl) (by kernel_rfl) (fun _ _ _ h => h) (Or.inr ⟨by rfl, rfl⟩) (by assumption) ?_
                try simp only [List.setIfInBounds_toArray, List.set_cons_zero, List.set_cons_succ]
                refine region_take (i := 8) (d := 86) (v := undef) rfl rfl (by kernel_rfl) (by kernel_rfl) (by kernel_rfl) (fun _ _ _ h => h) (Or.inr ⟨by rfl, rfl⟩) (by assumption) ?_
                try simp only [List.setIfInBounds_toArray, List.set_cons_zero, List.set_cons_succ]
                refine region_take (i := 9) (d := 87) (v := undef) rfl rfl (by kernel_rfl) (by kernel_rfl) (by kernel_rfl) (fun _ _ _ h => h) (Or.inr ⟨by rfl, rfl⟩) (by assumption) ?_
                try simp only [List.setIfInBounds_toArray, List.set_cons_zero, List.set_cons_succ]
                refine region_take (i := 10) (d := 88) (v := ?_) rfl rfl (by kernel_rfl) (by kernel_rfl) (by kernel_rfl) (fun _ _ _ h => h) (Or.inl ⟨by rfl, ?_⟩) (by assumption) ?_
                rotate_left
                · (intro w hSw; (try dsimp only at hSw); go_simp; first | done | with_reducible rfl)
                try simp only [List.setIfInBounds_toArray, List.set_cons_zero, List.set_cons_succ]
                refine region_take (i := 11) (d := 89) (v := ?_) rfl rfl (by kernel_rfl) (by kernel_rfl) (by kernel_rfl) (fun _ _ _ h => h) (Or.inl ⟨by rfl, ?_⟩) (by assumption) ?_
                rotate_left
                · (intro w hSw; (try dsimp only at hSw); go_simp; first | done | with_reducible rfl)
                try simp only [List.setIfInBounds_toArray, List.set_cons_zero, List.set_cons_succ]
                refine region_take (i := 12) (d := 90) (v := ?_) rfl rfl (by kernel_rfl) (by kernel_rfl) (by kernel_rfl) (fun _ _ _ h => h) (Or.inl ⟨by rfl, ?_⟩) (by assumption) ?_
                rotate_left
                · (intro w hSw; (try dsimp only at hSw); go_simp; first | done | with_reducible rfl)
                try simp only [List.setIfInBounds_toArray, List.set_cons_zero, List.set_cons_succ]
                refine region_take (i := 13) (d := 91) (v := ?_) rfl rfl (by kernel_rfl) (by kernel_rfl) (by kernel_rfl) (fun _ _ _ h => h) (Or.inl ⟨by rfl, ?_⟩) (by assumption) ?_
                rotate_left
                · (intro w hSw; (try dsimp only at hSw); go_simp; first | done | with_reducible rfl)
                try simp only [List.setIfInBounds_toArray, List.set_cons_zero, List.set_cons_succ]
                refine region_take (i := 14) (d := 92) (v := ?_) rfl rfl (by kernel_rfl) (by kernel_rfl) (by kernel_rfl) (fun _ _ _ h => h) (Or.inl ⟨by rfl, ?_⟩) (by assumption) ?_
                rotate_left
                · (intro w hSw; (try dsimp only at hSw); go_simp; first | done | with_reducible rfl)
                try simp only [List.setIfInBounds_toArray, List.set_cons_zero, List.set_cons_succ]
                refine region_take (i := 16) (d := 94) (v := ?_) rfl rfl (by kernel_rfl) (by kernel_rfl) (by kernel_rfl) (fun _ _ _ h => h) (Or.inl ⟨by rfl, ?_⟩) (by assumption) ?_
                rotate_left
                · (intro w hSw; (try dsimp only at hSw); go_simp; first | done | with_reducible rfl)
                try simp only [List.setIfInBounds_toArray, List.set_cons_zero, List.set_cons_succ]
                refine region_take (i := 17) (d := 95) (v := ?_) rfl rfl (by kernel_rfl) (by kernel_rfl) (by kernel_rfl) (fun _ _ _ h => h) (Or.inl ⟨by rfl, ?_⟩) (by assumption) ?_
                rotate_left
                · (intro w hSw; (try dsimp only at hSw); go_simp; first | done | with_reducible rfl)
                try simp only [List.setIfInBounds_toArray, List.set_cons_zero, List.set_cons_succ]
                refine wpAnyH_ready (rs := [15]) (by kernel_rfl) (by simp) ?_
                refine AllReadyH.cons rfl (fun K hK => ?_) AllReadyH.nil
                go_simp
                go_wp2_with ((go_at_call 26; with_reducible refine (has_eq m zd (k : Int) false _ HD1.out hm hd).mono ?_; rintro e wb3 ⟨rfl, B⟩; have h := Kb2.out.step B; have Sb3 : Hid (wb3.cell? ⟨gp, 0, none⟩ = some (.int .i64 m) ∧ wb3.cell? ⟨gp, 1, none⟩ = some (.int .u64 zp) ∧ wb3.cell? ⟨g, 0, none⟩ = some (.int .i64 m) ∧ wb3.cell? ⟨g, 1, none⟩ = some (.int .u64 z) ∧ wb3.cell? ⟨gd, 0, none⟩ = some (.int .i64 m) ∧ wb3.cell? ⟨gd, 1, none⟩ = some (.int .u64 zd)) := Lib.hid ⟨Kp.c0 h (g := gp) (n := m) (b := zp) (by simp), Kp.c1 h (g := gp) (n := m) (b := zp) (by simp), Kp.c0 h (g := g) (n := m) (b := z) (by simp), Kp.c1 h (g := g) (n := m) (b := z) (by simp), Kp.c0 h (g := gd) (n := m) (b := zd) (by simp), Kp.c1 h (g := gd) (n := m) (b := zd) (by simp)⟩; have Kb3 := Lib.hid h; clear B h Kb2))
                refine hK.out _ _ Sb3.out (fun hHeld => ?_)
                try simp only [List.setIfInBounds_toArray, List.set_cons_zero, List.set_cons_succ]
                refine wpAnyH_ready (rs := [18]) (by kernel_rfl) (by simp) ?_
                refine AllReadyH.cons rfl (fun K hK => ?_) AllReadyH.nil
                go_simp
                go_wp2_with ((go_at_call 26; with_reducible refine (has_eq m z (k : Int) true _ HR.out hm hz).mono ?_; rintro e wb4 ⟨rfl, B⟩; have h := Kb3.out.step B; have Sb4 : Hid (wb4.cell? ⟨gp, 0, none⟩ = some (.int .i64 m) ∧ wb4.cell? ⟨gp, 1, none⟩ = some (.int .u64 zp) ∧ wb4.cell? ⟨g, 0, none⟩ = some (.int .i64 m) ∧ wb4.cell? ⟨g, 1, none⟩ = some (.int .u64 z) ∧ wb4.cell? ⟨gd, 0, none⟩ = some (.int .i64 m) ∧ wb4.cell? ⟨gd, 1, none⟩ = some (.int .u64 zd)) := Lib.hid ⟨Kp.c0 h (g := gp) (n := m) (b := zp) (by simp), Kp.c1 h (g := gp) (n := m) (b := zp) (by simp), Kp.c0 h (g := g) (n := m) (b := z) (by simp), Kp.c1 h (g := g) (n := m) (b := z) (by simp), Kp.c0 h (g := gd) (n := m) (b := zd) (by simp), Kp.c1 h (g := gd) (n := m) (b := zd) (by simp)⟩; have Kb4 := Lib.hid h; clear B h Kb3))
                refine hK.out _ _ Sb4.out (fun hHeld => ?_)
                try simp only [List.setIfInBounds_toArray, List.set_cons_zero, List.set_cons_succ]
                refine region_take (i := 19) (d := 97) (v := ?_) rfl rfl (by kernel_rfl) (by kernel_rfl) (by kernel_rfl) (fun _ _ _ h => h) (Or.inl ⟨by rfl, ?_⟩) (by assumption) ?_
                rotate_left
                · (intro w hSw; (try dsimp only at hSw); go_simp; first | done | with_reducible rfl)
                try simp only [List.setIfInBounds_toArray, List.set_cons_zero, List.set_cons_succ]
                refine region_take (i := 20) (d := 98) (v := ?_) rfl rfl (by kernel_rfl) (by kernel_rfl) (by kernel_rfl) (fun _ _ _ h => h) (Or.inl ⟨by rfl, ?_⟩) (by assumption) ?_
                rotate_left
                · (intro w hSw; (try dsimp only at hSw); go_simp; first | done | with_reducible rfl)
                try simp only [List.setIfInBounds_toArray, List.set_cons_zero, List.set_cons_succ]
                refine region_take (i := 21) (d := 99) (v := ?_) rfl rfl (by kernel_rfl) (by kernel_rfl) (by kernel_rfl) (fun _ _ _ h => h) (Or.inl ⟨by rfl, ?_⟩) (by assumption) ?_
                rotate_left
                · (intro w hSw; (try dsimp only at hSw); go_simp; first | done | with_reducible rfl)
                try simp only [List.setIfInBounds_toArray, List.set_cons_zero, List.set_cons_succ]
                refine region_take (i := 22) (d := 100) (v := ?_) rfl rfl (by kernel_rfl) (by kernel_rfl) (by kernel_rfl) (fun _ _ _ h => h) (Or.inl ⟨by rfl, ?_⟩) (by assumption) ?_
                rotate_left
                · (intro w hSw; (try dsimp only at hSw); go_simp; first | done | with_reducible rfl)
                try simp only [List.setIfInBounds_toArray, List.set_cons_zero, List.set_cons_succ]
                refine region_take (i := 23) (d := 101) (v := ?_) rfl rfl (by kernel_rfl) (by kernel_rfl) (by kernel_rfl) (fun _ _ _ h => h) (Or.inl ⟨by rfl, ?_⟩) (by assumption) ?_
                rotate_left
                · (intro w hSw; (try dsimp only at hSw); go_simp; first | done | with_reducible rfl)
                try simp only [List.setIfInBounds_toArray, List.set_cons_zero, List.set_cons_succ]
                refine region_take (i := 24) (d := 102) (v := ?_) rfl rfl (by kernel_rfl) (by kernel_rfl) (by kernel_rfl) (fun _ _ _ h => h) (Or.inl ⟨by rfl, ?_⟩) (by assumption) ?_
                rotate_left
                · (intro w hSw; (try dsimp only at hSw); go_simp; first | done | with_reducible rfl)
                try simp only [List.setIfInBounds_toArray, List.set_cons_zero, List.set_cons_succ]
                refine region_take (i := 25) (d := 103) (v := ?_) rfl rfl (by kernel_rfl) (by kernel_rfl) (by kernel_rfl) (fun _ _ _ h => h) (Or.inl ⟨by rfl, ?_⟩) (by assumption) ?_
                rotate_left
                · (intro w hSw; (try dsimp only at hSw); go_simp; first | done | with_reducible rfl)
                try simp only [List.setIfInBounds_toArray, List.set_cons_zero, List.set_cons_succ]
                refine wpAnyH_done (by kernel_rfl) ?_ _
                all_goals
                  go_wp2
                  go_roundw
                  case rel => exact ⟨k + 1, by push_cast; rfl, by omega, Kb4.out⟩
                  case measure => simp [intOf]; omega
              · have q1 : ((k : Int) == (i : Int)) = false := beq_eq_false_iff_ne.2 (by omega)
                have q2 : ((k : Int) != (i : Int)) = true := by rw [bne, q1]; rfl
                have HR := Lib.hid hr
                have HP1 := Lib.hid (show has m zp (k : Int) = true by rw [HPK, hr]; rfl)
                have HD1 := Lib.hid (show has m zd (k : Int) = true by rw [HDK, hr, decide_eq_false hki]; rfl)
                clear HPK HDK hr
                go_wp2_with (go_at_call 25; with_reducible refine (blen_any m z _).mono ?_; rintro e7 w7 ⟨rfl, B7⟩; have K7 := Lib.hid (K0.out.step B7); clear B7 K0 c0 c1)
                have HSb : Hid (w7.cell? ⟨gp, 0, none⟩ = some (.int .i64 m) ∧ w7.cell? ⟨gp, 1, none⟩ = some (.int .u64 zp) ∧ w7.cell? ⟨g, 0, none⟩ = some (.int .i64 m) ∧ w7.cell? ⟨g, 1, none⟩ = some (.int .u64 z) ∧ w7.cell? ⟨gd, 0, none⟩ = some (.int .i64 m) ∧ w7.cell? ⟨gd, 1, none⟩ = some (.int .u64 zd)) := Lib.hid ⟨Kp.c0 K7.out (g := gp) (n := m) (b := zp) (by simp), Kp.c1 K7.out (g := gp) (n := m) (b := zp) (by simp), Kp.c0 K7.out (g := g) (n := m) (b := z) (by simp), Kp.c1 K7.out (g := g) (n := m) (b := z) (by simp), Kp.c0 K7.out (g := gd) (n := m) (b := zd) (by simp), Kp.c1 K7.out (g := gd) (n := m) (b := zd) (by simp)⟩
                refine wp_region_held_drew (S := fun w' => w'.cell? ⟨gp, 0, none⟩ = some (.int .i64 m) ∧ w'.cell? ⟨gp, 1, none⟩ = some (.int .u64 zp) ∧ w'.cell? ⟨g, 0, none⟩ = some (.int .i64 m) ∧ w'.cell? ⟨g, 1, none⟩ = some (.int .u64 z) ∧ w'.cell? ⟨gd, 0, none⟩ = some (.int .i64 m) ∧ w'.cell? ⟨gd, 1, none⟩ = some (.int .u64 zd)) (by kernel_rfl) HSb.out (fun hHeld => ?_)
                refine region_take (i := 0) (d := 78) (v := ?_) rfl rfl (by kernel_rfl) (by kernel_rfl) (by kernel_rfl) (fun _ _ _ h => h) (Or.inl ⟨by rfl, ?_⟩) (by assumption) ?_
                rotate_left
                · (intro w hSw; (try dsimp only at hSw); go_simp; first | done | with_reducible rfl)
                try simp only [List.setIfInBounds_toArray, List.set_cons_zero, List.set_cons_succ]
                refine region_take (i := 1) (d := 79) (v := ?_) rfl rfl (by kernel_rfl) (by kernel_rfl) (by kernel_rfl) (fun _ _ _ h => h) (Or.inl ⟨by rfl, ?_⟩) (by assumption) ?_
                rotate_left
                · (intro w hSw; (try dsimp only at hSw); go_simp; first | done | with_reducible rfl)
                try simp only [List.setIfInBounds_toArray, List.set_cons_zero, List.set_cons_succ]
                refine region_take (i := 3) (d := 81) (v := ?_) rfl rfl (by kernel_rfl) (by kernel_rfl) (by kernel_rfl) (fun _ _ _ h => h) (Or.inl ⟨by rfl, ?_⟩) (by assumption) ?_
                rotate_left
                · (intro w hSw; (try dsimp only at hSw); go_simp; first | done | with_reducible rfl)
                try simp only [List.setIfInBounds_toArray, List.set_cons_zero, List.set_cons_succ]
                refine region_take (i := 4) (d := 82) (v := ?_) rfl rfl (by kernel_rfl) (by kernel_rfl) (by kernel_rfl) (fun _ _ _ h => h) (Or.inl ⟨by rfl, ?_⟩) (by assumption) ?_
                rotate_left
                · (intro w hSw; (try dsimp only at hSw); go_simp; first | done | with_reducible rfl)
                try simp only [List.setIfInBounds_toArray, List.set_cons_zero, List.set_cons_succ]
                refine wpAnyH_ready (rs := [2]) (by kernel_rfl) (by simp) ?_
                refine AllReadyH.cons rfl (fun K hK => ?_) AllReadyH.nil
                go_simp
                go_wp2_with ((go_at_call 26; with_reducible refine (has_eq m zp (k : Int) true _ HP1.out hm hp).mono ?_; rintro e wb1 ⟨rfl, B⟩; have h := K7.out.drew.step B; have Sb1 : Hid (wb1.cell? ⟨gp, 0, none⟩ = some (.int .i64 m) ∧ wb1.cell? ⟨gp, 1, none⟩ = some (.int .u64 zp) ∧ wb1.cell? ⟨g, 0, none⟩ = some (.int .i64 m) ∧ wb1.cell? ⟨g, 1, none⟩ = some (.int .u64 z) ∧ wb1.cell? ⟨gd, 0, none⟩ = some (.int .i64 m) ∧ wb1.cell? ⟨gd, 1, none⟩ = some (.int .u64 zd)) := Lib.hid ⟨Kp.c0 h (g := gp) (n := m) (b := zp) (by simp), Kp.c1 h (g := gp) (n := m) (b := zp) (by simp), Kp.c0 h (g := g) (n := m) (b := z) (by simp), Kp.c1 h (g := g) (n := m) (b := z) (by simp), Kp.c0 h (g := gd) (n := m) (b := zd) (by simp), Kp.c1 h (g := gd) (n := m) (b := zd) (by simp)⟩; have Kb1 := Lib.hid h; clear B h K7))
                refine hK.out _ _ Sb1.out (fun hHeld => ?_)
                try simp only [List.setIfInBounds_toArray, List.set_cons_zero, List.set_cons_succ]
                refine wpAnyH_ready (rs := [5]) (by kernel_rfl) (by simp) ?_
                refine AllReadyH.cons rfl (fun K hK => ?_) AllReadyH.nil
                go_simp
                go_wp2_with ((go_at_call 26; with_reducible refine (has_eq m z (k : Int) true _ HR.out hm hz).mono ?_; rintro e wb2 ⟨rfl, B⟩; have h := Kb1.out.step B; have Sb2 : Hid (wb2.cell? ⟨gp, 0, none⟩ = some (.int .i64 m) ∧ wb2.cell? ⟨gp, 1, none⟩ = some (.int .u64 zp) ∧ wb2.cell? ⟨g, 0, none⟩ = some (.int .i64 m) ∧ wb2.cell? ⟨g, 1, none⟩ = some (.int .u64 z) ∧ wb2.cell? ⟨gd, 0, none⟩ = some (.int .i64 m) ∧ wb2.cell? ⟨gd, 1, none⟩ = some (.int .u64 zd)) := Lib.hid ⟨Kp.c0 h (g := gp) (n := m) (b := zp) (by simp), Kp.c1 h (g := gp) (n := m) (b := zp) (by simp), Kp.c0 h (g := g) (n := m) (b := z) (by simp), Kp.c1 h (g := g) (n := m) (b := z) (by simp), Kp.c0 h (g := gd) (n := m) (b := zd) (by simp), Kp.c1 h (g := gd) (n := m) (b := zd) (by simp)⟩; have Kb2 := Lib.hid h; clear B h Kb1))
                refine hK.out _ _ Sb2.out (fun hHeld => ?_)
                try simp only [List.setIfInBounds_toArray, List.set_cons_zero, List.set_cons_succ]
                refine region_take (i := 6) (d := 84) (v := ?_) rfl rfl (by kernel_rfl) (by kernel_rfl) (by kernel_rfl) (fun _ _ _ h => h) (Or.inl ⟨by rfl, ?_⟩) (by assumption) ?_
                rotate_left
                · (intro w hSw; (try dsimp only at hSw); go_simp; first | done | with_reducible rfl)
                try simp only [List.setIfInBounds_toArray, List.set_cons_zero, List.set_cons_succ]
                refine region_take (i := 7) (d := 85) (v := undef) rfl rfl (by kernel_rfl) (by kernel_rfl) (by kernel_rfl) (fun _ _ _ h => h) (Or.inr ⟨by rfl, rfl⟩) (by assumption) ?_
                try simp only [List.setIfInBounds_toArray, List.set_cons_zero, List.set_cons_succ]
                refine region_take (i := 8) (d := 86) (v := undef) rfl rfl (by kernel_rfl) (by kernel_rfl) (by kernel_rfl) (fun _ _ _ h => h) (Or.inr ⟨by rfl, rfl⟩) (by assumption) ?_
                try simp only [List.setIfInBounds_toArray, List.set_cons_zero, List.set_cons_succ]
                refine region_take (i := 9) (d := 87) (v := undef) rfl rfl (by kernel_rfl) (by kernel_rfl) (by kernel_rfl) (fun _ _ _ h => h) (Or.inr ⟨by rfl, rfl⟩) (by assumption) ?_
                try simp only [List.setIfInBounds_toArray, List.set_cons_zero, List.set_cons_succ]
                refine region_take (i := 10) (d := 88) (v := ?_) rfl rfl (by kernel_rfl) (by kernel_rfl) (by kernel_rfl) (fun _ _ _ h => h) (Or.inl ⟨by rfl, ?_⟩) (by assumption) ?_
                rotate_left
                · (intro w hSw; (try dsimp only at hSw); go_simp; first | done | with_reducible rfl)
                try simp only [List.setIfInBounds_toArray, List.set_cons_zero, List.set_cons_succ]
                refine region_take (i := 11) (d := 89) (v := ?_) rfl rfl (by kernel_rfl) (by kernel_rfl) (by kernel_rfl) (fun _ _ _ h => h) (Or.inl ⟨by rfl, ?_⟩) (by assumption) ?_
                rotate_left
                · (intro w hSw; (try dsimp only at hSw); go_simp; first | done | with_reducible rfl)
                try simp only [List.setIfInBounds_toArray, List.set_cons_zero, List.set_cons_succ]
                refine region_take (i := 12) (d := 90) (v := ?_) rfl rfl (by kernel_rfl) (by kernel_rfl) (by kernel_rfl) (fun _ _ _ h => h) (Or.inl ⟨by rfl, ?_⟩) (by assumption) ?_
                rotate_left
                · (intro w hSw; (try dsimp only at hSw); go_simp; first | done | with_reducible rfl)
                try simp only [List.setIfInBounds_toArray, List.set_cons_zero, List.set_cons_succ]
                refine region_take (i := 13) (d := 91) (v := ?_) rfl rfl (by kernel_rfl) (by kernel_rfl) (by kernel_rfl) (fun _ _ _ h => h) (Or.inl ⟨by rfl, ?_⟩) (by assumption) ?_
                rotate_left
                · (intro w hSw; (try dsimp only at hSw); go_simp; first | done | with_reducible rfl)
                try simp only [List.setIfInBounds_toArray, List.set_cons_zero, List.set_cons_succ]
                refine region_take (i := 14) (d := 92) (v := ?_) rfl rfl (by kernel_rfl) (by kernel_rfl) (by kernel_rfl) (fun _ _ _ h => h) (Or.inl ⟨by rfl, ?_⟩) (by assumption) ?_
                rotate_left
                · (intro w hSw; (try dsimp only at hSw); go_simp; first | done | with_reducible rfl)
                try simp only [List.setIfInBounds_toArray, List.set_cons_zero, List.set_cons_succ]
                refine region_take (i := 16) (d := 94) (v := ?_) rfl rfl (by kernel_rfl) (by kernel_rfl) (by kernel_rfl) (fun _ _ _ h => h) (Or.inl ⟨by rfl, ?_⟩) (by assumption) ?_
                rotate_left
                · (intro w hSw; (try dsimp only at hSw); go_simp; first | done | with_reducible rfl)
                try simp only [List.setIfInBounds_toArray, List.set_cons_zero, List.set_cons_succ]
                refine region_take (i := 17) (d := 95) (v := ?_) rfl rfl (by kernel_rfl) (by kernel_rfl) (by kernel_rfl) (fun _ _ _ h => h) (Or.inl ⟨by rfl, ?_⟩) (by assumption) ?_
                rotate_left
                · (intro w hSw; (try dsimp only at hSw); go_simp; first | done | with_reducible rfl)
                try simp only [List.setIfInBounds_toArray, List.set_cons_zero, List.set_cons_succ]
                refine wpAnyH_ready (rs := [15]) (by kernel_rfl) (by simp) ?_
                refine AllReadyH.cons rfl (fun K hK => ?_) AllReadyH.nil
                go_simp
                go_wp2_with ((go_at_call 26; with_reducible refine (has_eq m zd (k : Int) true _ HD1.out hm hd).mono ?_; rintro e wb3 ⟨rfl, B⟩; have h := Kb2.out.step B; have Sb3 : Hid (wb3.cell? ⟨gp, 0, none⟩ = some (.int .i64 m) ∧ wb3.cell? ⟨gp, 1, none⟩ = some (.int .u64 zp) ∧ wb3.cell? ⟨g, 0, none⟩ = some (.int .i64 m) ∧ wb3.cell? ⟨g, 1, none⟩ = some (.int .u64 z) ∧ wb3.cell? ⟨gd, 0, none⟩ = some (.int .i64 m) ∧ wb3.cell? ⟨gd, 1, none⟩ = some (.int .u64 zd)) := Lib.hid ⟨Kp.c0 h (g := gp) (n := m) (b := zp) (by simp), Kp.c1 h (g := gp) (n := m) (b := zp) (by simp), Kp.c0 h (g := g) (n := m) (b := z) (by simp), Kp.c1 h (g := g) (n := m) (b := z) (by simp), Kp.c0 h (g := gd) (n := m) (b := zd) (by simp), Kp.c1 h (g := gd) (n := m) (b := zd) (by simp)⟩; have Kb3 := Lib.hid h; clear B h Kb2))
                refine hK.out _ _ Sb3.out (fun hHeld => ?_)
                try simp only [List.setIfInBounds_toArray, List.set_cons_zero, List.set_cons_succ]
                refine wpAnyH_ready (rs := [18]) (by kernel_rfl) (by simp) ?_
                refine AllReadyH.cons rfl (fun K hK => ?_) AllReadyH.nil
                go_simp
                go_wp2_with ((go_at_call 26; with_reducible refine (has_eq m z (k : Int) true _ HR.out hm hz).mono ?_; rintro e wb4 ⟨rfl, B⟩; have h := Kb3.out.step B; have Sb4 : Hid (wb4.cell? ⟨gp, 0, none⟩ = some (.int .i64 m) ∧ wb4.cell? ⟨gp, 1, none⟩ = some (.int .u64 zp) ∧ wb4.cell? ⟨g, 0, none⟩ = some (.int .i64 m) ∧ wb4.cell? ⟨g, 1, none⟩ = some (.int .u64 z) ∧ wb4.cell? ⟨gd, 0, none⟩ = some (.int .i64 m) ∧ wb4.cell? ⟨gd, 1, none⟩ = some (.int .u64 zd)) := Lib.hid ⟨Kp.c0 h (g := gp) (n := m) (b := zp) (by simp), Kp.c1 h (g := gp) (n := m) (b := zp) (by simp), Kp.c0 h (g := g) (n := m) (b := z) (by simp), Kp.c1 h (g := g) (n := m) (b := z) (by simp), Kp.c0 h (g := gd) (n := m) (b := zd) (by simp), Kp.c1 h (g := gd) (n := m) (b := zd) (by simp)⟩; have Kb4 := Lib.hid h; clear B h Kb3))
                refine hK.out _ _ Sb4.out (fun hHeld => ?_)
                try simp only [List.setIfInBounds_toArray, List.set_cons_zero, List.set_cons_succ]
                refine region_take (i := 19) (d := 97) (v := ?_) rfl rfl (by kernel_rfl) (by kernel_rfl) (by kernel_rfl) (fun _ _ _ h => h) (Or.inl ⟨by rfl, ?_⟩) (by assumption) ?_
                rotate_left
                · (intro w hSw; (try dsimp only at hSw); go_simp; first | done | with_reducible rfl)
                try simp only [List.setIfInBounds_toArray, List.set_cons_zero, List.set_cons_succ]
                refine region_take (i := 20) (d := 98) (v := ?_) rfl rfl (by kernel_rfl) (by kernel_rfl) (by kernel_rfl) (fun _ _ _ h => h) (Or.inl ⟨by rfl, ?_⟩) (by assumption) ?_
                rotate_left
                · (intro w hSw; (try dsimp only at hSw); go_simp; first | done | with_reducible rfl)
                try simp only [List.setIfInBounds_toArray, List.set_cons_zero, List.set_cons_succ]
                refine region_take (i := 21) (d := 99) (v := ?_) rfl rfl (by kernel_rfl) (by kernel_rfl) (by kernel_rfl) (fun _ _ _ h => h) (Or.inl ⟨by rfl, ?_⟩) (by assumption) ?_
                rotate_left
                · (intro w hSw; (try dsimp only at hSw); go_simp; first | done | with_reducible rfl)
                try simp only [List.setIfInBounds_toArray, List.set_cons_zero, List.set_cons_succ]
                refine region_take (i := 22) (d := 100) (v := ?_) rfl rfl (by kernel_rfl) (by kernel_rfl) (by kernel_rfl) (fun _ _ _ h => h) (Or.inl ⟨by rfl, ?_⟩) (by assumption) ?_
                rotate_left
                · (intro w hSw; (try dsimp only at hSw); go_simp; first | done | with_reducible rfl)
                try simp only [List.setIfInBounds_toArray, List.set_cons_zero, List.set_cons_succ]
                refine region_take (i := 23) (d := 101) (v := ?_) rfl rfl (by kernel_rfl) (by kernel_rfl) (by kernel_rfl) (fun _ _ _ h => h) (Or.inl ⟨by rfl, ?_⟩) (by assumption) ?_
                rotate_left
                · (intro w hSw; (try dsimp only at hSw); go_simp; first | done | with_reducible rfl)
                try simp only [List.setIfInBounds_toArray, List.set_cons_zero, List.set_cons_succ]
                refine region_take (i := 24) (d := 102) (v := ?_) rfl rfl (by kernel_rfl) (by kernel_rfl) (by kernel_rfl) (fun _ _ _ h => h) (Or.inl ⟨by rfl, ?_⟩) (by assumption) ?_
                rotate_left
                · (intro w hSw; (try dsimp only at hSw); go_simp; first | done | with_reducible rfl)
                try simp only [List.setIfInBounds_toArray, List.set_cons_zero, List.set_cons_succ]
                refine region_take (i := 25) (d := 103) (v := ?_) rfl rfl (by kernel_rfl) (by kernel_rfl) (by kernel_rfl) (fun _ _ _ h => h) (Or.inl ⟨by rfl, ?_⟩) (by assumption) ?_
                rotate_left
                · (intro w hSw; (try dsimp only at hSw); go_simp; first | done | with_reducible rfl)
                try simp only [List.setIfInBounds_toArray, List.set_cons_zero, List.set_cons_succ]
                refine wpAnyH_done (by kernel_rfl) ?_ _
                all_goals
                  go_wp2
                  go_roundw
                  case rel => exact ⟨k + 1, by push_cast; rfl, by omega, Kb4.out⟩
                  case measure => simp [intOf]; omega
            | false =>
              by_cases hki : k = i
              · subst hki
                have q1 : ((k : Int) == (k : Int)) = true := by simp
                have HR := Lib.hid hr
                have HP1 := Lib.hid (show has m zp (k : Int) = true by rw [HPK, hr]; simp)
                have HD1 := Lib.hid (show has m zd (k : Int) = false by rw [HDK, hr]; rfl)
                clear HPK HDK hr
                go_wp2_with (go_at_call 25; with_reducible refine (blen_any m z _).mono ?_; rintro e7 w7 ⟨rfl, B7⟩; have K7 := Lib.hid (K0.out.step B7); clear B7 K0 c0 c1)
                have HSb : Hid (w7.cell? ⟨gp, 0, none⟩ = some (.int .i64 m) ∧ w7.cell? ⟨gp, 1, none⟩ = some (.int .u64 zp) ∧ w7.cell? ⟨g, 0, none⟩ = some (.int .i64 m) ∧ w7.cell? ⟨g, 1, none⟩ = some (.int .u64 z) ∧ w7.cell? ⟨gd, 0, none⟩ = some (.int .i64 m) ∧ w7.cell? ⟨gd, 1, none⟩ = some (.int .u64 zd)) := Lib.hid ⟨Kp.c0 K7.out (g := gp) (n := m) (b := zp) (by simp), Kp.c1 K7.out (g := gp) (n := m) (b := zp) (by simp), Kp.c0 K7.out (g := g) (n := m) (b := z) (by simp), Kp.c1 K7.out (g := g) (n := m) (b := z) (by simp), Kp.c0 K7.out (g := gd) (n := m) (b := zd) (by simp), Kp.c1 K7.out (g := gd) (n := m) (b := zd) (by simp)⟩
                refine wp_region_held_drew (S := fun w' => w'.cell? ⟨gp, 0, none⟩ = some (.int .i64 m) ∧ w'.cell? ⟨gp, 1, none⟩ = some (.int .u64 zp) ∧ w'.cell? ⟨g, 0, none⟩ = some (.int .i64 m) ∧ w'.cell? ⟨g, 1, none⟩ = some (.int .u64 z) ∧ w'.cell? ⟨gd, 0, none⟩ = some (.int .i64 m) ∧ w'.cell? ⟨gd, 1, none⟩ = some (.int .u64 zd)) (by kernel_rfl) HSb.out (fun hHeld => ?_)
                refine region_take (i := 0) (d := 78) (v := ?_) rfl rfl (by kernel_rfl) (by kernel_rfl) (by kernel_rfl) (fun _ _ _ h => h) (Or.inl ⟨by rfl, ?_⟩) (by assumption) ?_
                rotate_left
                · (intro w hSw; (try dsimp only at hSw); go_simp; first | done | with_reducible rfl)
                try simp only [List.setIfInBounds_toArray, List.set_cons_zero, List.set_cons_succ]
                refine region_take (i := 1) (d := 79) (v := ?_) rfl rfl (by kernel_rfl) (by kernel_rfl) (by kernel_rfl) (fun _ _ _ h => h) (Or.inl ⟨by rfl, ?_⟩) (by assumption) ?_
                rotate_left
                · (intro w hSw; (try dsimp only at hSw); go_simp; first | done | with_reducible rfl)
                try simp only [List.setIfInBounds_toArray, List.set_cons_zero, List.set_cons_succ]
                refine region_take (i := 3) (d := 81) (v := ?_) rfl rfl (by kernel_rfl) (by kernel_rfl) (by kernel_rfl) (fun _ _ _ h => h) (Or.inl ⟨by rfl, ?_⟩) (by assumption) ?_
                rotate_left
                · (intro w hSw; (try dsimp only at hSw); go_simp; first | done | with_reducible rfl)
                try simp only [List.setIfInBounds_toArray, List.set_cons_zero, List.set_cons_succ]
                refine region_take (i := 4) (d := 82) (v := ?_) rfl rfl (by kernel_rfl) (by kernel_rfl) (by kernel_rfl) (fun _ _ _ h => h) (Or.inl ⟨by rfl, ?_⟩) (by assumption) ?_
                rotate_left
                · (intro w hSw; (try dsimp only at hSw); go_simp; first | done | with_reducible rfl)
                try simp only [List.setIfInBounds_toArray, List.set_cons_zero, List.set_cons_succ]
                refine wpAnyH_ready (rs := [2]) (by kernel_rfl) (by simp) ?_
                refine AllReadyH.cons rfl (fun K hK => ?_) AllReadyH.nil
                go_simp
                go_wp2_with ((go_at_call 26; with_reducible refine (has_eq m zp (k : Int) true _ HP1.out hm hp).mono ?_; rintro e wb1 ⟨rfl, B⟩; have h := K7.out.drew.step B; have Sb1 : Hid (wb1.cell? ⟨gp, 0, none⟩ = some (.int .i64 m) ∧ wb1.cell? ⟨gp, 1, none⟩ = some (.int .u64 zp) ∧ wb1.cell? ⟨g, 0, none⟩ = some (.int .i64 m) ∧ wb1.cell? ⟨g, 1, none⟩ = some (.int .u64 z) ∧ wb1.cell? ⟨gd, 0, none⟩ = some (.int .i64 m) ∧ wb1.cell? ⟨gd, 1, none⟩ = some (.int .u64 zd)) := Lib.hid ⟨Kp.c0 h (g := gp) (n := m) (b := zp) (by simp), Kp.c1 h (g := gp) (n := m) (b := zp) (by simp), Kp.c0 h (g := g) (n := m) (b := z) (by simp), Kp.c1 h (g := g) (n := m) (b := z) (by simp), Kp.c0 h (g := gd) (n := m) (b := zd) (by simp), Kp.c1 h (g := gd) (n := m) (b := zd) (by simp)⟩; have Kb1 := Lib.hid h; clear B h K7))
                refine hK.out _ _ Sb1.out (fun hHeld => ?_)
                try simp only [List.setIfInBounds_toArray, List.set_cons_zero, List.set_cons_succ]
                refine wpAnyH_ready (rs := [5]) (by kernel_rfl) (by simp) ?_
                refine AllReadyH.cons rfl (fun K hK => ?_) AllReadyH.nil
                go_simp
                go_wp2_with ((go_at_call 26; with_reducible refine (has_eq m z (k : Int) false _ HR.out hm hz).mono ?_; rintro e wb2 ⟨rfl, B⟩; have h := Kb1.out.step B; have Sb2 : Hid (wb2.cell? ⟨gp, 0, none⟩ = some (.int .i64 m) ∧ wb2.cell? ⟨gp, 1, none⟩ = some (.int .u64 zp) ∧ wb2.cell? ⟨g, 0, none⟩ = some (.int .i64 m) ∧ wb2.cell? ⟨g, 1, none⟩ = some (.int .u64 z) ∧ wb2.cell? ⟨gd, 0, none⟩ = some (.int .i64 m) ∧ wb2.cell? ⟨gd, 1, none⟩ = some (.int .u64 zd)) := Lib.hid ⟨Kp.c0 h (g := gp) (n := m) (b := zp) (by simp), Kp.c1 h (g := gp) (n := m) (b := zp) (by simp), Kp.c0 h (g := g) (n := m) (b := z) (by simp), Kp.c1 h (g := g) (n := m) (b := z) (by simp), Kp.c0 h (g := gd) (n := m) (b := zd) (by simp), Kp.c1 h (g := gd) (n := m) (b := zd) (by simp)⟩; have Kb2 := Lib.hid h; clear B h Kb1))
                refine hK.out _ _ Sb2.out (fun hHeld => ?_)
                try simp only [List.setIfInBounds_toArray, List.set_cons_zero, List.set_cons_succ]
                refine region_take (i := 6) (d := 84) (v := ?_) rfl rfl (by kernel_rfl) (by kernel_rfl) (by kernel_rfl) (fun _ _ _ h => h) (Or.inl ⟨by rfl, ?_⟩) (by assumption) ?_
                rotate_left
                · (intro w hSw; (try dsimp only at hSw); go_simp; first | done | with_reducible rfl)
                try simp only [List.setIfInBounds_toArray, List.set_cons_zero, List.set_cons_succ]
                refine region_take (i := 7) (d := 85) (v := ?_) rfl rfl (by kernel_rfl) (by kernel_rfl) (by kernel_rfl) (fun _ _ _ h => h) (Or.inl ⟨by rfl, ?_⟩) (by assumption) ?_
                rotate_left
                · (intro w hSw; (try dsimp only at hSw); go_simp; first | done | with_reducible rfl)
                try simp only [List.setIfInBounds_toArray, List.set_cons_zero, List.set_cons_succ]
                refine region_take (i := 8) (d := 86) (v := ?_) rfl rfl (by kernel_rfl) (by kernel_rfl) (by kernel_rfl) (fun _ _ _ h => h) (Or.inl ⟨by rfl, ?_⟩) (by assumption) ?_
                rotate_left
                · (intro w hSw; (try dsimp only at hSw); go_simp; first | done | with_reducible rfl)
                try simp only [List.setIfInBounds_toArray, List.set_cons_zero, List.set_cons_succ]
                refine region_take (i := 9) (d := 87) (v := ?_) rfl rfl (by kernel_rfl) (by kernel_rfl) (by kernel_rfl) (fun _ _ _ h => h) (Or.inl ⟨by rfl, ?_⟩) (by assumption) ?_
                rotate_left
                · (intro w hSw; (try dsimp only at hSw); go_simp; first | done | with_reducible rfl)
                try simp only [List.setIfInBounds_toArray, List.set_cons_zero, List.set_cons_succ]
                refine region_take (i := 10) (d := 88) (v := ?_) rfl rfl (by kernel_rfl) (by kernel_rfl) (by kernel_rfl) (fun _ _ _ h => h) (Or.inl ⟨by rfl, ?_⟩) (by assumption) ?_
                rotate_left
                · (intro w hSw; (try dsimp only at hSw); go_simp; first | done | with_reducible rfl)
                try simp only [List.setIfInBounds_toArray, List.set_cons_zero, List.set_cons_succ]
                refine region_take (i := 11) (d := 89) (v := ?_) rfl rfl (by kernel_rfl) (by kernel_rfl) (by kernel_rfl) (fun _ _ _ h => h) (Or.inl ⟨by rfl, ?_⟩) (by assumption) ?_
                rotate_left
                · (intro w hSw; (try dsimp only at hSw); go_simp; first | done | with_reducible rfl)
                try simp only [List.setIfInBounds_toArray, List.set_cons_zero, List.set_cons_succ]
                refine region_take (i := 12) (d := 90) (v := ?_) rfl rfl (by kernel_rfl) (by kernel_rfl) (by kernel_rfl) (fun _ _ _ h => h) (Or.inl ⟨by rfl, ?_⟩) (by assumption) ?_
                rotate_left
                · (intro w hSw; (try dsimp only at hSw); go_simp; first | done | with_reducible rfl)
                try simp only [List.setIfInBounds_toArray, List.set_cons_zero, List.set_cons_succ]
                refine region_take (i := 13) (d := 91) (v := ?_) rfl rfl (by kernel_rfl) (by kernel_rfl) (by kernel_rfl) (fun _ _ _ h => h) (Or.inl ⟨by rfl, ?_⟩) (by assumption) ?_
                rotate_left
                · (intro w hSw; (try dsimp only at hSw); go_simp; first | done | with_reducible rfl)
                try simp only [List.setIfInBounds_toArray, List.set_cons_zero, List.set_cons_succ]
                refine region_take (i := 14) (d := 92) (v := ?_) rfl rfl (by kernel_rfl) (by kernel_rfl) (by kernel_rfl) (fun _ _ _ h => h) (Or.inl ⟨by rfl, ?_⟩) (by assumption) ?_
                rotate_left
                · (intro w hSw; (try dsimp only at hSw); go_simp; first | done | with_reducible rfl)
                try simp only [List.setIfInBounds_toArray, List.set_cons_zero, List.set_cons_succ]
                refine region_take (i := 16) (d := 94) (v := ?_) rfl rfl (by kernel_rfl) (by kernel_rfl) (by kernel_rfl) (fun _ _ _ h => h) (Or.inl ⟨by rfl, ?_⟩) (by assumption) ?_
                rotate_left
                · (intro w hSw; (try dsimp only at hSw); go_simp; first | done | with_reducible rfl)
                try simp only [List.setIfInBounds_toArray, List.set_cons_zero, List.set_cons_succ]
                refine region_take (i := 17) (d := 95) (v := ?_) rfl rfl (by kernel_rfl) (by kernel_rfl) (by kernel_rfl) (fun _ _ _ h => h) (Or.inl ⟨by rfl, ?_⟩) (by assumption) ?_
                rotate_left
                · (intro w hSw; (try dsimp only at hSw); go_simp; first | done | with_reducible rfl)
                try simp only [List.setIfInBounds_toArray, List.set_cons_zero, List.set_cons_succ]
                refine wpAnyH_ready (rs := [15]) (by kernel_rfl) (by simp) ?_
                refine AllReadyH.cons rfl (fun K hK => ?_) AllReadyH.nil
                go_simp
                go_wp2_with ((go_at_call 26; with_reducible refine (has_eq m zd (k : Int) false _ HD1.out hm hd).mono ?_; rintro e wb3 ⟨rfl, B⟩; have h := Kb2.out.step B; have Sb3 : Hid (wb3.cell? ⟨gp, 0, none⟩ = some (.int .i64 m) ∧ wb3.cell? ⟨gp, 1, none⟩ = some (.int .u64 zp) ∧ wb3.cell? ⟨g, 0, none⟩ = some (.int .i64 m) ∧ wb3.cell? ⟨g, 1, none⟩ = some (.int .u64 z) ∧ wb3.cell? ⟨gd, 0, none⟩ = some (.int .i64 m) ∧ wb3.cell? ⟨gd, 1, none⟩ = some (.int .u64 zd)) := Lib.hid ⟨Kp.c0 h (g := gp) (n := m) (b := zp) (by simp), Kp.c1 h (g := gp) (n := m) (b := zp) (by simp), Kp.c0 h (g := g) (n := m) (b := z) (by simp), Kp.c1 h (g := g) (n := m) (b := z) (by simp), Kp.c0 h (g := gd) (n := m) (b := zd) (by simp), Kp.c1 h (g := gd) (n := m) (b := zd) (by simp)⟩; have Kb3 := Lib.hid h; clear B h Kb2))
                refine hK.out _ _ Sb3.out (fun hHeld => ?_)
                try simp only [List.setIfInBounds_toArray, List.set_cons_zero, List.set_cons_succ]
                refine wpAnyH_ready (rs := [18]) (by kernel_rfl) (by simp) ?_
                refine AllReadyH.cons rfl (fun K hK => ?_) AllReadyH.nil
                go_simp
                go_wp2_with ((go_at_call 26; with_reducible refine (has_eq m z (k : Int) false _ HR.out hm hz).mono ?_; rintro e wb4 ⟨rfl, B⟩; have h := Kb3.out.step B; have Sb4 : Hid (wb4.cell? ⟨gp, 0, none⟩ = some (.int .i64 m) ∧ wb4.cell? ⟨gp, 1, none⟩ = some (.int .u64 zp) ∧ wb4.cell? ⟨g, 0, none⟩ = some (.int .i64 m) ∧ wb4.cell? ⟨g, 1, none⟩ = some (.int .u64 z) ∧ wb4.cell? ⟨gd, 0, none⟩ = some (.int .i64 m) ∧ wb4.cell? ⟨gd, 1, none⟩ = some (.int .u64 zd)) := Lib.hid ⟨Kp.c0 h (g := gp) (n := m) (b := zp) (by simp), Kp.c1 h (g := gp) (n := m) (b := zp) (by simp), Kp.c0 h (g := g) (n := m) (b := z) (by simp), Kp.c1 h (g := g) (n := m) (b := z) (by simp), Kp.c0 h (g := gd) (n := m) (b := zd) (by simp), Kp.c1 h (g := gd) (n := m) (b := zd) (by simp)⟩; have Kb4 := Lib.hid h; clear B h Kb3))
                refine hK.out _ _ Sb4.out (fun hHeld => ?_)
                try simp only [List.setIfInBounds_toArray, List.set_cons_zero, List.set_cons_succ]
                refine region_take (i := 19) (d := 97) (v := ?_) rfl rfl (by kernel_rfl) (by kernel_rfl) (by kernel_rfl) (fun _ _ _ h => h) (Or.inl ⟨by rfl, ?_⟩) (by assumption) ?_
                rotate_left
                · (intro w hSw; (try dsimp only at hSw); go_simp; first | done | with_reducible rfl)
                try simp only [List.setIfInBounds_toArray, List.set_cons_zero, List.set_cons_succ]
                refine region_take (i := 20) (d := 98) (v := undef) rfl rfl (by kernel_rfl) (by kernel_rfl) (by kernel_rfl) (fun _ _ _ h => h) (Or.inr ⟨by rfl, rfl⟩) (by assumption) ?_
                try simp only [List.setIfInBounds_toArray, List.set_cons_zero, List.set_cons_succ]
                refine region_take (i := 21) (d := 99) (v := undef) rfl rfl (by kernel_rfl) (by kernel_rfl) (by kernel_rfl) (fun _ _ _ h => h) (Or.inr ⟨by rfl, rfl⟩) (by assumption) ?_
                try simp only [List.setIfInBounds_toArray, List.set_cons_zero, List.set_cons_succ]
                refine region_take (i := 22) (d := 100) (v := undef) rfl rfl (by kernel_rfl) (by kernel_rfl) (by kernel_rfl) (fun _ _ _ h => h) (Or.inr ⟨by rfl, rfl⟩) (by assumption) ?_
                try simp only [List.setIfInBounds_toArray, List.set_cons_zero, List.set_cons_succ]
                refine region_take (i := 23) (d := 101) (v := ?_) rfl rfl (by kernel_rfl) (by kernel_rfl) (by kernel_rfl) (fun _ _ _ h => h) (Or.inl ⟨by rfl, ?_⟩) (by assumption) ?_
                rotate_left
                · (intro w hSw; (try dsimp only at hSw); go_simp; first | done | with_reducible rfl)
                try simp only [List.setIfInBounds_toArray, List.set_cons_zero, List.set_cons_succ]
                refine region_take (i := 24) (d := 102) (v := ?_) rfl rfl (by kernel_rfl) (by kernel_rfl) (by kernel_rfl) (fun _ _ _ h => h) (Or.inl ⟨by rfl, ?_⟩) (by assumption) ?_
                rotate_left
                · (intro w hSw; (try dsimp only at hSw); go_simp; first | done | with_reducible rfl)
                try simp only [List.setIfInBounds_toArray, List.set_cons_zero, List.set_cons_succ]
                refine region_take (i := 25) (d := 103) (v := ?_) rfl rfl (by kernel_rfl) (by kernel_rfl) (by kernel_rfl) (fun _ _ _ h => h) (Or.inl ⟨by rfl, ?_⟩) (by assumption) ?_
                rotate_left
                · (intro w hSw; (try dsimp only at hSw); go_simp; first | done | with_reducible rfl)
                try simp only [List.setIfInBounds_toArray, List.set_cons_zero, List.set_cons_succ]
                refine wpAnyH_done (by kernel_rfl) ?_ _
                all_goals
                  go_wp2
                  go_roundw
                  case rel => exact ⟨k + 1, by push_cast; rfl, by omega, Kb4.out⟩
                  case measure => simp [intOf]; omega
              · have q1 : ((k : Int) == (i : Int)) = false := beq_eq_false_iff_ne.2 (by omega)
                have HR := Lib.hid hr
                have HP1 := Lib.hid (show has m zp (k : Int) = false by rw [HPK, hr, decide_eq_false hki]; rfl)
                have HD1 := Lib.hid (show has m zd (k : Int) = false by rw [HDK, hr]; rfl)
                clear HPK HDK hr
                go_wp2_with (go_at_call 25; with_reducible refine (blen_any m z _).mono ?_; rintro e7 w7 ⟨rfl, B7⟩; have K7 := Lib.hid (K0.out.step B7); clear B7 K0 c0 c1)
                have HSb : Hid (w7.cell? ⟨gp, 0, none⟩ = some (.int .i64 m) ∧ w7.cell? ⟨gp, 1, none⟩ = some (.int .u64 zp) ∧ w7.cell? ⟨g, 0, none⟩ = some (.int .i64 m) ∧ w7.cell? ⟨g, 1, none⟩ = some (.int .u64 z) ∧ w7.cell? ⟨gd, 0, none⟩ = some (.int .i64 m) ∧ w7.cell? ⟨gd, 1, none⟩ = some (.int .u64 zd)) := Lib.hid ⟨Kp.c0 K7.out (g := gp) (n := m) (b := zp) (by simp), Kp.c1 K7.out (g := gp) (n := m) (b := zp) (by simp), Kp.c0 K7.out (g := g) (n := m) (b := z) (by simp), Kp.c1 K7.out (g := g) (n := m) (b := z) (by simp), Kp.c0 K7.out (g := gd) (n := m) (b := zd) (by simp), Kp.c1 K7.out (g := gd) (n := m) (b := zd) (by simp)⟩
                refine wp_region_held_drew (S := fun w' => w'.cell? ⟨gp, 0, none⟩ = some (.int .i64 m) ∧ w'.cell? ⟨gp, 1, none⟩ = some (.int .u64 zp) ∧ w'.cell? ⟨g, 0, none⟩ = some (.int .i64 m) ∧ w'.cell? ⟨g, 1, none⟩ = some (.int .u64 z) ∧ w'.cell? ⟨gd, 0, none⟩ = some (.int .i64 m) ∧ w'.cell? ⟨gd, 1, none⟩ = some (.int .u64 zd)) (by kernel_rfl) HSb.out (fun hHeld => ?_)
                refine region_take (i := 0) (d := 78) (v := ?_) rfl rfl (by kernel_rfl) (by kernel_rfl) (by kernel_rfl) (fun _ _ _ h => h) (Or.inl ⟨by rfl, ?_⟩) (by assumption) ?_
                rotate_left
                · (intro w hSw; (try dsimp only at hSw); go_simp; first | done | with_reducible rfl)
                try simp only [List.setIfInBounds_toArray, List.set_cons_zero, List.set_cons_succ]
                refine region_take (i := 1) (d := 79) (v := ?_) rfl rfl (by kernel_rfl) (by kernel_rfl) (by kernel_rfl) (fun _ _ _ h => h) (Or.inl ⟨by rfl, ?_⟩) (by assumption) ?_
                rotate_left
                · (intro w hSw; (try dsimp only at hSw); go_simp; first | done | with_reducible rfl)
                try simp only [List.setIfInBounds_toArray, List.set_cons_zero, List.set_cons_succ]
                refine region_take (i := 3) (d := 81) (v := ?_) rfl rfl (by kernel_rfl) (by kernel_rfl) (by kernel_rfl) (fun _ _ _ h => h) (Or.inl ⟨by rfl, ?_⟩) (by assumption) ?_
                rotate_left
                · (intro w hSw; (try dsimp only at hSw); go_simp; first | done | with_reducible rfl)
                try simp only [List.setIfInBounds_toArray, List.set_cons_zero, List.set_cons_succ]
                refine region_take (i := 4) (d := 82) (v := ?_) rfl rfl (by kernel_rfl) (by kernel_rfl) (by kernel_rfl) (fun _ _ _ h => h) (Or.inl ⟨by rfl, ?_⟩) (by assumption) ?_
                rotate_left
                · (intro w hSw; (try dsimp only at hSw); go_simp; first | done | with_reducible rfl)
                try simp only [List.setIfInBounds_toArray, List.set_cons_zero, List.set_cons_succ]
                refine wpAnyH_ready (rs := [2]) (by kernel_rfl) (by simp) ?_
                refine AllReadyH.cons rfl (fun K hK => ?_) AllReadyH.nil
                go_simp
                go_wp2_with ((go_at_call 26; with_reducible refine (has_eq m zp (k : Int) false _ HP1.out hm hp).mono ?_; rintro e wb1 ⟨rfl, B⟩; have h := K7.out.drew.step B; have Sb1 : Hid (wb1.cell? ⟨gp, 0, none⟩ = some (.int .i64 m) ∧ wb1.cell? ⟨gp, 1, none⟩ = some (.int .u64 zp) ∧ wb1.cell? ⟨g, 0, none⟩ = some (.int .i64 m) ∧ wb1.cell? ⟨g, 1, none⟩ = some (.int .u64 z) ∧ wb1.cell? ⟨gd, 0, none⟩ = some (.int .i64 m) ∧ wb1.cell? ⟨gd, 1, none⟩ = some (.int .u64 zd)) := Lib.hid ⟨Kp.c0 h (g := gp) (n := m) (b := zp) (by simp), Kp.c1 h (g := gp) (n := m) (b := zp) (by simp), Kp.c0 h (g := g) (n := m) (b := z) (by simp), Kp.c1 h (g := g) (n := m) (b := z) (by simp), Kp.c0 h (g := gd) (n := m) (b := zd) (by simp), Kp.c1 h (g := gd) (n := m) (b := zd) (by simp)⟩; have Kb1 := Lib.hid h; clear B h K7))
                refine hK.out _ _ Sb1.out (fun hHeld => ?_)
                try simp only [List.setIfInBounds_toArray, List.set_cons_zero, List.set_cons_succ]
                refine wpAnyH_ready (rs := [5]) (by kernel_rfl) (by simp) ?_
                refine AllReadyH.cons rfl (fun K hK => ?_) AllReadyH.nil
                go_simp
                go_wp2_with ((go_at_call 26; with_reducible refine (has_eq m z (k : Int) false _ HR.out hm hz).mono ?_; rintro e wb2 ⟨rfl, B⟩; have h := Kb1.out.step B; have Sb2 : Hid (wb2.cell? ⟨gp, 0, none⟩ = some (.int .i64 m) ∧ wb2.cell? ⟨gp, 1, none⟩ = some (.int .u64 zp) ∧ wb2.cell? ⟨g, 0, none⟩ = some (.int .i64 m) ∧ wb2.cell? ⟨g, 1, none⟩ = some (.int .u64 z) ∧ wb2.cell? ⟨gd, 0, none⟩ = some (.int .i64 m) ∧ wb2.cell? ⟨gd, 1, none⟩ = some (.int .u64 zd)) := Lib.hid ⟨Kp.c0 h (g := gp) (n := m) (b := zp) (by simp), Kp.c1 h (g := gp) (n := m) (b := zp) (by simp), Kp.c0 h (g := g) (n := m) (b := z) (by simp), Kp.c1 h (g := g) (n := m) (b := z) (by simp), Kp.c0 h (g := gd) (n := m) (b := zd) (by simp), Kp.c1 h (g := gd) (n := m) (b := zd) (by simp)⟩; have Kb2 := Lib.hid h; clear B h Kb1))
                refine hK.out _ _ Sb2.out (fun hHeld => ?_)
                try simp only [List.setIfInBounds_toArray, List.set_cons_zero, List.set_cons_succ]
                refine region_take (i := 6) (d := 84) (v := ?_) rfl rfl (by kernel_rfl) (by kernel_rfl) (by kernel_rfl) (fun _ _ _ h => h) (Or.inl ⟨by rfl, ?_⟩) (by assumption) ?_
                rotate_left
                · (intro w hSw; (try dsimp only at hSw); go_simp; first | done | with_reducible rfl)
                try simp only [List.setIfInBounds_toArray, List.set_cons_zero, List.set_cons_succ]
                refine region_take (i := 7) (d := 85) (v := ?_) rfl rfl (by kernel_rfl) (by kernel_rfl) (by kernel_rfl) (fun _ _ _ h => h) (Or.inl ⟨by rfl, ?_⟩) (by assumption) ?_
                rotate_left
                · (intro w hSw; (try dsimp only at hSw); go_simp; first | done | with_reducible rfl)
                try simp only [List.setIfInBounds_toArray, List.set_cons_zero, List.set_cons_succ]
                refine region_take (i := 8) (d := 86) (v := ?_) rfl rfl (by kernel_rfl) (by kernel_rfl) (by kernel_rfl) (fun _ _ _ h => h) (Or.inl ⟨by rfl, ?_⟩) (by assumption) ?_
                rotate_left
                · (intro w hSw; (try dsimp only at hSw); go_simp; first | done | with_reducible rfl)
                try simp only [List.setIfInBounds_toArray, List.set_cons_zero, List.set_cons_succ]
                refine region_take (i := 9) (d := 87) (v := ?_) rfl rfl (by kernel_rfl) (by kernel_rfl) (by kernel_rfl) (fun _ _ _ h => h) (Or.inl ⟨by rfl, ?_⟩) (by assumption) ?_
                rotate_left
                · (intro w hSw; (try dsimp only at hSw); go_simp; first | done | with_reducible rfl)
                try simp only [List.setIfInBounds_toArray, List.set_cons_zero, List.set_cons_succ]
                refine region_take (i := 10) (d := 88) (v := ?_) rfl rfl (by kernel_rfl) (by kernel_rfl) (by kernel_rfl) (fun _ _ _ h => h) (Or.inl ⟨by rfl, ?_⟩) (by assumption) ?_
                rotate_left
                · (intro w hSw; (try dsimp only at hSw); go_simp; first | done | with_reducible rfl)
                try simp only [List.setIfInBounds_toArray, List.set_cons_zero, List.set_cons_succ]
                refine region_take (i := 11) (d := 89) (v := ?_) rfl rfl (by kernel_rfl) (by kernel_rfl) (by kernel_rfl) (fun _ _ _ h => h) (Or.inl ⟨by rfl, ?_⟩) (by assumption) ?_
                rotate_left
                · (intro w hSw; (try dsimp only at hSw); go_simp; first | done | with_reducible rfl)
                try simp only [List.setIfInBounds_toArray, List.set_cons_zero, List.set_cons_succ]
                refine region_take (i := 12) (d := 90) (v := ?_) rfl rfl (by kernel_rfl) (by kernel_rfl) (by kernel_rfl) (fun _ _ _ h => h) (Or.inl ⟨by rfl, ?_⟩) (by assumption) ?_
                rotate_left
                · (intro w hSw; (try dsimp only at hSw); go_simp; first | done | with_reducible rfl)
                try simp only [List.setIfInBounds_toArray, List.set_cons_zero, List.set_cons_succ]
                refine region_take (i := 13) (d := 91) (v := ?_) rfl rfl (by kernel_rfl) (by kernel_rfl) (by kernel_rfl) (fun _ _ _ h => h) (Or.inl ⟨by rfl, ?_⟩) (by assumption) ?_
                rotate_left
                · (intro w hSw; (try dsimp only at hSw); go_simp; first | done | with_reducible rfl)
                try simp only [List.setIfInBounds_toArray, List.set_cons_zero, List.set_cons_succ]
                refine region_take (i := 14) (d := 92) (v := ?_) rfl rfl (by kernel_rfl) (by kernel_rfl) (by kernel_rfl) (fun _ _ _ h => h) (Or.inl ⟨by rfl, ?_⟩) (by assumption) ?_
                rotate_left
                · (intro w hSw; (try dsimp only at hSw); go_simp; first | done | with_reducible rfl)
                try simp only [List.setIfInBounds_toArray, List.set_cons_zero, List.set_cons_succ]
                refine region_take (i := 16) (d := 94) (v := ?_) rfl rfl (by kernel_rfl) (by kernel_rfl) (by kernel_rfl) (fun _ _ _ h => h) (Or.inl ⟨by rfl, ?_⟩) (by assumption) ?_
                rotate_left
                · (intro w hSw; (try dsimp only at hSw); go_simp; first | done | with_reducible rfl)
                try simp only [List.setIfInBounds_toArray, List.set_cons_zero, List.set_cons_succ]
                refine region_take (i := 17) (d := 95) (v := ?_) rfl rfl (by kernel_rfl) (by kernel_rfl) (by kernel_rfl) (fun _ _ _ h => h) (Or.inl ⟨by rfl, ?_⟩) (by assumption) ?_
                rotate_left
                · (intro w hSw; (try dsimp only at hSw); go_simp; first | done | with_reducible rfl)
                try simp only [List.setIfInBounds_toArray, List.set_cons_zero, List.set_cons_succ]
                refine wpAnyH_ready (rs := [15]) (by kernel_rfl) (by simp) ?_
                refine AllReadyH.cons rfl (fun K hK => ?_) AllReadyH.nil
                go_simp
                go_wp2_with ((go_at_call 26; with_reducible refine (has_eq m zd (k : Int) false _ HD1.out hm hd).mono ?_; rintro e wb3 ⟨rfl, B⟩; have h := Kb2.out.step B; have Sb3 : Hid (wb3.cell? ⟨gp, 0, none⟩ = some (.int .i64 m) ∧ wb3.cell? ⟨gp, 1, none⟩ = some (.int .u64 zp) ∧ wb3.cell? ⟨g, 0, none⟩ = some (.int .i64 m) ∧ wb3.cell? ⟨g, 1, none⟩ = some (.int .u64 z) ∧ wb3.cell? ⟨gd, 0, none⟩ = some (.int .i64 m) ∧ wb3.cell? ⟨gd, 1, none⟩ = some (.int .u64 zd)) := Lib.hid ⟨Kp.c0 h (g := gp) (n := m) (b := zp) (by simp), Kp.c1 h (g := gp) (n := m) (b := zp) (by simp), Kp.c0 h (g := g) (n := m) (b := z) (by simp), Kp.c1 h (g := g) (n := m) (b := z) (by simp), Kp.c0 h (g := gd) (n := m) (b := zd) (by simp), Kp.c1 h (g := gd) (n := m) (b := zd) (by simp)⟩; have Kb3 := Lib.hid h; clear B h Kb2))
                refine hK.out _ _ Sb3.out (fun hHeld => ?_)
                try simp only [List.setIfInBounds_toArray, List.set_cons_zero, List.set_cons_succ]
                refine wpAnyH_ready (rs := [18]) (by kernel_rfl) (by simp) ?_
                refine AllReadyH.cons rfl (fun K hK => ?_) AllReadyH.nil
                go_simp
                go_wp2_with ((go_at_call 26; with_reducible refine (has_eq m z (k : Int) false _ HR.out hm hz).mono ?_; rintro e wb4 ⟨rfl, B⟩; have h := Kb3.out.step B; have Sb4 : Hid (wb4.cell? ⟨gp, 0, none⟩ = some (.int .i64 m) ∧ wb4.cell? ⟨gp, 1, none⟩ = some (.int .u64 zp) ∧ wb4.cell? ⟨g, 0, none⟩ = some (.int .i64 m) ∧ wb4.cell? ⟨g, 1, none⟩ = some (.int .u64 z) ∧ wb4.cell? ⟨gd, 0, none⟩ = some (.int .i64 m) ∧ wb4.cell? ⟨gd, 1, none⟩ = some (.int .u64 zd)) := Lib.hid ⟨Kp.c0 h (g := gp) (n := m) (b := zp) (by simp), Kp.c1 h (g := gp) (n := m) (b := zp) (by simp), Kp.c0 h (g := g) (n := m) (b := z) (by simp), Kp.c1 h (g := g) (n := m) (b := z) (by simp), Kp.c0 h (g := gd) (n := m) (b := zd) (by simp), Kp.c1 h (g := gd) (n := m) (b := zd) (by simp)⟩; have Kb4 := Lib.hid h; clear B h Kb3))
                refine hK.out _ _ Sb4.out (fun hHeld => ?_)
                try simp only [List.setIfInBounds_toArray, List.set_cons_zero, List.set_cons_succ]
                refine region_take (i := 19) (d := 97) (v := ?_) rfl rfl (by kernel_rfl) (by kernel_rfl) (by kernel_rfl) (fun _ _ _ h => h) (Or.inl ⟨by rfl, ?_⟩) (by assumption) ?_
                rotate_left
                · (intro w hSw; (try dsimp only at hSw); go_simp; first | done | with_reducible rfl)
                try simp only [List.setIfInBounds_toArray, List.set_cons_zero, List.set_cons_succ]
                refine region_take (i := 20) (d := 98) (v := undef) rfl rfl (by kernel_rfl) (by kernel_rfl) (by kernel_rfl) (fun _ _ _ h => h) (Or.inr ⟨by rfl, rfl⟩) (by assumption) ?_
                try simp only [List.setIfInBounds_toArray, List.set_cons_zero, List.set_cons_succ]
                refine region_take (i := 21) (d := 99) (v := undef) rfl rfl (by kernel_rfl) (by kernel_rfl) (by kernel_rfl) (fun _ _ _ h => h) (Or.inr ⟨by rfl, rfl⟩) (by assumption) ?_
                try simp only [List.setIfInBounds_toArray, List.set_cons_zero, List.set_cons_succ]
                refine region_take (i := 22) (d := 100) (v := undef) rfl rfl (by kernel_rfl) (by kernel_rfl) (by kernel_rfl) (fun _ _ _ h => h) (Or.inr ⟨by rfl, rfl⟩) (by assumption) ?_
                try simp only [List.setIfInBounds_toArray, List.set_cons_zero, List.set_cons_succ]
                refine region_take (i := 23) (d := 101) (v := ?_) rfl rfl (by kernel_rfl) (by kernel_rfl) (by kernel_rfl) (fun _ _ _ h => h) (Or.inl ⟨by rfl, ?_⟩) (by assumption) ?_
                rotate_left
                · (intro w hSw; (try dsimp only at hSw); go_simp; first | done | with_reducible rfl)
                try simp only [List.setIfInBounds_toArray, List.set_cons_zero, List.set_cons_succ]
                refine region_take (i := 24) (d := 102) (v := ?_) rfl rfl (by kernel_rfl) (by kernel_rfl) (by kernel_rfl) (fun _ _ _ h => h) (Or.inl ⟨by rfl, ?_⟩) (by assumption) ?_
                rotate_left
                · (intro w hSw; (try dsimp only at hSw); go_simp; first | done | with_reducible rfl)
                try simp only [List.setIfInBounds_toArray, List.set_cons_zero, List.set_cons_succ]
                refine region_take (i := 25) (d := 103) (v := ?_) rfl rfl (by kernel_rfl) (by kernel_rfl) (by kernel_rfl) (fun _ _ _ h => h) (Or.inl ⟨by rfl, ?_⟩) (by assumption) ?_
                rotate_left
                · (intro w hSw; (try dsimp only at hSw); go_simp; first | done | with_reducible rfl)
                try simp only [List.setIfInBounds_toArray, List.set_cons_zero, List.set_cons_succ]
                refine wpAnyH_done (by kernel_rfl) ?_ _
                all_goals
                  go_wp2
                  go_roundw
                  case rel => exact ⟨k + 1, by push_cast; rfl, by omega, Kb4.out⟩
                  case measure => simp [intOf]; omega
          · have hlt' : decide ((k : Int) < (m : Int)) = false := by simp; omega
            go_wp2_with (first
              | (go_at_call 25; with_reducible refine (blen_any m z _).mono ?_; rintro e7 w7 ⟨rfl, B7⟩; have K7 := Lib.hid (K0.out.step B7); clear B7 K0 c0 c1; have c0 := Kp.c0 K7.out (g := g) (n := m) (b := z) (by simp); have c1 := Kp.c1 K7.out (g := g) (n := m) (b := z) (by simp))
              | (go_at_call 24; with_reducible refine (ball_len m z _ hm hz).mono ?_; rw [HS.out]; rintro e8 w8 ⟨⟨A8, c8, rfl, R8⟩, B8⟩; have K8 := Lib.hid (K7.out.step B8); have HR8 := Lib.hid R8; clear R8 B8)
              | (go_at_call 23; with_reducible refine (ints_same A A8 al _ c c8 _ rfl (HR6.out.below K8.out.bel) HR8.out (by omega)).mono ?_; rintro e9 w9 ⟨rfl, B9⟩; have K9 := Lib.hid (K8.out.step B9); clear B9 c0 c1; have c0 := Kp.c0 K9.out (g := g) (n := m) (b := z) (by simp); have c1 := Kp.c1 K9.out (g := g) (n := m) (b := z) (by simp))
              | (go_at_call 28; with_reducible refine (bcount_any m z _ hm hz).mono ?_; rw [HS.out]; rintro e10 w10 ⟨rfl, B10⟩; have K10 := Lib.hid (K9.out.step B10); clear B10))
            go_ret
            exact ⟨rfl, Below.and HB6.out K10.out.bel⟩
      · have hin' : inn m a2 = false := by simpa using hin
        clear hin
        obtain ⟨oo, ho⟩ : ∃ o : Nat, o = 0 := ⟨0, rfl⟩
        by_cases hg : 0 ≤ a2
        · have kg : decide (0 ≤ a2) = true := decide_eq_true hg
          have kg2 : decide (a2 < (m : Int)) = false := by simp [inn, hg] at hin'; simp; omega
          go_upto_region 14 with (first
            | (go_at_call 27; with_reducible refine (nextV_any m z a _ _ HN.out hm hz (by omega)).mono ?_; rintro e3 w3 ⟨rfl, B3⟩; have K3 := Lib.hid (K0.out.step B3); have HR3 := Lib.hid (HR.out.below B3); clear c0 c1; have c0 := Kp.c0 K3.out (g := g) (n := m) (b := z) (by simp); have c1 := Kp.c1 K3.out (g := g) (n := m) (b := z) (by simp); clear B3)
            | (go_at_call 13; with_reducible refine (put_out m z a2 _ hin' hm hz).mono ?_; rintro e4 w4 ⟨rfl, B4⟩; have h := (K3.out.step B4).more (.cells #[.int .i64 0, .int .u64 0] 26); have HR4 := Lib.hid ((HR3.out.below B4).below ((Below.refl _ _).alloc (Nat.le_refl _) (.cells #[.int .i64 0, .int .u64 0] 26))); clear c0 c1; have c0 := Kp.c0 h (g := g) (n := m) (b := z) (by simp); have c1 := Kp.c1 h (g := g) (n := m) (b := z) (by simp); have K4 := Lib.hid h; clear B4 h)
            | (go_at_call 15; with_reducible refine (del_out m z a2 _ hin' hm hz).mono ?_; rintro e5 w5 ⟨rfl, B5⟩; have h := (K4.out.step B5).more (.cells #[.int .i64 0, .int .u64 0] 26); have HR5 := Lib.hid ((HR4.out.below B5).below ((Below.refl _ _).alloc (Nat.le_refl _) (.cells #[.int .i64 0, .int .u64 0] 26))); clear c0 c1; have c0 := Kp.c0 h (g := g) (n := m) (b := z) (by simp); have c1 := Kp.c1 h (g := g) (n := m) (b := z) (by simp); have K5 := Lib.hid h; clear B5 h)
            | (go_at_call 25; with_reducible refine (blen_any m z _).mono ?_; rintro e6 w6 ⟨rfl, B6⟩; have h := K5.out.step B6; have HR6 := Lib.hid (HR5.out.below B6); have K6 := Lib.hid h; clear B6 h))
          have KL := Lib.hid (show Kp w6 w6 [(g, m, z)] from ⟨Below.refl _ _, K6.out.2⟩)
          have HBW := Lib.hid K6.out.bel
          have HRW := HR6
          clear K6 HR6 K5
          generalize w6 = W at *
          clear HR5 HR4 HR3 K4 K3 c0 c1 K0 HO HR
          go_loopw [16] (fun i wr => i = .int .i64 0 ∧ Kp W wr [(g, m, z)]) (fun i _ => 0)
          case atStart => exact ⟨rfl, KL.out⟩
          case round =>
            obtain ⟨rfl, hkp⟩ := hrel
            clear KL
            have K0 := Lib.hid hkp
            clear hkp
            have c0 := Kp.c0 K0.out (g := g) (n := m) (b := z) (by simp)
            have c1 := Kp.c1 K0.out (g := g) (n := m) (b := z) (by simp)
            by_cases hm0 : 0 < m
            · have kmm : decide ((0 : Int) < (m : Int)) = true := by simp; omega
              go_wp2_with (first
                | (go_at_call 25; with_reducible refine (blen_any m z _).mono ?_; rintro e7 w7 ⟨rfl, B7⟩; have K7 := Lib.hid (K0.out.step B7); clear B7 K0 c0 c1; have c0 := Kp.c0 K7.out (g := g) (n := m) (b := z) (by simp); have c1 := Kp.c1 K7.out (g := g) (n := m) (b := z) (by simp))
                | (go_at_call 24; with_reducible refine (ball_len m z _ hm hz).mono ?_; rw [HS.out]; rintro e8 w8 ⟨⟨A8, c8, rfl, R8⟩, B8⟩; have K8 := Lib.hid (K7.out.step B8); have HR8 := Lib.hid R8; clear R8 B8)
                | (go_at_call 23; with_reducible refine (ints_same A A8 al _ c c8 _ rfl (HRW.out.below K8.out.bel) HR8.out (by omega)).mono ?_; rintro e9 w9 ⟨rfl, B9⟩; have K9 := Lib.hid (K8.out.step B9); clear B9 c0 c1; have c0 := Kp.c0 K9.out (g := g) (n := m) (b := z) (by simp); have c1 := Kp.c1 K9.out (g := g) (n := m) (b := z) (by simp))
                | (go_at_call 28; with_reducible refine (bcount_any m z _ hm hz).mono ?_; rw [HS.out]; rintro e10 w10 ⟨rfl, B10⟩; have K10 := Lib.hid (K9.out.step B10); clear B10))
              go_ret
              exact ⟨rfl, Below.and HBW.out K10.out.bel⟩
            · have kmm : decide ((0 : Int) < (m : Int)) = false := by simp; omega
              go_wp2_with (first
                | (go_at_call 25; with_reducible refine (blen_any m z _).mono ?_; rintro e7 w7 ⟨rfl, B7⟩; have K7 := Lib.hid (K0.out.step B7); clear B7 K0 c0 c1; have c0 := Kp.c0 K7.out (g := g) (n := m) (b := z) (by simp); have c1 := Kp.c1 K7.out (g := g) (n := m) (b := z) (by simp))
                | (go_at_call 24; with_reducible refine (ball_len m z _ hm hz).mono ?_; rw [HS.out]; rintro e8 w8 ⟨⟨A8, c8, rfl, R8⟩, B8⟩; have K8 := Lib.hid (K7.out.step B8); have HR8 := Lib.hid R8; clear R8 B8)
                | (go_at_call 23; with_reducible refine (ints_same A A8 al _ c c8 _ rfl (HRW.out.below K8.out.bel) HR8.out (by omega)).mono ?_; rintro e9 w9 ⟨rfl, B9⟩; have K9 := Lib.hid (K8.out.step B9); clear B9 c0 c1; have c0 := Kp.c0 K9.out (g := g) (n := m) (b := z) (by simp); have c1 := Kp.c1 K9.out (g := g) (n := m) (b := z) (by simp))
                | (go_at_call 28; with_reducible refine (bcount_any m z _ hm hz).mono ?_; rw [HS.out]; rintro e10 w10 ⟨rfl, B10⟩; have K10 := Lib.hid (K9.out.step B10); clear B10))
              go_ret
              exact ⟨rfl, Below.and HBW.out K10.out.bel⟩
        · have kg : decide (0 ≤ a2) = false := decide_eq_false hg
          go_upto_region 14 with (first
            | (go_at_call 27; with_reducible refine (nextV_any m z a _ _ HN.out hm hz (by omega)).mono ?_; rintro e3 w3 ⟨rfl, B3⟩; have K3 := Lib.hid (K0.out.step B3); have HR3 := Lib.hid (HR.out.below B3); clear c0 c1; have c0 := Kp.c0 K3.out (g := g) (n := m) (b := z) (by simp); have c1 := Kp.c1 K3.out (g := g) (n := m) (b := z) (by simp); clear B3)
            | (go_at_call 13; with_reducible refine (put_out m z a2 _ hin' hm hz).mono ?_; rintro e4 w4 ⟨rfl, B4⟩; have h := (K3.out.step B4).more (.cells #[.int .i64 0, .int .u64 0] 26); have HR4 := Lib.hid ((HR3.out.below B4).below ((Below.refl _ _).alloc (Nat.le_refl _) (.cells #[.int .i64 0, .int .u64 0] 26))); clear c0 c1; have c0 := Kp.c0 h (g := g) (n := m) (b := z) (by simp); have c1 := Kp.c1 h (g := g) (n := m) (b := z) (by simp); have K4 := Lib.hid h; clear B4 h)
            | (go_at_call 15; with_reducible refine (del_out m z a2 _ hin' hm hz).mono ?_; rintro e5 w5 ⟨rfl, B5⟩; have h := (K4.out.step B5).more (.cells #[.int .i64 0, .int .u64 0] 26); have HR5 := Lib.hid ((HR4.out.below B5).below ((Below.refl _ _).alloc (Nat.le_refl _) (.cells #[.int .i64 0, .int .u64 0] 26))); clear c0 c1; have c0 := Kp.c0 h (g := g) (n := m) (b := z) (by simp); have c1 := Kp.c1 h (g := g) (n := m) (b := z) (by simp); have K5 := Lib.hid h; clear B5 h)
            | (go_at_call 25; with_reducible refine (blen_any m z _).mono ?_; rintro e6 w6 ⟨rfl, B6⟩; have h := K5.out.step B6; have HR6 := Lib.hid (HR5.out.below B6); have K6 := Lib.hid h; clear B6 h))
          have KL := Lib.hid (show Kp (w5.alloc (.cells #[.int .i64 0, .int .u64 0] 26)) (w5.alloc (.cells #[.int .i64 0, .int .u64 0] 26)) [(g, m, z)] from ⟨Below.refl _ _, K5.out.2⟩)
          have HBW := Lib.hid K5.out.bel
          have HRW := HR5
          clear K5 HR5
          generalize w5.alloc (.cells #[.int .i64 0, .int .u64 0] 26) = W at *
          clear HR4 HR3 K4 K3 c0 c1 K0 HO HR
          go_loopw [16] (fun i wr => i = .int .i64 0 ∧ Kp W wr [(g, m, z)]) (fun i _ => 0)
          case atStart => exact ⟨rfl, KL.out⟩
          case round =>
            obtain ⟨rfl, hkp⟩ := hrel
            clear KL
            have K0 := Lib.hid hkp
            clear hkp
            have c0 := Kp.c0 K0.out (g := g) (n := m) (b := z) (by simp)
            have c1 := Kp.c1 K0.out (g := g) (n := m) (b := z) (by simp)
            by_cases hm0 : 0 < m
            · have kmm : decide ((0 : Int) < (m : Int)) = true := by simp; omega
              go_wp2_with (first
                | (go_at_call 25; with_reducible refine (blen_any m z _).mono ?_; rintro e7 w7 ⟨rfl, B7⟩; have K7 := Lib.hid (K0.out.step B7); clear B7 K0 c0 c1; have c0 := Kp.c0 K7.out (g := g) (n := m) (b := z) (by simp); have c1 := Kp.c1 K7.out (g := g) (n := m) (b := z) (by simp))
                | (go_at_call 24; with_reducible refine (ball_len m z _ hm hz).mono ?_; rw [HS.out]; rintro e8 w8 ⟨⟨A8, c8, rfl, R8⟩, B8⟩; have K8 := Lib.hid (K7.out.step B8); have HR8 := Lib.hid R8; clear R8 B8)
                | (go_at_call 23; with_reducible refine (ints_same A A8 al _ c c8 _ rfl (HRW.out.below K8.out.bel) HR8.out (by omega)).mono ?_; rintro e9 w9 ⟨rfl, B9⟩; have K9 := Lib.hid (K8.out.step B9); clear B9 c0 c1; have c0 := Kp.c0 K9.out (g := g) (n := m) (b := z) (by simp); have c1 := Kp.c1 K9.out (g := g) (n := m) (b := z) (by simp))
                | (go_at_call 28; with_reducible refine (bcount_any m z _ hm hz).mono ?_; rw [HS.out]; rintro e10 w10 ⟨rfl, B10⟩; have K10 := Lib.hid (K9.out.step B10); clear B10))
              go_ret
              exact ⟨rfl, Below.and HBW.out K10.out.bel⟩
            · have kmm : decide ((0 : Int) < (m : Int)) = false := by simp; omega
              go_wp2_with (first
                | (go_at_call 25; with_reducible refine (blen_any m z _).mono ?_; rintro e7 w7 ⟨rfl, B7⟩; have K7 := Lib.hid (K0.out.step B7); clear B7 K0 c0 c1; have c0 := Kp.c0 K7.out (g := g) (n := m) (b := z) (by simp); have c1 := Kp.c1 K7.out (g := g) (n := m) (b := z) (by simp))
                | (go_at_call 24; with_reducible refine (ball_len m z _ hm hz).mono ?_; rw [HS.out]; rintro e8 w8 ⟨⟨A8, c8, rfl, R8⟩, B8⟩; have K8 := Lib.hid (K7.out.step B8); have HR8 := Lib.hid R8; clear R8 B8)
                | (go_at_call 23; with_reducible refine (ints_same A A8 al _ c c8 _ rfl (HRW.out.below K8.out.bel) HR8.out (by omega)).mono ?_; rintro e9 w9 ⟨rfl, B9⟩; have K9 := Lib.hid (K8.out.step B9); clear B9 c0 c1; have c0 := Kp.c0 K9.out (g := g) (n := m) (b := z) (by simp); have c1 := Kp.c1 K9.out (g := g) (n := m) (b := z) (by simp))
                | (go_at_call 28; with_reducible refine (bcount_any m z _ hm hz).mono ?_; rw [HS.out]; rintro e10 w10 ⟨rfl, B10⟩; have K10 := Lib.hid (K9.out.step B10); clear B10))
              go_ret
              exact ⟨rfl, Below.and HBW.out K10.out.bel⟩
end Go.Proofs.Ytlgmomjofhbggaa
