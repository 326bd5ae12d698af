/- The walks of package lease: each function returns what its plain twin (LeaseM) says. Conditions: numbers fit their kinds; up to 200 ticks. -/
import Derived.Test.YtppbjcjnheamnaaProg
import Derived.Test.YtppbjcjnheamnaaLib
import Derived.Test.YtppbjcjnheamnaaLeaseM
set_option linter.unusedVariables false
set_option linter.unusedSimpArgs false
namespace Go.Proofs.Ytppbjcjnheamnaa
open Go.RowKit

theorem drift_yes (d : Int) (w : World) (h0 : 0 ≤ d) (h1 : d < 1000) : Calls Try.prog 17 #[.int .i64 d] w fun e w' => e = .returned (.bool true) ∧ w = w' := by
  go_enter Try.func17, Try.ntmps17
  go_wp2
  go_ret
  exact ⟨rfl, rfl⟩
theorem drift_no (d : Int) (w : World) (h : d < 0 ∨ 1000 ≤ d) : Calls Try.prog 17 #[.int .i64 d] w fun e w' => e = .returned (.bool false) ∧ w = w' := by
  rcases h with h | h
  · go_enter Try.func17, Try.ntmps17
    go_wp2
    go_ret
    exact ⟨rfl, rfl⟩
  · have h0 : 0 ≤ d := by omega
    have h1 : decide (d < 1000) = false := by simp; omega
    go_enter Try.func17, Try.ntmps17
    go_wp2
    go_ret
    exact ⟨rfl, rfl⟩

theorem waitV_wrap (n d : Int) (h0 : 0 ≤ n) (h1 : n ≤ 1099511627776) (h2 : 0 ≤ d) (h3 : d < 1000) :
    wrap64 (wrap64 ((wrap64 (n * (1000 + d))).tdiv (1000 - d)) + 1) = waitV n d := by
  have a0 : 0 ≤ n * (1000 + d) := Int.mul_nonneg h0 (by omega)
  have a1 : n * (1000 + d) ≤ 1099511627776 * 2000 := Int.mul_le_mul h1 (by omega) (by omega) (by omega)
  have e1 : wrap64 (n * (1000 + d)) = n * (1000 + d) := by unfold wrap64; omega
  rw [e1, Int.tdiv_eq_ediv_of_nonneg a0]
  have b0 : 0 ≤ n * (1000 + d) / (1000 - d) := Int.ediv_nonneg a0 (by omega)
  have b1 : n * (1000 + d) / (1000 - d) ≤ n * (1000 + d) := Int.ediv_le_self _ a0
  unfold waitV
  generalize n * (1000 + d) / (1000 - d) = q at *
  unfold wrap64; omega
theorem wait_ok (n d : Int) (w : World) (h0 : 0 ≤ n) (h1 : n ≤ 1099511627776) (h2 : 0 ≤ d) (h3 : d < 1000) :
    Calls Try.prog 11 #[.int .i64 n, .int .i64 d] w fun e w' => e = .returned (.tuple #[.int .i64 (waitV n d), .int .i64 0]) ∧ w = w' := by
  rw [← waitV_wrap n d h0 h1 h2 h3]
  have g0 : decide (n < 0) = false := by simp; omega
  have g1 : decide (1099511627776 < n) = false := by simp; omega
  go_enter Try.func11, Try.ntmps11
  go_wp2
  go_ret2
  exact ⟨rfl, rfl⟩
theorem wait_bad (n d : Int) (w : World) (h : n < 0 ∨ 1099511627776 < n ∨ d < 0 ∨ 1000 ≤ d) :
    Calls Try.prog 11 #[.int .i64 n, .int .i64 d] w fun e w' => e = .returned (.tuple #[.int .i64 0, .int .i64 1]) ∧ w = w' := by
  by_cases a : n < 0
  · go_enter Try.func11, Try.ntmps11
    go_wp2
    go_ret2
    exact ⟨rfl, rfl⟩
  · have g0 : decide (n < 0) = false := by simp; omega
    by_cases b : 1099511627776 < n
    · go_enter Try.func11, Try.ntmps11
      go_wp2
      go_ret2
      exact ⟨rfl, rfl⟩
    · have g1 : decide (1099511627776 < n) = false := by simp; omega
      go_enter Try.func11, Try.ntmps11
      go_wp2_with (go_at_call 17; refine (drift_no _ _ (by omega)).mono ?_; rintro e w' ⟨rfl, rfl⟩)
      go_ret2
      exact ⟨rfl, rfl⟩
/-- How long, and the error's number. -/
def waitR (n d : Int) : Int := if waitOk n d = true then waitV n d else 0
def waitE (n d : Int) : Int := if waitOk n d = true then 0 else 1
theorem wait_any (n d : Int) (w : World) :
    Calls Try.prog 11 #[.int .i64 n, .int .i64 d] w fun e w' => e = .returned (.tuple #[.int .i64 (waitR n d), .int .i64 (waitE n d)]) ∧ w = w' := by
  unfold waitR waitE
  by_cases h : waitOk n d = true
  · rw [if_pos h, if_pos h]
    have := waitOk_iff.1 h
    exact wait_ok n d w this.1 this.2.1 this.2.2.1 this.2.2.2
  · rw [if_neg h, if_neg h]
    refine wait_bad n d w ?_
    rw [waitOk_iff] at h
    omega

theorem set_any (a : Addr) (n x : Int) (w : World) (hc : w.cell? a = some (.int .i64 x)) (hf : w.frozen? a = false) :
    Calls Try.prog 15 #[.pointer (some a), .int .i64 n] w fun e w' => e = .returned (.tuple #[]) ∧ w.setCell a (.int .i64 (max n 0)) = w' := by
  go_enter Try.func15, Try.ntmps15
  go_wp2
  all_goals
    go_end0
    exact ⟨rfl, setc (by omega)⟩
theorem tick_any (a : Addr) (x : Int) (w : World) (hc : w.cell? a = some (.int .i64 x)) (hf : w.frozen? a = false) (h0 : 0 ≤ x) (h1 : x ≤ 9223372036854775807) :
    Calls Try.prog 16 #[.pointer (some a)] w fun e w' => e = .returned (.tuple #[]) ∧ w.setCell a (.int .i64 (max (x - 1) 0)) = w' := by
  go_enter Try.func16, Try.ntmps16
  go_wp2
  all_goals
    go_end0
    exact ⟨rfl, setc (by omega)⟩
theorem left_any (a : Addr) (x : Int) (w : World) (hc : w.cell? a = some (.int .i64 x)) :
    Calls Try.prog 14 #[.pointer (some a)] w fun e w' => e = .returned (.int .i64 x) ∧ w = w' := by
  go_enter Try.func14, Try.ntmps14
  go_wp2
  go_ret
  exact ⟨rfl, rfl⟩
theorem on_any (a : Addr) (x : Int) (w : World) (hc : w.cell? a = some (.int .i64 x)) :
    Calls Try.prog 13 #[.pointer (some a)] w fun e w' => e = .returned (.bool (decide (0 < x))) ∧ w = w' := by
  go_enter Try.func13, Try.ntmps13
  go_wp2
  go_ret
  exact ⟨rfl, rfl⟩

theorem clos (b0 b1 : Nat) (A : Option Addr) (n c : Nat) (d : Int) (fast : Bool) (xs : List Bool) (w : World)
   (hn : xs.length = n) (hn2 : n ≤ 200)
   (hx : Rd w A (xs.map Value.bool)) (c0 : w.cell? ⟨b0, 0, none⟩ = some (.slice A n c)) (c1 : w.cell? ⟨b1, 0, none⟩ = some (.int .i64 d)) (h0 : 0 ≤ d) (h1 : d < 1000) :
    Calls Try.prog 18 #[.bool fast, .pointer (some ⟨b0, 0, none⟩), .pointer (some ⟨b1, 0, none⟩)] w fun e w' => e = .returned (.bool (ahead d fast xs 0)) ∧ w = w' := by
  have Hn := Lib.hid hn; clear hn
  have Hx := Lib.hid hx; clear hx
  go_enter Try.func18, Try.ntmps18
  go_wp2
  go_loop [5, 6, 11] (fun l m i => ∃ (k : Nat) (lo now : Int), k ≤ n ∧ i = .int .i64 k ∧ l = .int .i64 lo ∧ m = .int .i64 now ∧ lo ≤ now ∧ lo ≤ 0 ∧ -2000 * k ≤ lo ∧ now ≤ 2000 * k ∧ Hid (ahead d fast (xs.drop k) (now - lo) = ahead d fast xs 0)) (fun _ _ i => n - (intOf i).toNat)
  case atStart => exact ⟨0, 0, 0, by omega, rfl, rfl, rfl, by omega, by omega, by omega, by omega, rfl⟩
  case round =>
    obtain ⟨k, lo, now, hk, rfl, rfl, rfl, hl1, hl2, hl3, hl4, HA⟩ := hrel
    by_cases hlt : k < n
    · have hk2 : k < xs.length := by rw [Hn.out]; exact hlt
      obtain ⟨b, o, HAd, hck⟩ := Hx.out.bool k hk2
      have hd : xs.drop k = xs[k] :: xs.drop (k + 1) := List.drop_eq_getElem_cons hk2
      have HA2 := HA.out
      rw [hd] at HA2
      clear hd HA
      generalize xs[k] = t at *
      obtain ⟨ts, hts⟩ : ∃ ts, xs.drop (k + 1) = ts := ⟨_, rfl⟩
      rw [hts] at HA2
      have HTS := Lib.hid hts; clear hts
      have HA3 := Lib.hid HA2; clear HA2
      subst HAd
      cases fast <;> cases t <;> go_wp2
      all_goals first
        | (go_ret
           exact ⟨ret_bool (HA3.out ▸ (ahead_no rfl (by simp [stepA]; omega)).symm), rfl⟩)
        | (go_round
           case rel =>
             refine ⟨k + 1, _, _, by omega, by go_num, rfl, rfl, ?_, ?_, ?_, ?_, ?_⟩
             · omega
             · omega
             · omega
             · omega
             · show _ = _
               rw [← HA3.out, HTS.out]
               refine Eq.symm (ahead_on rfl ?_ ?_) <;> simp [stepA] <;> omega
           case measure => simp [intOf]; omega)
    · have hkn : k = n := by omega
      subst hkn
      have HA2 := HA.out
      rw [List.drop_of_length_le (by rw [Hn.out]; omega)] at HA2
      have HA3 := Lib.hid HA2; clear HA2 HA
      go_wp2
      go_ret
      exact ⟨ret_bool (HA3.out ▸ rfl), rfl⟩

theorem together_in (A : Option Addr) (n c : Nat) (d : Int) (xs : List Bool) (w : World) (hn : xs.length = n) (hn2 : n ≤ 200) (hx : Rd w A (xs.map Value.bool)) (h0 : 0 ≤ d) (h1 : d < 1000) :
    Calls Try.prog 12 #[.slice A n c, .int .i64 d] w fun e w' => e = .returned (.bool (ahead d true xs 0 && ahead d false xs 0)) ∧ Below w.heap.size w w' := by
  have hmf : ∀ (fn : Fn) (first cap : Array Value) (w : World), (Instr.makeFunc fn first cap).run Try.prog w = .ok (.func fn first cap) w := fun _ _ _ _ => rfl
  have hbel : Below w.heap.size w ((w.alloc (.cells #[.slice A n c] 22)).alloc (.cells #[.int .i64 d] 2)) := ((Below.refl _ _).alloc (Nat.le_refl _) _).alloc (by simp) _
  have Hx := Lib.hid (hx.below hbel); clear hx
  have Hn := Lib.hid hn; clear hn
  generalize e1 : ahead d true xs 0 = p
  have E1 := Lib.hid e1; clear e1
  generalize e2 : ahead d false xs 0 = q
  have E2 := Lib.hid e2; clear e2
  have c0 : ((w.alloc (.cells #[.slice A n c] 22)).alloc (.cells #[.int .i64 d] 2)).cell? ⟨w.heap.size, 0, none⟩ = some (.slice A n c) := by simp [go_sem]
  have c1 : ((w.alloc (.cells #[.slice A n c] 22)).alloc (.cells #[.int .i64 d] 2)).cell? ⟨w.heap.size + 1, 0, none⟩ = some (.int .i64 d) := by simp [go_sem]
  go_enter Try.func12, Try.ntmps12
  cases p
  · go_wp2_with (first
      | (go_at_call 17; refine (drift_yes _ _ h0 h1).mono ?_; rintro e w' ⟨rfl, rfl⟩)
      | (go_at_call 18; refine (clos _ _ A n c d _ xs _ Hn.out hn2 Hx.out c0 c1 h0 h1).mono ?_; rintro e w' ⟨rfl, rfl⟩; simp only [E1.out, E2.out]))
    go_ret
    exact ⟨rfl, hbel⟩
  · go_wp2_with (first
      | (go_at_call 17; refine (drift_yes _ _ h0 h1).mono ?_; rintro e w' ⟨rfl, rfl⟩)
      | (go_at_call 18; refine (clos _ _ A n c d _ xs _ Hn.out hn2 Hx.out c0 c1 h0 h1).mono ?_; rintro e w' ⟨rfl, rfl⟩; simp only [E1.out, E2.out]))
    go_ret
    exact ⟨rfl, hbel⟩
theorem together_out (A : Option Addr) (n c : Nat) (d : Int) (w : World) (h : d < 0 ∨ 1000 ≤ d) :
    Calls Try.prog 12 #[.slice A n c, .int .i64 d] w fun e w' => e = .returned (.bool false) ∧ Below w.heap.size w w' := by
  have hbel : Below w.heap.size w ((w.alloc (.cells #[.slice A n c] 22)).alloc (.cells #[.int .i64 d] 2)) := ((Below.refl _ _).alloc (Nat.le_refl _) _).alloc (by simp) _
  go_enter Try.func12, Try.ntmps12
  go_wp2_with (go_at_call 17; refine (drift_no _ _ h).mono ?_; rintro e w' ⟨rfl, rfl⟩)
  go_ret
  exact ⟨rfl, hbel⟩
theorem together_any (A : Option Addr) (n c : Nat) (d : Int) (xs : List Bool) (w : World) (hn : xs.length = n) (hn2 : n ≤ 200) (hx : Rd w A (xs.map Value.bool)) :
    Calls Try.prog 12 #[.slice A n c, .int .i64 d] w fun e w' => e = .returned (.bool (tog xs d)) ∧ Below w.heap.size w w' := by
  unfold tog
  by_cases h : inD d = true
  · rw [h]
    exact together_in A n c d xs w hn hn2 hx (inD_iff.1 h).1 (inD_iff.1 h).2
  · rw [show inD d = false by simpa using h]
    refine together_out A n c d w ?_
    rw [inD_iff] at h
    omega
end Go.Proofs.Ytppbjcjnheamnaa
