/- The walk of the law MirrorElder: it returns true. Conditions: as its arguments are read. -/
import Derived.Test.YtgmehcefmoleoaaMirL1
set_option linter.unusedVariables false
set_option linter.unusedSimpArgs false
namespace Go.Proofs.Ytgmehcefmoleoaa
open Go.RowKit

/-- The numbers of a slice of int64. -/
theorem is_i64s {w : World} {A : Option Addr} {n c by_ : Nat} (h : Sh.Is w (.slice by_ (.int .i64)) [.slice A n c]) :
    ∃ xs : List Int, xs.length = n ∧ c * by_ ≤ 140737488351232 ∧ n ≤ c ∧ Rd w A (xs.map (Value.int .i64)) ∧ ∀ x ∈ xs, -9223372036854775808 ≤ x ∧ x ≤ 9223372036854775807 := by
  obtain ⟨A', n', c', els, he, hl, hnc, hc, hr, hel⟩ := h
  simp only [List.cons.injEq, Value.slice.injEq, and_true] at he
  obtain ⟨rfl, rfl, rfl⟩ := he
  obtain ⟨ys, rfl, has⟩ := exists_map (f := fun x : Int => [Value.int .i64 x]) (p := fun x => -9223372036854775808 ≤ x ∧ x ≤ 9223372036854775807) els (fun el hel' => by
    obtain ⟨x, rfl, hx⟩ := (hel el hel').2
    exact ⟨x, rfl, bd_i64 hx⟩)
  refine ⟨ys, by simpa using hl, hc, hnc, ?_, has⟩
  rwa [show (ys.map fun x : Int => [Value.int .i64 x]).flatten = ys.map (Value.int .i64) by clear has hl hel hr; induction ys <;> simp_all] at hr

/-- The law's state: how far it is, and the version. -/
structure ElderRel (n : Nat) (w wr : World) (i : Value) (k : Nat) (le ls : Int) : Prop where
  i : i = .int .i64 k
  le0 : 0 ≤ le
  le1 : le ≤ 9223372036854775807
  ls0 : 0 ≤ ls
  ls1 : ls ≤ 9223372036854775807
  blk : Blk wr w.heap.size #[.int .i64 le, .int .i64 ls] 44
  bel : Below w.heap.size w wr
  k : k ≤ 100

set_option maxHeartbeats 2000000 in
set_option maxRecDepth 100000 in
theorem elder_walk (a0 : Array Value) (a1 : Option Addr) (n1 c1 : Nat) (a2 : Option Addr) (n2 c2 : Nat) (w : World) (b0 : Sh.Is w (.pair (.int .i64) (.pair (.int .i64) .unit)) a0.toList) (b1 : Sh.Is w (.slice 8 (.int .i64)) [.slice a1 n1 c1]) (b2 : Sh.Is w (.slice 8 (.int .i64)) [.slice a2 n2 c2]) :
    Calls Try.prog 6 #[.agg a0, .slice a1 n1 c1, .slice a2 n2 c2] w fun e w' => e = .returned (.bool true) ∧ Below w.heap.size w w' := by
  obtain ⟨le, ls, rfl, hle, hls⟩ := is_version b0
  obtain ⟨es, el, _, _, er, eb⟩ := is_i64s b1
  obtain ⟨ss, sl, _, _, sr, sb⟩ := is_i64s b2
  clear b0 b1 b2
  have HEL := Lib.hid el; clear el
  have HSL := Lib.hid sl; clear sl
  have HER := Lib.hid er; clear er
  have HSR := Lib.hid sr; clear sr
  have HEB := Lib.hid eb; clear eb
  have HSB := Lib.hid sb; clear sb
  go_enter Try.func6, Try.ntmps6
  go_wp2_with fail
  refine (awake_any _).mono ?_
  rintro e1 w1 ⟨rfl, B1⟩
  have V1 : Blk w1 w.heap.size #[.int .i64 le, .int .i64 ls] 44 := (Blk.new w _ _).upd (Upd.of_below (S := fun _ => False) B1) (fun h => h)
  have HB := Lib.hid (((Below.refl _ w).alloc (Nat.le_refl _) _).trans (B1.mono (by simp))); clear B1
  have HV := Lib.hid V1
  have v0 : w1.cell? ⟨w.heap.size, 0, none⟩ = some (.int .i64 le) := V1.cell 0
  have v1 : w1.cell? ⟨w.heap.size, 1, none⟩ = some (.int .i64 ls) := V1.cell 1
  clear V1
  by_cases g0 : le < 0
  · have k0 : decide (le < 0) = true := by simpa using g0
    go_wp2_with fail
    go_ret
    exact ⟨rfl, HB.out⟩
  by_cases g1 : ls < 0
  · have k0 : decide (le < 0) = false := by simpa using g0
    have k1 : decide (ls < 0) = true := by simpa using g1
    go_wp2_with fail
    go_ret
    exact ⟨rfl, HB.out⟩
  have k0 : decide (le < 0) = false := by simpa using g0
  have k1 : decide (ls < 0) = false := by simpa using g1
  go_wp2_with fail
  go_loopw [7] (fun i wr => ∃ (k : Nat) (le ls : Int), ElderRel n1 w wr i k le ls) (fun i _ => 100 - (intOf i).toNat)
  case atStart => exact ⟨0, le, ls, rfl, by omega, hle.2, by omega, hls.2, HV.out, HB.out, by omega⟩
  case round =>
    clear HV v0 v1 HB k0 k1 g0 g1 hle hls
    obtain ⟨k, pe, ps, rfl, h0, h1, h2, h3, hblk, hbel, hk⟩ := hrel
    have HB := Lib.hid hbel; clear hbel
    have HV := Lib.hid hblk
    have v0 : wr.cell? ⟨w.heap.size, 0, none⟩ = some (.int .i64 pe) := hblk.cell 0
    have v1 : wr.cell? ⟨w.heap.size, 1, none⟩ = some (.int .i64 ps) := hblk.cell 1
    clear hblk
    by_cases hlt : k < n1
    · by_cases hlt2 : k < n2
      · by_cases hlt3 : k < 100
        · have hk1 : k < es.length := by rw [HEL.out]; exact hlt
          have hk2 : k < ss.length := by rw [HSL.out]; exact hlt2
          obtain ⟨eb, eo, rfl, ec⟩ := (HER.out.below HB.out).at_ k hk1
          obtain ⟨sb, so, rfl, sc⟩ := (HSR.out.below HB.out).at_ k hk2
          have he := HEB.out _ (List.getElem_mem hk1)
          have hs := HSB.out _ (List.getElem_mem hk2)
          generalize es[k] = e at *
          generalize ss[k] = s at *
          have i1 : (k : Int) < (n1 : Int) := by omega
          have i2 : (k : Int) < (n2 : Int) := by omega
          have i0 : (0 : Int) ≤ (k : Int) := by omega
          have j3 : decide ((k : Int) < 100) = true := by simp; omega
          clear hk1 hk2 HEB HSB
          go_wp2_with fail
          go_quiet (fail)
          go_wp2_with fail
          have hx : (nextM pe ps e s = 1 ∧ pe ≤ e ∧ (e = pe → ps < s) ∧ 1 ≤ s) ∨ (nextM pe ps e s ≠ 1 ∧ (e < pe → nextM pe ps e s = 0)) := by
            unfold nextM
            (repeat' split) <;> omega
          refine (next_any pe ps e s _ ⟨by omega, h1⟩ ⟨by omega, h3⟩ he hs).mono ?_
          rintro er w2 ⟨rfl, B2⟩
          have V2 := (HV.out.drewN nq).upd (Upd.of_below (S := fun _ => False) B2) (fun h => h)
          have u0 : w2.cell? ⟨w.heap.size, 0, none⟩ = some (.int .i64 pe) := V2.cell 0
          have u1 : w2.cell? ⟨w.heap.size, 1, none⟩ = some (.int .i64 ps) := V2.cell 1
          have f0 := V2.frozen 0
          have f1 := V2.frozen 1
          have HB2 := Lib.hid ((pw_drewN HB.out nq).trans (B2.mono HB.out.size))
          have HV2 := Lib.hid V2
          clear B2 V2 HV
          generalize nextM pe ps e s = x at *
          rcases hx with ⟨rfl, x1, x2, x3⟩ | ⟨x1, x2⟩
          · have t1 : decide (e < pe) = false := by simp; omega
            have t2 : ¬ s < 1 := by omega
            have t3 : decide (s < 1) = false := by simp; omega
            have X2 := Lib.hid x2; clear x2
            have n2 : nextM e s e s = 2 := by unfold nextM; simp
            by_cases hee : e = pe
            · have hps := X2.out hee
              have t4 : (e == pe) = true := by simpa using hee
              have t5 : decide (s ≤ ps) = false := by simp; omega
              have HE := Lib.hid hee; clear hee
              go_wp2_with (go_at_call 22; refine (next_any e s e s _ he hs he hs).mono ?_; rintro er w3 ⟨rfl, B3⟩; have V3 := (HV2.out).upd (Upd.of_below (S := fun _ => False) B3) (fun h => h); have y0 : w3.cell? ⟨w.heap.size, 0, none⟩ = some (.int .i64 pe) := V3.cell 0; have y1 : w3.cell? ⟨w.heap.size, 1, none⟩ = some (.int .i64 ps) := V3.cell 1; have y2 := V3.frozen 0; have y3 := V3.frozen 1; have HB3 := Lib.hid B3; have HV3 := Lib.hid V3; clear B3 V3; simp only [n2])
              go_roundw
              case rel => exact ⟨k + 1, e, s, by go_num, by omega, he.2, by omega, hs.2, (HV3.out.set 0 _).set 1 _, ((HB2.out.trans (HB3.out.mono HB2.out.size)).setCell (Nat.le_refl _) _).setCell (Nat.le_refl _) _, by omega⟩
              case measure => simp [intOf]; omega

            · have t4 : (e == pe) = false := by simpa using hee
              go_wp2_with (go_at_call 22; refine (next_any e s e s _ he hs he hs).mono ?_; rintro er w3 ⟨rfl, B3⟩; have V3 := (HV2.out).upd (Upd.of_below (S := fun _ => False) B3) (fun h => h); have y0 : w3.cell? ⟨w.heap.size, 0, none⟩ = some (.int .i64 pe) := V3.cell 0; have y1 : w3.cell? ⟨w.heap.size, 1, none⟩ = some (.int .i64 ps) := V3.cell 1; have y2 := V3.frozen 0; have y3 := V3.frozen 1; have HB3 := Lib.hid B3; have HV3 := Lib.hid V3; clear B3 V3; simp only [n2])
              go_roundw
              case rel => exact ⟨k + 1, e, s, by go_num, by omega, he.2, by omega, hs.2, (HV3.out.set 0 _).set 1 _, ((HB2.out.trans (HB3.out.mono HB2.out.size)).setCell (Nat.le_refl _) _).setCell (Nat.le_refl _) _, by omega⟩
              case measure => simp [intOf]; omega

          · have t2 : (x == 1) = false := by simpa using x1
            by_cases hee : e < pe
            · obtain rfl := x2 hee
              have t1 : decide (e < pe) = true := by simpa using hee
              go_wp2_with fail
              go_roundw
              case rel => exact ⟨k + 1, pe, ps, by go_num, h0, h1, h2, h3, HV2.out, HB2.out, by omega⟩
              case measure => simp [intOf]; omega
            · have t1 : decide (e < pe) = false := by simpa using hee
              clear x2
              go_wp2_with fail
              go_roundw
              case rel => exact ⟨k + 1, pe, ps, by go_num, h0, h1, h2, h3, HV2.out, HB2.out, by omega⟩
              case measure => simp [intOf]; omega
        · have j3 : decide ((k : Int) < 100) = false := by simp; omega
          go_wp2_with fail
          go_ret
          exact ⟨rfl, HB.out⟩
      · have j2 : decide (k < n2) = false := by simp; omega
        go_wp2_with fail
        go_ret
        exact ⟨rfl, HB.out⟩
    · have j1 : decide (k < n1) = false := by simp; omega
      go_wp2_with fail
      go_ret
      exact ⟨rfl, HB.out⟩
end Go.Proofs.Ytgmehcefmoleoaa
