/- The walks of the document's rows of places. No condition but sizes. -/
import Derived.Test.YtlgmomjofhbggaaBitL5
set_option linter.unusedVariables false
set_option linter.unusedSimpArgs false
namespace Go.Proofs.Ytlgmomjofhbggaa
open Go.RowKit

/-- A row of the document's: how many places, and of each whether it is marked. -/
def rf (n b : Nat) : List Value := .int .i64 (n : Int) :: (List.range 64).map fun k => Value.bool (b.testBit k)
theorem rf_len (n b : Nat) : (rf n b).length = 65 := by simp [rf]
theorem rf_one (n b : Nat) : ∀ v ∈ rf n b, v.oneCell' = true := by
  intro v hv
  simp only [rf, List.mem_cons, List.mem_map, List.mem_range] at hv
  rcases hv with rfl | ⟨k, _, rfl⟩ <;> rfl
theorem rf_get (n b : Nat) {k : Nat} (hk : k < 64) : (rf n b)[1 + k]? = some (.bool (b.testBit k)) := by
  rw [Nat.add_comm]
  simp [rf, hk]
theorem rf_put (n b : Nat) {k : Nat} (hk : k < 64) : (rf n b).set (1 + k) (.bool true) = rf n (put b k) := by
  apply List.ext_getElem?
  intro j
  rw [List.getElem?_set, rf_len]
  by_cases hj : 1 + k = j
  · subst hj
    rw [if_pos rfl, if_pos (by omega), rf_get _ _ hk, testBit_put]; simp
  · rw [if_neg hj]
    cases j with
    | zero => rfl
    | succ j =>
      by_cases h64 : j < 64
      · rw [Nat.add_comm j, rf_get _ _ h64, rf_get _ _ h64, testBit_put, decide_eq_false (by omega), Bool.or_false]
      · rw [List.getElem?_eq_none (by rw [rf_len]; omega), List.getElem?_eq_none (by rw [rf_len]; omega)]
theorem rf_del (n b : Nat) {k : Nat} (hk : k < 64) : (rf n b).set (1 + k) (.bool false) = rf n (del b k) := by
  apply List.ext_getElem?
  intro j
  rw [List.getElem?_set, rf_len]
  by_cases hj : 1 + k = j
  · subst hj
    rw [if_pos rfl, if_pos (by omega), rf_get _ _ hk, testBit_del]; simp
  · rw [if_neg hj]
    cases j with
    | zero => rfl
    | succ j =>
      by_cases h64 : j < 64
      · rw [Nat.add_comm j, rf_get _ _ h64, rf_get _ _ h64, testBit_del, decide_eq_false (by omega), Bool.not_false, Bool.and_true]
      · rw [List.getElem?_eq_none (by rw [rf_len]; omega), List.getElem?_eq_none (by rw [rf_len]; omega)]
abbrev rT : TypeId := 30
theorem info65 : (Try.prog.info? rT).map (·.size) = some 65 := by kernel_rfl
/-- A document's row that lies in a block. -/
abbrev RB (W : World) (g n b : Nat) : Prop := Blk W g (rf n b).toArray rT
theorem RB.c0 {W : World} {g n b : Nat} (h : RB W g n b) : W.cell? ⟨g, 0, none⟩ = some (.int .i64 (n : Int)) := by rw [h.cell 0]; simp [rf]
theorem RB.ck {W : World} {g n b : Nat} (h : RB W g n b) {k : Nat} (hk : k < 64) : W.cell? ⟨g, 1 + k, none⟩ = some (.bool (b.testBit k)) := by
  rw [h.cell (1 + k), List.getElem?_toArray, rf_get _ _ hk]
theorem RB.load {W : World} {g n b : Nat} (h : RB W g n b) : (loadVar rT ⟨g, 0, none⟩).run Try.prog W = .ok (.agg (rf n b).toArray) W :=
  run_loadVar_row W g rT rT (rf n b).toArray (0, 0) _ h Try.underlying30 rfl (by rw [info65]; simp [rf])
theorem RB.put {W : World} {g n b k : Nat} (h : RB W g n b) (hk : k < 64) : RB (W.setCell ⟨g, 1 + k, none⟩ (.bool true)) g n (put b k) := by
  have := h.set (1 + k) (.bool true)
  rwa [List.setIfInBounds_toArray, rf_put n b hk] at this
theorem RB.del {W : World} {g n b k : Nat} (h : RB W g n b) (hk : k < 64) : RB (W.setCell ⟨g, 1 + k, none⟩ (.bool false)) g n (del b k) := by
  have := h.set (1 + k) (.bool false)
  rwa [List.setIfInBounds_toArray, rf_del n b hk] at this

theorem rhas_any (n b : Nat) (i : Int) (w : World) (hn : n ≤ 64) :
    Calls Try.prog 32 #[.agg (rf n b).toArray, .int .i64 i] w fun e w' => e = .returned (.bool (has n b i)) ∧ Below w.heap.size w w' := by
  have hB : Below w.heap.size w (w.alloc (.cells (rf n b).toArray rT)) := (Below.refl _ _).alloc (Nat.le_refl _) _
  have hR : RB (w.alloc (.cells (rf n b).toArray rT)) w.heap.size n b := Blk.new w _ _
  have c0 := hR.c0
  by_cases h0 : 0 ≤ i
  · obtain ⟨k, rfl⟩ := Int.eq_ofNat_of_zero_le h0
    have k0 : decide ((0 : Int) ≤ (k : Int)) = true := by simp
    by_cases h1 : k < n
    · have k1 : decide ((k : Int) < (n : Int)) = true := by simp; omega
      have ck := hR.ck (k := k) (by omega)
      have k64 : (k : Int) < 64 := by omega
      clear hR
      go_enter Try.func32, Try.ntmps32
      go_wp2
      go_ret
      exact ⟨ret_bool (by rw [has_nat]; simp [h1]), hB⟩
    · have k1 : decide ((k : Int) < (n : Int)) = false := by simp; omega
      clear hR
      go_enter Try.func32, Try.ntmps32
      go_wp2
      go_ret
      exact ⟨ret_bool (by rw [has_nat]; simp [h1]), hB⟩
  · have k0 : decide (0 ≤ i) = false := decide_eq_false h0
    clear hR
    go_enter Try.func32, Try.ntmps32
    go_wp2
    go_ret
    exact ⟨ret_bool (by simp [has, inn, k0]), hB⟩

structure RAllRel (w wr : World) (n b : Nat) (lv i : Value) (k : Nat) : Prop where
  hk : k ≤ n
  hi : i = .int .i64 k
  own : wr.ownsRow (w.heap.size + 1) 3 1 lv (all k b).length (ivals (all k b))
  blk : RB wr w.heap.size n b
  bel : Below w.heap.size w wr

theorem rall_any (n b : Nat) (w : World) (hn : n ≤ 64) :
    Calls Try.prog 31 #[.agg (rf n b).toArray] w fun e w' => (∃ A c, e = .returned (.slice A (all n b).length c) ∧ Rd w' A (ivals (all n b))) ∧ Below w.heap.size w w' := by
  go_enter Try.func31, Try.ntmps31
  go_upto_region 3 with fail
  have R0 := Lib.hid (show RAllRel w ((w.alloc (.cells (rf n b).toArray rT)).alloc (.cells #[] 3)) n b (.slice (some ⟨w.heap.size + 1, 0, none⟩) 0 0) (.int .i64 0) 0 from
    ⟨by omega, rfl, own_zero (Blk.new' (by simp) _ _) (Nat.le_refl _), (Blk.new _ _ _).alloc _, ((Below.refl _ _).alloc (Nat.le_refl _) _).alloc (by simp) _⟩)
  generalize (w.alloc (.cells (rf n b).toArray rT)).alloc (.cells #[] 3) = w0 at *
  go_loopw [3, 4] (fun lv i wr => ∃ (k : Nat), RAllRel w wr n b lv i k) (fun _ i _ => n - (intOf i).toNat)
  case atStart => exact ⟨0, R0.out⟩
  case round =>
    obtain ⟨k, hk, rfl, hown, hblk, hbel⟩ := hrel
    have HO := Lib.hid hown
    have HK := Lib.hid hblk
    have HB := Lib.hid hbel
    have c0 := hblk.c0
    by_cases hlt : k < n
    · have hlt' : decide ((k : Int) < (n : Int)) = true := by simp; omega
      have ck := hblk.ck (k := k) (by omega)
      have k64 : (k : Int) < 64 := by omega
      have hlen := all_len k b
      have hsum : IntKind.i64.wrap ((k : Int) + 1) = (k : Int) + 1 := IntWalk.i64_in _ (by omega)
      have HS := Lib.hid (all_succ k b)
      clear hown hblk hbel
      cases ht : b.testBit k with
      | true =>
        rw [ht] at ck
        have HT := Lib.hid ht; clear ht
        go_wp2_with (
          at_builtin
          refine app1 (w.heap.size + 1) 49 3 (.int .i64 0) 1 8 [.int .i64 k] HO.out (by have := HK.out.lt; omega) (by omega) Try.underlying49 infoInt rfl (by decide) (by decide) rfl (one1 _ _) (.tmp 16) (.tmp 18) rfl rfl rfl rfl ?_
          intro v1 x1 hown1 hg1 _
          have HX := Lib.hid (blk_grown HK.out hg1 HO.out (by omega))
          have HY := Lib.hid (Below.grown HB.out hg1 HB.out.size (fun q hq => by have := (HO.out.lt q hq).1; omega))
          have HZ := Lib.hid hown1
          clear hg1 hown1)
        go_roundw
        case rel =>
          refine ⟨k + 1, by omega, by push_cast; rfl, ?_, HX.out, HY.out⟩
          have h := HZ.out
          rw [HS.out, if_pos HT.out, List.length_append, ivals, List.map_append]
          exact h
        case measure => simp [intOf]; omega
      | false =>
        rw [ht] at ck
        have HT := Lib.hid ht; clear ht
        go_wp2
        go_roundw
        case rel =>
          refine ⟨k + 1, by omega, by push_cast; rfl, ?_, HK.out, HB.out⟩
          rw [HS.out, if_neg (by rw [HT.out]; decide), List.append_nil]
          exact HO.out
        case measure => simp [intOf]; omega
    · have hlt' : decide ((k : Int) < (n : Int)) = false := by simp; omega
      obtain rfl : k = n := by omega
      clear hown hblk hbel
      obtain ⟨A2, c2, rfl, _, R2⟩ := own_rd HO.out
      have HR := Lib.hid R2
      clear R2
      go_wp2
      go_ret
      exact ⟨⟨_, _, rfl, HR.out⟩, HB.out⟩

structure RNextRel (w wr : World) (n b : Nat) (i0 : Int) (i : Value) (k : Nat) : Prop where
  hi : i = .int .i64 k
  hk : k ≤ n
  no : ∀ j, j < k → i0 ≤ (j : Int) → b.testBit j = false
  blk : RB wr w.heap.size n b
  bel : Below w.heap.size w wr
theorem rnext_any (n b : Nat) (i0 : Int) (w : World) (hn : n ≤ 64) :
    Calls Try.prog 30 #[.agg (rf n b).toArray, .int .i64 i0] w fun e w' => e = .returned (nextV (next n b i0)) ∧ Below w.heap.size w w' := by
  go_enter Try.func30, Try.ntmps30
  go_upto_region 2 with fail
  have R0 := Lib.hid (show RNextRel w (w.alloc (.cells (rf n b).toArray rT)) n b i0 (.int .i64 0) 0 from
    ⟨rfl, by omega, fun j hj => by omega, Blk.new _ _ _, (Below.refl _ _).alloc (Nat.le_refl _) _⟩)
  generalize w.alloc (.cells (rf n b).toArray rT) = w0 at *
  go_loopw [6] (fun i wr => ∃ (k : Nat), RNextRel w wr n b i0 i k) (fun i _ => n - (intOf i).toNat)
  case atStart => exact ⟨0, R0.out⟩
  case round =>
    obtain ⟨k, rfl, hk, hno, hblk, hbel⟩ := hrel
    have HK := Lib.hid hblk
    have HB := Lib.hid hbel
    have HN := Lib.hid hno
    have c0 := hblk.c0
    by_cases hlt : k < n
    · have hlt' : decide ((k : Int) < (n : Int)) = true := by simp; omega
      have ck := hblk.ck (k := k) (by omega)
      have k64 : (k : Int) < 64 := by omega
      have hsum : IntKind.i64.wrap ((k : Int) + 1) = (k : Int) + 1 := IntWalk.i64_in _ (by omega)
      clear hblk hbel hno
      by_cases hge : i0 ≤ (k : Int)
      · have q : decide (i0 ≤ (k : Int)) = true := decide_eq_true hge
        cases ht : b.testBit k with
        | true =>
          rw [ht] at ck
          have HE := Lib.hid (next_some (i := i0) hlt hge ht (fun j hj hij => HN.out j hj hij))
          clear ht
          go_wp2
          go_returns
          exact ⟨by rw [HE.out]; rfl, HB.out⟩
        | false =>
          rw [ht] at ck
          have HT := Lib.hid ht; clear ht
          go_wp2
          go_roundw
          case rel =>
            refine ⟨k + 1, by push_cast; rfl, by omega, fun j hj hij => ?_, HK.out, HB.out⟩
            by_cases hjk : j = k
            · rw [hjk]; exact HT.out
            · exact HN.out j (by omega) hij
          case measure => simp [intOf]; omega
      · have q : decide (i0 ≤ (k : Int)) = false := decide_eq_false hge
        go_wp2
        go_roundw
        case rel => exact ⟨k + 1, by push_cast; rfl, by omega, fun j hj hij => HN.out j (by omega) hij, HK.out, HB.out⟩
        case measure => simp [intOf]; omega
    · have hlt' : decide ((k : Int) < (n : Int)) = false := by simp; omega
      obtain rfl : k = n := by omega
      have HE := Lib.hid (next_none (n := k) (b := b) (i := i0) (fun j hj hij => HN.out j hj hij))
      clear hblk hbel hno
      go_wp2
      go_returns
      exact ⟨by rw [HE.out]; rfl, HB.out⟩
end Go.Proofs.Ytlgmomjofhbggaa
