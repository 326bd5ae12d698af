/- The walks of the document's Set, Or. No condition but sizes. -/
import Derived.Test.YtlgmomjofhbggaaBitN
set_option linter.unusedVariables false
set_option linter.unusedSimpArgs false
namespace Go.Proofs.Ytlgmomjofhbggaa
open Go.RowKit

set_option maxRecDepth 100000 in
set_option maxHeartbeats 2000000 in
theorem rset_any (n b : Nat) (i : Int) (q : Bool) (w : World) (hn : n ≤ 64) :
    Calls Try.prog 14 #[.agg (rf n b).toArray, .int .i64 i, .bool q] w fun e w' =>
      e = .returned (if inn n i then .tuple #[.agg (rf n (if q then put b i.toNat else del b i.toNat)).toArray, .int .i64 0] else .tuple #[.agg (rf 0 0).toArray, .int .i64 2]) ∧ Below w.heap.size w w' := by
  have hz := run_zero65
  have hA : RB ((w.alloc (.cells (rf n b).toArray rT)).alloc (.cells (rf 0 0).toArray rT)) w.heap.size n b := (Blk.new w _ _).alloc _
  have hC : RB ((w.alloc (.cells (rf n b).toArray rT)).alloc (.cells (rf 0 0).toArray rT)) (w.heap.size + 1) 0 0 := Blk.new' (by simp) _ _
  have HB : Hid (Below w.heap.size w ((w.alloc (.cells (rf n b).toArray rT)).alloc (.cells (rf 0 0).toArray rT))) := Lib.hid (((Below.refl _ _).alloc (Nat.le_refl _) _).alloc (by simp) _)
  have c0 := hA.c0
  by_cases hin : inn n i = true
  · have hin' := hin
    simp only [inn, Bool.and_eq_true, decide_eq_true_eq] at hin'
    obtain ⟨k, rfl⟩ := Int.eq_ofNat_of_zero_le hin'.1
    have hk : k < n := by omega
    have hk64 : k < 64 := by omega
    have k64 : (k : Int) < 64 := by omega
    have q1 : decide ((k : Int) < 0) = false := by simp
    have q2 : decide ((n : Int) ≤ (k : Int)) = false := by simp; omega
    have ck := hA.ck hk64
    have fk : ((w.alloc (.cells (rf n b).toArray rT)).alloc (.cells (rf 0 0).toArray rT)).frozen? ⟨w.heap.size, 1 + k, none⟩ = false := hA.frozen _
    rw [if_pos hin, Int.toNat_natCast]
    obtain ⟨d, hd⟩ : ∃ d, (if q = true then put b k else del b k) = d := ⟨_, rfl⟩
    rw [hd]
    have HD := Lib.hid hd
    clear hd
    have HA := Lib.hid hA; have HC := Lib.hid hC
    clear hA hC hin'
    go_enter Try.func14, Try.ntmps14
    go_upto_region 3 with fail
    generalize (w.alloc (.cells (rf n b).toArray rT)).alloc (.cells (rf 0 0).toArray rT) = W at *
    go_upto_region 4 with fail
    have HA2 : Hid (RB (W.setCell ⟨w.heap.size, 1 + k, none⟩ (.bool q)) w.heap.size n d) := Lib.hid (by
      rw [← HD.out]
      cases q
      · exact HA.out.del hk64
      · exact HA.out.put hk64)
    have HC2 := Lib.hid (HC.out.setOther (p := ⟨w.heap.size, 1 + k, none⟩) (by simp) (.bool q))
    have HB2 := Lib.hid (show Below w.heap.size w (W.setCell ⟨w.heap.size, 1 + k, none⟩ (.bool q)) from HB.out.setCell (by simp) _)
    generalize W.setCell ⟨w.heap.size, 1 + k, none⟩ (.bool q) = W2 at *
    refine wp_region_lit (l := [_, _, _]) ?_
    refine load_rf HA2.out rfl (.tmp 3) rfl rfl ?_
    refine store_rf n d HC2.out rfl (.tmp 6) (.tmp 21) rfl rfl rfl ?_
    intro w2 hr2 hu2
    have HR2 := Lib.hid hr2; have HU2 := Lib.hid hu2
    clear hr2 hu2
    go_wp2
    refine ret_cell_tmp (k := 6) (u := 7) (by kernel_rfl) rfl rfl HR2.out (by kernel_rfl) (by rw [info65]; simp [rf]) ⟨rfl, HB2.out.trans (HU2.out.below HB2.out.size (fun k hk => by omega))⟩
  · have hin' : inn n i = false := by simpa using hin
    rw [if_neg hin]
    have HA := Lib.hid hA; have HC := Lib.hid hC
    clear hA hC
    by_cases h0 : i < 0
    · have q1 : decide (i < 0) = true := decide_eq_true h0
      go_enter Try.func14, Try.ntmps14
      go_upto_region 2 with fail
      generalize (w.alloc (.cells (rf n b).toArray rT)).alloc (.cells (rf 0 0).toArray rT) = W at *
      refine wp_region_lit (l := [_, _, _]) ?_
      refine build_rf (rf 0 0).toArray #[] rfl rfl (by kernel_rfl) ?_
      refine store_rf 0 0 HC.out rfl (.tmp 6) (.tmp 16) rfl rfl rfl ?_
      intro w2 hr2 hu2
      have HR2 := Lib.hid hr2; have HU2 := Lib.hid hu2
      clear hr2 hu2
      go_wp2
      refine ret_cell_tmp (k := 6) (u := 7) (by kernel_rfl) rfl rfl HR2.out (by kernel_rfl) (by rw [info65]; simp [rf]) ⟨rfl, HB.out.trans (HU2.out.below HB.out.size (fun k hk => by omega))⟩
    · have q1 : decide (i < 0) = false := decide_eq_false h0
      obtain ⟨k, rfl⟩ := Int.eq_ofNat_of_zero_le (show 0 ≤ i by omega)
      have hk : ¬ k < n := by intro h; simp [inn, h] at hin'
      have q2 : decide ((n : Int) ≤ (k : Int)) = true := by simp; omega
      have q3 : decide (n ≤ k) = true := by simp; omega
      go_enter Try.func14, Try.ntmps14
      go_upto_region 2 with fail
      generalize (w.alloc (.cells (rf n b).toArray rT)).alloc (.cells (rf 0 0).toArray rT) = W at *
      refine wp_region_lit (l := [_, _, _]) ?_
      refine build_rf (rf 0 0).toArray #[] rfl rfl (by kernel_rfl) ?_
      refine store_rf 0 0 HC.out rfl (.tmp 6) (.tmp 16) rfl rfl rfl ?_
      intro w2 hr2 hu2
      have HR2 := Lib.hid hr2; have HU2 := Lib.hid hu2
      clear hr2 hu2
      go_wp2
      refine ret_cell_tmp (k := 6) (u := 7) (by kernel_rfl) rfl rfl HR2.out (by kernel_rfl) (by rw [info65]; simp [rf]) ⟨rfl, HB.out.trans (HU2.out.below HB.out.size (fun k hk => by omega))⟩
end Go.Proofs.Ytlgmomjofhbggaa
