/- The walk of the document's Or. Conditions: sizes; no mark beyond the places. -/
import Derived.Test.YtlgmomjofhbggaaBitS
import Derived.Test.YtlgmomjofhbggaaBitQ
import Derived.Test.YtlgmomjofhbggaaSep
import Derived.Test.YtlgmomjofhbggaaReg
import Derived.Test.YtlgmomjofhbggaaFlat
import Derived.Deep.LoopGhost
import Derived.Deep.DeepCutAuto
set_option linter.unusedVariables false
set_option linter.unusedSimpArgs false
namespace Go.Proofs.Ytlgmomjofhbggaa
open Go.RowKit

def orTo (b c k : Nat) : Nat := b ||| (c % 2 ^ k)
theorem testBit_orTo (b c k j : Nat) : (orTo b c k).testBit j = (b.testBit j || (decide (j < k) && c.testBit j)) := by
  unfold orTo
  rw [Nat.testBit_or, Nat.testBit_mod_two_pow]
theorem orTo_put {b c k : Nat} (h : (b.testBit k || c.testBit k) = true) : put (orTo b c k) k = orTo b c (k + 1) := by
  apply Nat.eq_of_testBit_eq
  intro j
  rw [testBit_put, testBit_orTo, testBit_orTo]
  by_cases hj : j = k
  · subst hj
    simp [h]
  · by_cases hlt : j < k
    · simp [hlt, show j < k + 1 by omega, show ¬ k = j by omega]
    · simp [hlt, show ¬ j < k + 1 by omega, show ¬ k = j by omega]
theorem orTo_del {b c k : Nat} (h : (b.testBit k || c.testBit k) = false) : del (orTo b c k) k = orTo b c (k + 1) := by
  apply Nat.eq_of_testBit_eq
  intro j
  rw [testBit_del, testBit_orTo, testBit_orTo]
  by_cases hj : j = k
  · subst hj
    simp only [Bool.or_eq_false_iff] at h
    simp [h.1, h.2]
  · by_cases hlt : j < k
    · simp [hlt, show j < k + 1 by omega, show ¬ k = j by omega]
    · simp [hlt, show ¬ j < k + 1 by omega, show ¬ k = j by omega]
theorem orTo_self (b c k : Nat) : (orTo b c k).testBit k = b.testBit k := by rw [testBit_orTo]; simp
theorem orTo_zero (b c : Nat) : orTo b c 0 = b := by simp [orTo, Nat.mod_one]
theorem orTo_end {b c n : Nat} (h : c < 2 ^ n) : orTo b c n = b ||| c := by unfold orTo; rw [Nat.mod_eq_of_lt h]

set_option maxRecDepth 100000 in
set_option maxHeartbeats 2000000 in
theorem ror_any (n b m c : Nat) (w : World) (hn : n ≤ 64) (hm : m ≤ 64) (hcm : c < 2 ^ m) :
    Calls Try.prog 17 #[.agg (rf n b).toArray, .agg (rf m c).toArray] w fun e w' =>
      e = .returned (if n = m then .tuple #[.agg (rf n (b ||| c)).toArray, .int .i64 0] else .tuple #[.agg (rf 0 0).toArray, .int .i64 1]) ∧ Below w.heap.size w w' := by
  have hz := run_zero65
  obtain ⟨gA, hgA⟩ : ∃ g, w.heap.size = g := ⟨_, rfl⟩
  have HT := Lib.hid (((((Sep.nil w).newBlk (rf n b).toArray rT hgA).newBlk (rf m c).toArray rT (g := gA + 1) (by simp [hgA])).newBlk (rf 0 0).toArray rT (g := gA + 2) (by simp [hgA])).r3')
  have HT := Lib.hid HT.out.sw
  have HG := Lib.hid hgA
  have c0 := (show RB _ gA n b from HT.out.hd).c0
  have d0 := (show RB _ (gA + 1) m c from HT.out.h2).c0
  have HCM := Lib.hid hcm; clear hcm hgA
  by_cases h : n = m
  · rw [if_pos h]
    subst h
    have q : ((n : Int) != (n : Int)) = false := by simp
    go_enter Try.func17, Try.ntmps17
    go_upto_region 1 with fail
    rw [HG.out]
    generalize ((w.alloc (.cells (rf n b).toArray rT)).alloc (.cells (rf n c).toArray rT)).alloc (.cells (rf 0 0).toArray rT) = W at *
    go_wp2_with fail
    clear c0 d0
    go_loopg [6] n (fun gk s6 wr => ∃ (k : Nat), s6 = .int .i64 (k : Int) ∧ k ≤ n ∧ gk = n - k ∧ Sep w wr [tBlk gA (rf n (orTo b c k)).toArray rT, tBlk (gA + 1) (rf n c).toArray rT, tBlk (gA + 2) (rf 0 0).toArray rT])
    case atStart => exact ⟨0, rfl, by omega, by omega, by rw [orTo_zero]; exact HT.out⟩
    case round =>
    clear HT
    obtain ⟨k, rfl, hk, hgk, hs⟩ := hrel
    have HT := Lib.hid hs
    clear hs
    have c0 := (show RB _ gA n (orTo b c k) from HT.out.hd).c0
    by_cases hkn : k < n
    case neg =>
      have q1 : decide ((k : Int) < (n : Int)) = false := by simp; omega
      have q2 : ¬ (k : Int) < (n : Int) := by omega
      have hkn : k = n := by omega
      subst hkn
      have HO := Lib.hid (orTo_end (b := b) HCM.out)
      go_upto_region 7 with fail
      clear c0
      refine wp_region_lit (l := [_, _, _]) ?_
      refine load_rf (show RB _ gA k (orTo b c k) from HT.out.hd) rfl (.tmp 2) rfl rfl ?_
      refine store_rf k (orTo b c k) (show RB _ (gA + 2) 0 0 from HT.out.h3) rfl (.tmp 4) (.tmp 32) rfl rfl rfl ?_
      intro w2 hr2 hu2
      have HR2 := Lib.hid hr2
      have HU2 := Lib.hid (HT.out.bel.trans (hu2.below (by have := HT.out.size; omega) (fun k hk => by have := HG.out; omega)))
      clear hr2 hu2
      go_wp2
      refine ret_cell_tmp (k := 4) (u := 5) (by kernel_rfl) rfl rfl HR2.out (by kernel_rfl) (by rw [info65]; simp [rf]) ⟨by rw [← HO.out]; rfl, HU2.out⟩
    have q1 : decide ((k : Int) < (n : Int)) = true := by simp; omega
    have q2 : (k : Int) < (n : Int) := by omega
    have q3 : (0 : Int) ≤ (k : Int) := by omega
    have hk64 : k < 64 := by omega
    have k64 : (k : Int) < 64 := by omega
    have hwk : IntKind.i64.wrap ((k : Int) + 1) = (k : Int) + 1 := IntWalk.i64_in _ (by omega)
    have ck := (show RB _ gA n (orTo b c k) from HT.out.hd).ck hk64
    rw [orTo_self] at ck
    have dk := (show RB _ (gA + 1) n c from HT.out.h2).ck hk64
    have fk : wr.frozen? ⟨gA, 1 + k, none⟩ = false := (show RB wr gA n (orTo b c k) from HT.out.hd).frozen _
    have HP : Hid (∀ (v : Bool), v = (b.testBit k || c.testBit k) → Sep w (wr.setCell ⟨gA, 1 + k, none⟩ (.bool v)) [tBlk gA (rf n (orTo b c (k + 1))).toArray rT, tBlk (gA + 1) (rf n c).toArray rT, tBlk (gA + 2) (rf 0 0).toArray rT]) := Lib.hid (fun v hv => by
      refine HT.out.op (t' := tBlk gA (rf n (orTo b c (k + 1))).toArray rT) ?_ (Upd.setCell (S := (tBlk gA (rf n (orTo b c k)).toArray rT).fp) (Upd.refl _ wr) (p := ⟨gA, 1 + k, none⟩) (.inr rfl) _) (fun k hk => .inl hk)
      subst hv
      cases hv : (b.testBit k || c.testBit k)
      · rw [← orTo_del hv]
        exact (show RB wr gA n (orTo b c k) from HT.out.hd).del hk64
      · rw [← orTo_put hv]
        exact (show RB wr gA n (orTo b c k) from HT.out.hd).put hk64)
    clear HT
    cases hb : b.testBit k <;> cases hc : c.testBit k <;> rw [hb] at ck HP <;> rw [hc] at dk HP <;> clear hb hc
    all_goals (
      go_wp2_with fail
      go_roundg (n - (k + 1))
      case measure => omega
      case rel => exact ⟨k + 1, by push_cast; rfl, by omega, rfl, HP.out _ rfl⟩)
  · rw [if_neg h]
    have q : ((n : Int) != (m : Int)) = true := by simp [bne]; omega
    go_enter Try.func17, Try.ntmps17
    go_upto_region 1 with fail
    rw [HG.out]
    generalize ((w.alloc (.cells (rf n b).toArray rT)).alloc (.cells (rf m c).toArray rT)).alloc (.cells (rf 0 0).toArray rT) = W at *
    go_upto_region 2 with fail
    clear c0 d0
    refine wp_region_lit (l := [_, _, _]) ?_
    refine build_rf (rf 0 0).toArray #[] rfl rfl (by kernel_rfl) ?_
    refine store_rf 0 0 (show RB _ (gA + 2) 0 0 from HT.out.h3) rfl (.tmp 4) (.tmp 12) rfl rfl rfl ?_
    intro w2 hr2 hu2
    have HR2 := Lib.hid hr2
    have HU2 := Lib.hid (HT.out.bel.trans (hu2.below (by have := HT.out.size; omega) (fun k hk => by have := HG.out; omega)))
    clear hr2 hu2
    go_wp2
    refine ret_cell_tmp (k := 4) (u := 5) (by kernel_rfl) rfl rfl HR2.out (by kernel_rfl) (by rw [info65]; simp [rf]) ⟨rfl, HU2.out⟩
end Go.Proofs.Ytlgmomjofhbggaa
