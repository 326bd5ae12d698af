/- The walks of package code: may a record be, numbers, records' bytes. Conditions: sizes. -/
import Derived.Test.YtodjmeodcmbdoaaProg
import Derived.Test.YtodjmeodcmbdoaaCodM
import Derived.Test.YtodjmeodcmbdoaaOwn
import Derived.Test.YtodjmeodcmbdoaaReg
import Derived.Test.YtodjmeodcmbdoaaRet
import Derived.Deep.QuietTactic
import Derived.BigQuiet
import Derived.WalkSpells
import Derived.Deep.DeepCutAuto
import Derived.Deep.LoopGhost
import Derived.Laws.Bits64
import Derived.Laws.Bits64b
set_option linter.unusedVariables false
set_option linter.unusedSimpArgs false
namespace Go.Proofs.Ytodjmeodcmbdoaa
open Go.RowKit
def eB : Enc UInt8 := ⟨fun x => [.int .u8 (x.toNat : Int)], 1, fun _ => rfl, fun _ u hu => by simp only [List.mem_singleton] at hu; subst hu; rfl⟩
abbrev tB : TypeId := 5
theorem Try.infoB : (Try.prog.info? tB).map (fun i => (i.zero, i.size, i.bytes)) = some (some (.int .u8 0), 1, 1) := by kernel_rfl
theorem xor_ones {a : Nat} (h : a < 18446744073709551616) : a ^^^ 18446744073709551615 = 18446744073709551615 - a := by
  have := congrArg BitVec.toNat (BitVec.xor_allOnes (x := BitVec.ofNat 64 a))
  rw [BitVec.toNat_xor, BitVec.toNat_not, BitVec.toNat_allOnes, BitVec.toNat_ofNat, Nat.mod_eq_of_lt (by omega)] at this
  exact this
theorem zig_neg {n : Int} (h : i64 n) (hn : n < 0) : bits .xor .u64 (IntKind.u64.wrap (IntKind.u64.wrap n * 2)) (IntKind.u64.wrap (n / 9223372036854775808)) = (zig n : Int) := by
  unfold i64 at h
  rw [IntKind.wrap_u64, IntKind.wrap_u64, IntKind.wrap_u64, show n / 9223372036854775808 = -1 by omega, show (-1 : Int) % 18446744073709551616 = ((18446744073709551615 : Nat) : Int) by decide]
  have e : n % 18446744073709551616 * 2 % 18446744073709551616 = (((2 * n + 18446744073709551616).toNat : Nat) : Int) := by omega
  rw [e, bits_xor_u64_nat _ _ (by omega) (by decide), xor_ones (by omega)]
  unfold zig
  rw [if_pos hn]
  omega
theorem zig_pos {n : Int} (h : i64 n) (hn : ¬ n < 0) : bits .xor .u64 (n * 2) (n / 9223372036854775808) = (zig n : Int) := by
  unfold i64 at h
  rw [show n / 9223372036854775808 = ((0 : Nat) : Int) by omega, show n * 2 = (((2 * n).toNat : Nat) : Int) by omega, bits_xor_u64_nat _ _ (by omega) (by decide), Nat.xor_zero]
  unfold zig
  rw [if_neg hn]
theorem varB_len : ∀ (k v : Nat), v < 128 ^ k → 0 < k → (varB v).length ≤ k
  | 0, v, h, h0 => by omega
  | k + 1, v, h, _ => by
    by_cases hv : v < 128
    · rw [varB_lt hv]; simp
    · rw [varB_ge hv, List.length_cons]
      have hk : 0 < k := by
        rcases Nat.eq_zero_or_pos k with rfl | hk
        · simp at h; omega
        · exact hk
      have := varB_len k (v / 128) (by rw [pow_succ'] at h; omega) hk
      omega
theorem varB_pos (v : Nat) : 0 < (varB v).length := by
  by_cases hv : v < 128
  · rw [varB_lt hv]; simp
  · rw [varB_ge hv]; simp
theorem numB_len {n : Int} (h : i64 n) : (numB n).length ≤ 10 := varB_len 10 _ (Nat.lt_of_lt_of_le (zig_lt h) (by decide)) (by decide)
theorem or128 : ∀ r : Fin 256, bits .or .u8 ((r.val : Nat) : Int) 128 = ((r.val % 128 + 128 : Nat) : Int) := by decide +kernel
theorem and127 : ∀ r : Fin 256, bits .and .u8 ((r.val : Nat) : Int) 127 = ((r.val % 128 : Nat) : Int) := by decide +kernel
theorem or_b8 (v : Nat) : bits .or .u8 ((v : Int) % 256) 128 = ((b8 (v % 128 + 128)).toNat : Int) := by
  have h := or128 ⟨v % 256, Nat.mod_lt _ (by decide)⟩
  simp only at h
  rw [show (v : Int) % 256 = ((v % 256 : Nat) : Int) by omega, h, b8_toNat (by omega)]
  congr 2
  omega
/-- A row of bytes behind w. -/
def NewRow (w w' : World) (v : Value) (ys : List UInt8) : Prop := Own w' tB 1 v ys.length (eB.fl ys) ∧ Below w.heap.size w w' ∧ ∀ g, v.ownBlock = some g → w.heap.size ≤ g
theorem NewRow.app {w W W1 : World} {v v1 : Value} {ys zs : List UInt8} {n : Nat} (h : NewRow w W v ys) (ho : Own W1 tB 1 v1 n (eB.fl ys ++ eB.fl zs)) (hn : n = ys.length + zs.length) (hg : W.grownBy W1 v.ownBlock)
    (hat : v1.ownBlock = v.ownBlock ∨ ∃ b, v1.ownBlock = some b ∧ W.heap.size ≤ b) : NewRow w W1 v1 (ys ++ zs) := by
  subst hn
  refine ⟨by rw [List.length_append, Enc.app]; exact ho, h.2.1.grown hg h.2.1.size (fun k hk => h.2.2 k hk), fun g hgg => ?_⟩
  rcases hat with e | ⟨b, e, hb⟩
  · exact h.2.2 g (by rw [← e]; exact hgg)
  · rw [e] at hgg; cases hgg; exact Nat.le_trans h.2.1.size hb
theorem NewRow.step {w W W1 : World} {v : Value} {ys : List UInt8} (h : NewRow w W v ys) (b : Below W.heap.size W W1) : NewRow w W1 v ys :=
  ⟨h.1.below b, h.2.1.trans (b.mono h.2.1.size), h.2.2⟩
set_option maxRecDepth 100000 in
theorem number_any (n : Int) (w : World) (hn : i64 n) :
    Calls Try.prog 49 #[.int .i64 n] w fun e w' => ∃ v, e = .returned v ∧ NewRow w w' v (numB n) := by
  have HN := Lib.hid hn
  have HLEN := Lib.hid (numB_len hn)
  obtain ⟨h0, h1⟩ := hn
  obtain ⟨z, hz⟩ : ∃ z, zig n = z := ⟨_, rfl⟩
  have HZ := Lib.hid hz
  have hz64 : z < 18446744073709551616 := by rw [← hz]; exact zig_lt HN.out
  by_cases hneg : n < 0
  all_goals
    first
      | have hx : bits .xor .u64 (IntKind.u64.wrap (IntKind.u64.wrap n * 2)) (IntKind.u64.wrap (n / 9223372036854775808)) = (z : Int) := by rw [← hz]; exact zig_neg HN.out hneg
      | have hx : bits .xor .u64 (n * 2) (n / 9223372036854775808) = (z : Int) := by rw [← hz]; exact zig_pos HN.out hneg
    clear hz
    go_enter Try.func49, Try.ntmps49
    go_wp2_with fail
    clear hx hneg h0 h1
    go_loopg [3, 4] z (fun gk s3 s4 wr => ∃ (v : Nat) (v4 : Value) (ys : List UInt8), v4 = s4 ∧ s3 = .int .u64 (v : Int) ∧ gk = v ∧ v ≤ z ∧ ys ++ varB v = numB n ∧ NewRow w wr v4 ys)
    case atStart => exact ⟨z, _, [], rfl, rfl, rfl, Nat.le_refl _, by rw [List.nil_append, numB, HZ.out], Own.nil _ _ _, Below.refl _ _, fun g hg => by simp [Value.ownBlock] at hg⟩
    case round =>
    obtain ⟨v, v4, ys, rfl, rfl, rfl, hv, hys, ho⟩ := hrel
    obtain ⟨A4, c4, rfl, _⟩ := ho.1.form
    have HY := Lib.hid hys; have HO := Lib.hid ho
    have hl : ys.length + (varB gk).length ≤ 10 := by have := HLEN.out; rw [← hys, List.length_append] at this; exact this
    have hl2 := varB_pos gk
    have HL := Lib.hid (show (ys.length + 1) * 1 ≤ 140737488355328 by omega)
    clear hys ho hl hl2
    by_cases hg : gk < 128
    · have g1 : decide ((127 : Int) < (gk : Int)) = false := by simp; omega
      have g2 : ¬ (127 : Int) < (gk : Int) := by omega
      have g3 : (gk : Int) < 256 := by omega
      have HE := Lib.hid (show [Value.int .u8 (gk : Int)] = eB.f (b8 gk) by simp [eB, b8_toNat (show gk < 256 by omega)])
      go_wp2_with (at_builtin; refine app1O 75 tB (.int .u8 0) 1 1 [.int .u8 (gk : Int)] HO.out.1 HL.out Try.underlying75 Try.infoB rfl (by decide) (by decide) rfl (by intro u hu; simp only [List.mem_singleton] at hu; subst hu; rfl) (.tmp 22) (.tmp 25) rfl rfl rfl rfl ?_; intro v1 w1 ho1 hg1 hat1)
      go_ret
      have hy := HY.out
      rw [varB_lt hg] at hy
      rw [HE.out, ← Enc.snoc] at ho1
      refine ⟨_, rfl, ?_, HO.out.2.1.grown hg1 HO.out.2.1.size (fun k hk => HO.out.2.2 k hk), fun g hgg => ?_⟩
      · rw [← hy, List.length_append]
        exact ho1
      · have hgg : v1.ownBlock = some g := hgg
        rcases hat1 with e | ⟨b, e, hb⟩
        · exact HO.out.2.2 g (by rw [← e]; exact hgg)
        · rw [e] at hgg; cases hgg; exact Nat.le_trans HO.out.2.1.size hb
    · have g1 : (127 : Int) < (gk : Int) := by omega
      have HE := Lib.hid (show [Value.int .u8 (bits .or .u8 ((gk : Int) % 256) 128)] = eB.f (b8 (gk % 128 + 128)) by rw [or_b8]; rfl)
      go_wp2_with (at_builtin; refine app1O 75 tB (.int .u8 0) 1 1 [.int .u8 (bits .or .u8 ((gk : Int) % 256) 128)] HO.out.1 HL.out Try.underlying75 Try.infoB rfl (by decide) (by decide) rfl (by intro u hu; simp only [List.mem_singleton] at hu; subst hu; rfl) (.tmp 14) (.tmp 18) rfl rfl rfl rfl ?_; intro v1 w1 ho1 hg1 hat1; have HO1 := Lib.hid ho1; have HG1 := Lib.hid hg1; have HA1 := Lib.hid hat1; clear ho1 hg1 hat1)
      go_roundg (gk / 128)
      case measure => omega
      case rel =>
        have hy := HY.out
        rw [varB_ge hg] at hy
        have ho1 := HO1.out
        rw [HE.out, ← Enc.snoc] at ho1
        refine ⟨gk / 128, _, ys ++ [b8 (gk % 128 + 128)], rfl, by push_cast; rfl, rfl, by omega, by rw [← hy, List.append_assoc]; rfl, ?_, HO.out.2.1.grown HG1.out HO.out.2.1.size (fun k hk => HO.out.2.2 k hk), fun g hgg => ?_⟩
        · rw [List.length_append]; exact ho1
        · rcases HA1.out with e | ⟨b, e, hb⟩
          · exact HO.out.2.2 g (by rw [← e]; exact hgg)
          · rw [e] at hgg; cases hgg; exact Nat.le_trans HO.out.2.1.size hb
end Go.Proofs.Ytodjmeodcmbdoaa
