/- The walks of package code and of the document's: records' bytes. Conditions: sizes. -/
import Derived.Test.YtodjmeodcmbdoaaCodV
import Derived.Test.YtodjmeodcmbdoaaOwnS
set_option linter.unusedVariables false
set_option linter.unusedSimpArgs false
namespace Go.Proofs.Ytodjmeodcmbdoaa
open Go.RowKit
theorem rzig_neg {n : Int} (h : i64 n) (hn : n < 0) : IntKind.u64.wrap (IntKind.u64.wrap (-IntKind.u64.wrap (IntKind.u64.wrap n * 2)) - 1) = (zig n : Int) := by
  unfold i64 at h
  simp only [IntKind.wrap_u64]
  unfold zig
  rw [if_pos hn]
  omega
theorem rzig_pos {n : Int} (hn : ¬ n < 0) : n * 2 = (zig n : Int) := by
  unfold zig
  rw [if_neg hn]
  omega
set_option maxRecDepth 100000 in
theorem rnumber_any (n : Int) (w : World) (hn : i64 n) :
    Calls Try.prog 46 #[.int .i64 n] w fun e w' => ∃ v, e = .returned v ∧ NewRow w w' v (numB n) := by
  have HN := Lib.hid hn
  have HLEN := Lib.hid (numB_len hn)
  obtain ⟨h0, h1⟩ := hn
  obtain ⟨z, hz⟩ : ∃ z, zig n = z := ⟨_, rfl⟩
  have HZ := Lib.hid hz
  have hz64 : z < 18446744073709551616 := by rw [← hz]; exact zig_lt HN.out
  by_cases hneg : n < 0
  all_goals
    first
      | have hx : IntKind.u64.wrap (IntKind.u64.wrap (-IntKind.u64.wrap (IntKind.u64.wrap n * 2)) - 1) = (z : Int) := by rw [← hz]; exact rzig_neg HN.out hneg
      | have hx : n * 2 = (z : Int) := by rw [← hz]; exact rzig_pos hneg
    clear hz
    go_enter Try.func46, Try.ntmps46
    go_wp2_with fail
    clear hx hneg h0 h1
    go_loopg [3, 4] z (fun gk s3 s4 wr => ∃ (v : Nat) (v4 : Value) (ys : List UInt8), v4 = s4 ∧ s3 = .int .u64 (v : Int) ∧ gk = v ∧ v ≤ z ∧ ys ++ varB v = numB n ∧ NewRow w wr v4 ys)
    case atStart => exact ⟨z, _, [], rfl, rfl, rfl, Nat.le_refl _, by rw [List.nil_append, numB, HZ.out], Own.empty w tB 1 rfl, (Below.refl _ _).alloc (Nat.le_refl _) _, fun g hg => by simp [Value.ownBlock] at hg; omega⟩
    case round =>
    obtain ⟨v, v4, ys, rfl, rfl, rfl, hv, hys, ho⟩ := hrel
    obtain ⟨A4, c4, rfl, _⟩ := ho.1.form
    have HY := Lib.hid hys; have HO := Lib.hid ho
    have hl : ys.length + (varB gk).length ≤ 10 := by have := HLEN.out; rw [← hys, List.length_append] at this; exact this
    have hl2 := varB_pos gk
    have HL := Lib.hid (show (ys.length + 1) * 1 ≤ 140737488355328 by omega)
    clear hys ho hl hl2
    by_cases hg : gk < 128
    · have g1 : decide ((128 : Int) ≤ (gk : Int)) = false := by simp; omega
      have g2 : ¬ (128 : Int) ≤ (gk : Int) := by omega
      have g3 : (gk : Int) < 256 := by omega
      have HE := Lib.hid (show [Value.int .u8 (gk : Int)] = eB.fl [b8 gk] by simp [eB, Enc.fl, b8_toNat (show gk < 256 by omega)])
      go_wp2_with (at_builtin; refine app1O 75 tB (.int .u8 0) 1 1 [.int .u8 (gk : Int)] HO.out.1 HL.out Try.underlying75 Try.infoB rfl (by decide) (by decide) rfl (by intro u hu; simp only [List.mem_singleton] at hu; subst hu; rfl) (.tmp 27) (.tmp 30) rfl rfl rfl rfl ?_; intro v1 w1 ho1 hg1 hat1)
      go_ret
      have hy := HY.out
      rw [varB_lt hg] at hy
      rw [HE.out] at ho1
      rw [← hy]
      exact ⟨_, rfl, HO.out.app ho1 rfl hg1 hat1⟩
    · have g1 : (128 : Int) ≤ (gk : Int) := by omega
      have HE := Lib.hid (show [Value.int .u8 ((gk : Int) % 128 + 128)] = eB.fl [b8 (gk % 128 + 128)] by simp [eB, Enc.fl, b8_toNat (show gk % 128 + 128 < 256 by omega)])
      go_wp2_with (at_builtin; refine app1O 75 tB (.int .u8 0) 1 1 [.int .u8 ((gk : Int) % 128 + 128)] HO.out.1 HL.out Try.underlying75 Try.infoB rfl (by decide) (by decide) rfl (by intro u hu; simp only [List.mem_singleton] at hu; subst hu; rfl) (.tmp 18) (.tmp 23) rfl rfl rfl rfl ?_; intro v1 w1 ho1 hg1 hat1; have HO1 := Lib.hid ho1; have HG1 := Lib.hid hg1; have HA1 := Lib.hid hat1; clear ho1 hg1 hat1)
      go_roundg (gk / 128)
      case measure => omega
      case rel =>
        have hy := HY.out
        rw [varB_ge hg] at hy
        have ho1 := HO1.out
        rw [HE.out] at ho1
        exact ⟨gk / 128, _, ys ++ [b8 (gk % 128 + 128)], rfl, by push_cast; rfl, rfl, by omega, by rw [← hy, List.append_assoc]; rfl, HO.out.app ho1 rfl HG1.out HA1.out⟩
end Go.Proofs.Ytodjmeodcmbdoaa
