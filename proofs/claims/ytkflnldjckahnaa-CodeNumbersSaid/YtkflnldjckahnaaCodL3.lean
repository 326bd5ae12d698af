/- The walk of the law CodeNumbers: it returns true. No condition but the row's own. -/
import Derived.Test.YtkflnldjckahnaaCodJ
set_option linter.unusedVariables false
set_option linter.unusedSimpArgs false
namespace Go.Proofs.Ytkflnldjckahnaa
open Go.RowKit
theorem varB_mono : ∀ (v w : Nat), v ≤ w → (varB v).length ≤ (varB w).length := by
  intro v
  induction v using Nat.strongRecOn with
  | _ v ih =>
  intro w h
  by_cases hv : v < 128
  · rw [varB_lt hv]; exact varB_pos w
  · rw [varB_ge hv, varB_ge (u := w) (by omega), List.length_cons, List.length_cons]
    have := ih (v / 128) (by omega) (w / 128) (by omega)
    omega
theorem numB_mono {a b : Int} (h : (0 ≤ a ∧ a ≤ b) ∨ (a < 0 ∧ b ≤ a)) : (numB a).length ≤ (numB b).length := by
  refine varB_mono _ _ ?_
  unfold zig
  split <;> split <;> omega
theorem numB_inj {a b : Int} (ha : i64 a) (hb : i64 b) (h : numB a = numB b) : a = b := by
  have h1 := rdNs_enc [] [a] (fun n hn => by rw [List.mem_singleton] at hn; subst hn; exact ha)
  have h2 := rdNs_enc [] [b] (fun n hn => by rw [List.mem_singleton] at hn; subst hn; exact hb)
  rw [List.flatMap_cons, List.flatMap_nil, List.append_nil, List.append_nil] at h1 h2
  rw [h] at h1
  simp only [List.length_cons, List.length_nil] at h1 h2
  rw [h1] at h2
  simpa using h2
theorem dec_one {a : Int} (ha : i64 a) : decB ([0, 1] ++ numB a) = some ⟨0, [a], []⟩ := by
  have h := dec_enc (r := ⟨0, [a], []⟩) (by simp [mayB]) (fun n hn => by simp only [List.mem_singleton] at hn; subst hn; exact ha)
  rw [show encB ⟨0, [a], []⟩ = [0, 1] ++ numB a by simp [encB, bodB, headB]; exact ⟨rfl, rfl⟩] at h
  exact h
set_option maxRecDepth 100000 in
set_option maxHeartbeats 4000000 in
theorem w_CodeNumbers (a0 : Int) (a1 : Int) (w : World) (b0 : -9223372036854775808 ≤ a0 ∧ a0 ≤ 9223372036854775807) (b1 : -9223372036854775808 ≤ a1 ∧ a1 ≤ 9223372036854775807) :
    Calls Try.prog 8 #[.int .i64 a0, .int .i64 a1] w fun e w' => e = .returned (.bool true) ∧ Below w.heap.size w w' := by
  have H0 := Lib.hid (show i64 a0 from b0); have H1 := Lib.hid (show i64 a1 from b1)
  go_enter Try.func8, Try.ntmps8
  go_wp2_with fail
  refine (awake_any _).mono ?_
  rintro e w1 ⟨rfl, hB⟩
  have HS := Lib.hid ((Sep.nil w).step hB)
  clear hB
  obtain ⟨p0, hp0⟩ : ∃ p, (numB a0).length = p := ⟨_, rfl⟩
  obtain ⟨p1, hp1⟩ : ∃ p, (numB a1).length = p := ⟨_, rfl⟩
  have l1 : 1 ≤ p0 := by rw [← hp0]; exact varB_pos _
  have l2 : p0 ≤ 10 := by rw [← hp0]; exact numB_len H0.out
  have HP := Lib.hid (And.intro hp0 hp1)
  clear hp0 hp1
  go_wp2_with fail
  refine (number_any a0 w1 H0.out).mono ?_
  rintro e w2 ⟨v0, rfl, hr⟩
  have HS := Lib.hid (HS.out.withRow hr HP.out.1)
  obtain ⟨A0, c0, rfl, _⟩ := hr.form
  clear hr
  rw [HP.out.1] at HS ⊢
  go_wp2_with fail
  refine (number_any a1 w2 H1.out).mono ?_
  rintro e w3 ⟨v1, rfl, hr⟩
  have HS := Lib.hid (HS.out.withRow hr HP.out.2).sw
  obtain ⟨A1, c1, rfl, _⟩ := hr.form
  clear hr
  rw [HP.out.2] at HS ⊢
  have cv0 := conv_str w3 A0 c0 (numB a0) (Own.rd HS.out.hd) p0 HP.out.1
  have cv1 := conv_str w3 A1 c1 (numB a1) (Own.rd HS.out.h2) p1 HP.out.2
  have HQ := Lib.hid (show ((⟨(numB a0).toArray⟩ : ByteArray) = ⟨(numB a1).toArray⟩) ↔ a0 = a1 from str_inj.trans ⟨numB_inj H0.out H1.out, fun h => by rw [h]⟩)
  generalize (⟨(numB a0).toArray⟩ : ByteArray) = s0 at *
  generalize (⟨(numB a1).toArray⟩ : ByteArray) = s1 at *
  have q1 : ((p0 : Int) < 1) = False := by simp; omega
  have q2 : decide ((p0 : Int) < 1) = false := by simp; omega
  have q3 : decide ((10 : Int) < (p0 : Int)) = false := by simp; omega
  go_upto_region 4 with fail
  go_cut [33] from 15 to 33 (fun s33 wx => s33 = .bool false ∧ wx = w3)
  case first =>
    by_cases he : a0 = a1
    · have e1 : s0 = s1 := HQ.out.2 he
      have HX := Lib.hid he
      subst e1
      subst he
      clear HQ
      go_wp2
      go_meet
      exact ⟨rfl, rfl⟩
    · have e1 : (s0.toList == s1.toList) = false := str_ne (fun h => he (HQ.out.1 h))
      have e2 : (a0 == a1) = false := by simp; exact he
      clear HQ he
      go_wp2
      go_meet
      exact ⟨rfl, rfl⟩
  case rest =>
  obtain ⟨rfl, rfl⟩ := hcut
  have HS2 := Lib.hid (HS.out.madeRow #[.int .u8 0, .int .u8 1] [0, 1] 2 rfl (by decide) rfl (g := wc.heap.size) rfl)
  have HB := Lib.hid (show (2 + p0) * 1 ≤ 140737488355328 by omega)
  have HD := Lib.hid (dec_one H0.out)
  have HDL := Lib.hid (show ([0, 1] ++ numB a0).length = 2 + p0 by rw [List.length_append, HP.out.1]; rfl)
  clear cv0 cv1
  go_wp2_with (at_builtin; go_loud (refine appendO 28 tB (.int .u8 0) 1 1 (eB.fl (numB a0)) p0 HS2.out.own HB.out Try.underlying28 Try.infoB rfl (by decide) (by decide) (by rw [Enc.length, HP.out.1]; rfl) (Enc.ones _) A0 c0 (Own.rd HS2.out.h2) (Own.cap HS2.out.h2).2 (.tmp 35) (.tmp 36) rfl rfl rfl rfl ?_); intro v5 w5 ho hg hat; have HS5 := Lib.hid (HS2.out.app ho hg hat); clear ho hg hat)
  obtain ⟨A5, c5, rfl, _⟩ := HS5.out.own.form
  have ho := HS5.out.own
  rw [← Enc.app] at ho
  have HE := Lib.hid (decode_any A5 ([0, 1] ++ numB a0) (2 + p0) c5 w5 HDL.out ho.rd ho.cap.1 (fun e => (ho.cap.2 e).2) ho.big)
  rw [HD.out] at HE
  clear ho
  refine HE.out.mono ?_
  rintro e w6 ⟨An, At, cn, ct, rfl, hs6⟩
  have HS := Lib.hid (hs6.newBlk #[.int .i64 0, .slice An 1 cn, .slice At 0 ct] tRec (g := w6.heap.size) rfl)
  have HB0 := Lib.hid (HS5.out.bel)
  clear HE hs6 HS5 HS2
  go_upto_region 7 with fail
  generalize w6.alloc (.cells #[.int .i64 0, .slice An 1 cn, .slice At 0 ct] tRec) = w7 at *
  generalize w6.heap.size = g6 at *
  have y0 := (show Blk w7 g6 #[.int .i64 0, .slice An 1 cn, .slice At 0 ct] tRec from HS.out.hd).cell 1
  simp at y0
  obtain ⟨b, o, rfl, u0⟩ := Rd.num (l := [a0]) (Own.rd HS.out.h2) 0 a0 rfl
  simp only [Nat.add_zero] at u0
  have HBB := Lib.hid (HB0.out.trans (HS.out.bel.mono HB0.out.size))
  clear HS HB0
  have hmono : ((0 ≤ a0 ∧ a0 ≤ a1) ∨ (a0 < 0 ∧ a1 ≤ a0)) → p0 ≤ p1 := fun h => by have := numB_mono h; rw [HP.out.1, HP.out.2] at this; exact this
  have HMO := Lib.hid hmono
  clear hmono q1 q2 q3
  go_upto_region 9 with fail
  clear y0 u0
  rcases Int.lt_or_le a0 0 with f1 | f1
  · have f2 : decide (a0 < 0) = true := by simpa using f1
    have f3 : decide (0 ≤ a0) = false := by simp; omega
    have f3' : ¬ 0 ≤ a0 := by omega
    rcases Int.lt_or_le a0 a1 with f4 | f4
    · have f5 : decide (a1 ≤ a0) = false := by simp; omega
      have f5' : ¬ a1 ≤ a0 := by omega
      go_wp2_with fail
      go_ret
      exact ⟨rfl, HBB.out⟩
    · have f5 : decide (a1 ≤ a0) = true := by simpa using f4
      have f6 := HMO.out (.inr ⟨f1, f4⟩)
      have f7 : (p0 : Int) ≤ (p1 : Int) := by omega
      go_wp2_with fail
      go_ret
      exact ⟨by simp; try omega, HBB.out⟩
  · have f2 : decide (a0 < 0) = false := by simpa using f1
    have f2' : ¬ a0 < 0 := by omega
    have f3 : decide (0 ≤ a0) = true := by simpa using f1
    rcases Int.lt_or_le a1 a0 with f4 | f4
    · have f5 : decide (a0 ≤ a1) = false := by simp; omega
      have f5' : ¬ a0 ≤ a1 := by omega
      go_wp2_with fail
      go_ret
      exact ⟨rfl, HBB.out⟩
    · have f5 : decide (a0 ≤ a1) = true := by simpa using f4
      have f6 := HMO.out (.inl ⟨f1, f4⟩)
      have f7 : (p0 : Int) ≤ (p1 : Int) := by omega
      go_wp2_with fail
      go_ret
      exact ⟨by simp; try omega, HBB.out⟩
end Go.Proofs.Ytkflnldjckahnaa
