/- The walk of the law CodeCuts: it returns true. No condition but the row's own. -/
import Derived.Test.YtkflnldjckahnaaCodK
set_option linter.unusedVariables false
set_option linter.unusedSimpArgs false
namespace Go.Proofs.Ytkflnldjckahnaa
open Go.RowKit
theorem is_bytes {w : World} {A : Option Addr} {n c : Nat} (h : Sh.Is w (.slice 1 (.int .u8)) [.slice A n c]) : ∃ l : List UInt8, l.length = n ∧ n ≤ c ∧ (A = none → c = 0) ∧ Rd w A (eB.fl l) ∧ c ≤ 140737488351232 := by
  obtain ⟨l, h1, h2, h3, h4, h5, _⟩ := Enc.of_slice (E := eB) (p := fun _ => True) h (fun cs hc => by
    obtain ⟨x, rfl, hx⟩ := hc
    have := bd_u8 hx
    refine ⟨b8 x.toNat, ?_, trivial⟩
    simp [eB, b8_toNat (show x.toNat < 256 by omega)]
    omega)
  exact ⟨l, h1, h3, h4, h5, by omega⟩
set_option maxRecDepth 100000 in
set_option maxHeartbeats 4000000 in
theorem w_CodeCuts (a0 : Array Value) (a1 : Int) (a2 : Option Addr) (n2 c2 : Nat) (w : World) (b0 : Sh.Is w (.pair (.int .i64) (.pair (.slice 8 (.int .i64)) (.pair (.slice 16 .str) .unit))) a0.toList) (b1 : 0 ≤ a1 ∧ a1 ≤ 65535) (b2 : Sh.Is w (.slice 1 (.int .u8)) [.slice a2 n2 c2]) :
    Calls Try.prog 7 #[.agg a0, .int .u16 a1, .slice a2 n2 c2] w fun e w' => e = .returned (.bool true) ∧ Below w.heap.size w w' := by
  obtain ⟨l2, hl2, hn2, hA2, hR2, hc2⟩ := is_bytes b2
  have HL2 := Lib.hid hl2; have HA2 := Lib.hid hA2; have HR2 := Lib.hid hR2
  obtain ⟨N, rfl⟩ : ∃ N : Nat, a1 = N := ⟨a1.toNat, by omega⟩
  have hN : N ≤ 65535 := by omega
  clear hl2 hA2 hR2 b2 b1
  obtain ⟨k, ns, ts, An, At, n, t, cn, ct, hx, hR, _, hi, hsz, ⟨hcn, hct⟩, hr5, hr6, hr7, hr8⟩ := is_rec b0
  obtain rfl : a0 = #[.int .i64 k, .slice An n cn, .slice At t ct] := by rw [← Array.toList_inj]; exact hx
  clear hx b0
  obtain ⟨g, hg⟩ : ∃ g, w.heap.size = g := ⟨_, rfl⟩
  have HS := Lib.hid ((Sep.nil w).newBlk #[.int .i64 k, .slice An n cn, .slice At t ct] tRec hg)
  have HR := Lib.hid (hR.below HS.out.bel)
  have HG := Lib.hid hg; have HR0 := Lib.hid hR
  have HN := Lib.hid (And.intro (show ns.length = n from hR.hn) (show ts.length = t from hR.ht))
  have HI := Lib.hid hi
  clear hR hg hi hsz hr5 hr6 hr7 hr8
  go_enter Try.func7, Try.ntmps7
  go_wp2_with fail
  rw [HG.out]
  refine (awake_any _).mono ?_
  rintro e w1 ⟨rfl, hB⟩
  have HS := Lib.hid (HS.out.step hB); have HR := Lib.hid (HR.out.below hB)
  clear hB HG
  have HC : Hid (∀ w', Blk w' g #[.int .i64 k, .slice An n cn, .slice At t ct] tRec → w'.cell? ⟨g, 0, none⟩ = some (.int .i64 k) ∧ w'.cell? ⟨g, 1, none⟩ = some (.slice An n cn) ∧ w'.cell? ⟨g, 2, none⟩ = some (.slice At t ct)) := Lib.hid (fun w' h => ⟨h.cell 0, h.cell 1, h.cell 2⟩)
  obtain ⟨y0, y1, y2⟩ := HC.out _ HS.out.hd
  go_wp2_with fail
  refine (largeB_any ⟨k, ns, ts⟩ An At n t cn ct _ HR.out).mono ?_
  rintro e w2 ⟨rfl, hw2⟩
  have hB : Below w1.heap.size w1 w2 := by rw [hw2]; exact (Below.refl _ _).alloc (Nat.le_refl _) _
  have HS := Lib.hid (HS.out.step hB); have HR := Lib.hid (HR.out.below hB)
  clear hB hw2 y0 y1 y2
  by_cases hl : 1000 < n ∨ 1000 < t
  · rw [decide_eq_true hl]
    clear hl
    go_wp2_with fail
    go_ret
    exact ⟨rfl, HS.out.bel⟩
  rw [decide_eq_false hl]
  clear hl
  obtain ⟨y0, y1, y2⟩ := HC.out _ HS.out.hd
  by_cases h4096 : 4096 < n2
  · have e1 : (4096 : Int) < (n2 : Int) := by omega
    go_wp2_with fail
    go_ret
    exact ⟨rfl, HS.out.bel⟩
  have e1 : ¬ (4096 : Int) < (n2 : Int) := by omega
  have e2 : decide ((4096 : Int) < (n2 : Int)) = false := by simp; omega
  cases hm : mayB ⟨k, ns, ts⟩
  · have HM := Lib.hid hm
    clear hm
    go_wp2_with fail
    refine (encode_no k ns ts An At n t cn ct _ HR.out HM.out).mono ?_
    rintro e w3 ⟨rfl, hB⟩
    have HB := Lib.hid (HS.out.step hB).bel
    clear hB y0 y1 y2
    go_wp2_with fail
    go_ret
    exact ⟨rfl, HB.out⟩
  have HM := Lib.hid hm
  clear hm
  go_wp2_with fail
  refine (encode_yes k ns ts An At n t cn ct _ HR.out HM.out HI.out).mono ?_
  rintro e w3 ⟨v3, rfl, hr⟩
  obtain ⟨l, hl⟩ : ∃ l, encB ⟨k, ns, ts⟩ = l := ⟨_, rfl⟩
  have hlen : l.length ≤ 1162 := by rw [← hl]; exact enc_bound HM.out HI.out
  have HEN := Lib.hid hl
  rw [hl] at hr
  obtain ⟨m, hml⟩ : ∃ m, l.length = m := ⟨_, rfl⟩
  have hm0 : 0 < m := by rw [← hml, ← hl]; exact List.length_pos_iff.2 (enc_ne _)
  rw [hml] at hlen
  have HS := Lib.hid (HS.out.withRow hr hml)
  obtain ⟨A3, c3, rfl, _⟩ := hr.form
  have HML := Lib.hid hml
  obtain ⟨i, hi⟩ : ∃ i, N % m = i := ⟨_, rfl⟩
  have him : i < m := by rw [← hi]; exact Nat.mod_lt _ hm0
  have HD1 := Lib.hid (show decB (l.take i) = none by rw [← hl]; exact dec_cut HM.out HI.out (by rw [hl, hml]; exact him))
  have hmod : ((N : Int).tmod (m : Int)) = (i : Int) := by rw [← hi]; rw [Int.tmod_eq_emod_of_nonneg (by omega)]; rfl
  have hmod2 : ((N : Int) % (m : Int)) = (i : Int) := by rw [← hi]; rfl
  have hz : ((m : Int) == 0) = false := by simp; omega
  clear hr hl y0 y1 y2 HR
  rw [hml] at HS ⊢
  clear hml
  have hmc := (Own.cap HS.out.hd).1
  have q1 : (i : Int) ≤ (c3 : Int) := by omega
  have q0 : (0 : Int) ≤ (i : Int) := by omega
  have q2 : IntKind.i64.wrap (i : Int) = (i : Int) := IntWalk.i64_in _ (by omega)
  have HE := Lib.hid (decode_any A3 (l.take i) i c3 w3 (by rw [List.length_take, HML.out]; omega) (by rw [Enc.take]; exact (Own.rd HS.out.hd).take _) (by omega) (fun e => ((Own.cap HS.out.hd).2 e).2) (Own.big HS.out.hd))
  rw [HD1.out] at HE
  go_wp2_with fail
  refine HE.out.mono ?_
  rintro e w4 ⟨rfl, hB⟩
  have HS := Lib.hid ((HS.out.step hB).alloc (.cells zRec tRec))
  clear hB HE q0 q1 q2 hmod hmod2 hz hi
  go_upto_region 9 with fail
  generalize w4.alloc (.cells #[.int .i64 0, .slice none 0 0, .slice none 0 0] tRec) = w5 at *
  generalize w4.heap.size = g5 at *
  have HS2 := Lib.hid (HS.out.newRow tB 1 (g := w5.heap.size) rfl)
  have HB1 := Lib.hid (show (0 + m) * 1 ≤ 140737488355328 by omega); have HB2 := Lib.hid (show (0 + m + n2) * 1 ≤ 140737488355328 by omega)
  go_wp2_with (first
    | (at_builtin; refine appendO 28 tB (.int .u8 0) 1 1 (eB.fl l) m HS2.out.own HB1.out Try.underlying28 Try.infoB rfl (by decide) (by decide) (by rw [Enc.length, HML.out]; rfl) (Enc.ones _) A3 c3 (Own.rd HS2.out.h2) (Own.cap HS2.out.h2).2 (.tmp 41) (.tmp 42) rfl rfl rfl rfl ?_; intro v5 w5 ho hg hat; have HS5 := Lib.hid (HS2.out.app ho hg hat); clear ho hg hat)
    | (at_builtin; refine appendO 28 tB (.int .u8 0) 1 1 (eB.fl l2) n2 HS5.out.own HB2.out Try.underlying28 Try.infoB rfl (by decide) (by decide) (by rw [Enc.length, HL2.out]; rfl) (Enc.ones _) a2 c2 (HR2.out.below HS5.out.bel) (fun e => ⟨by have := HA2.out e; omega, HA2.out e⟩) (.tmp 43) (.tmp 44) rfl rfl rfl rfl ?_; intro v6 w6 ho hg hat; have HS6 := Lib.hid (HS5.out.app ho hg hat); clear ho hg hat))
  obtain ⟨A6, c6, rfl, _⟩ := HS6.out.own.form
  have ho := HS6.out.own
  rw [List.nil_append, ← Enc.app] at ho
  have HE := Lib.hid (decode_any A6 (l ++ l2) (0 + m + n2) c6 _ (by rw [List.length_append, HML.out, HL2.out]; omega) ho.rd ho.cap.1 (fun e => (ho.cap.2 e).2) ho.big)
  clear ho
  by_cases hz : n2 = 0
  · have HD2 := Lib.hid (show decB (l ++ l2) = some ⟨k, ns, ts⟩ by
      have h2 : l2 = [] := List.eq_nil_of_length_eq_zero (by rw [HL2.out]; exact hz)
      rw [h2, List.append_nil, ← HEN.out]; exact dec_enc HM.out HI.out)
    rw [HD2.out] at HE
    subst hz
    refine HE.out.mono ?_
    rintro e w7 ⟨An9, At9, cn9, ct9, rfl, hs9⟩
    have HB := Lib.hid (((HS6.out.join hs9).alloc (.cells #[.int .i64 k, .slice An9 ns.length cn9, .slice At9 ts.length ct9] tRec)).bel)
    clear hs9 HE HS2 HS5 HS6 HS
    go_wp2_with fail
    go_ret
    exact ⟨rfl, HB.out⟩
  · have HD2 := Lib.hid (show decB (l ++ l2) = none by
      rw [← HEN.out]; exact dec_more (rest := l2) HM.out HI.out (fun e => hz (by rw [← HL2.out, e]; rfl)))
    rw [HD2.out] at HE
    have f1 : ((n2 : Int) == 0) = false := by simp; omega
    refine HE.out.mono ?_
    rintro e w7 ⟨rfl, hB⟩
    have HB := Lib.hid (((HS6.out.step hB).alloc (.cells zRec tRec)).bel)
    clear hB HE HS2 HS5 HS6 HS hz
    go_wp2_with fail
    go_ret
    exact ⟨rfl, HB.out⟩
end Go.Proofs.Ytkflnldjckahnaa
