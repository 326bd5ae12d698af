/- The walks of package client and of the document's: copies of rows, results, going on, new clients. Conditions: at most 1000 calls. -/
import Derived.Test.YtodjmeodcmbdoaaCliW
import Derived.Laws.StructEq
set_option linter.unusedVariables false
set_option linter.unusedSimpArgs false
namespace Go.Proofs.Ytodjmeodcmbdoaa
open Go.RowKit
theorem cloneC_any (A : Option Addr) (n c : Nat) (l : List Cal) (w : World) (hl : l.length = n) (hn : n * 32 ≤ 140737488355328) (hr : Rd w A (eC.fl l)) (hz : A = none → n = 0 ∧ c = 0) :
    Calls Try.prog 28 #[.slice A n c] w fun e w' => ∃ v, e = .returned v ∧ Own w' tCa 3 v n (eC.fl l) ∧ Below w.heap.size w w' ∧ ∀ g, v.ownBlock = some g → w.heap.size ≤ g := by
  have qT : ∀ (w : World) (a : Option Addr) (n c n' c' : Nat), (binOp .eql 22 (.slice a n c) (.slice none n' c')).run Try.prog w = .ok (.bool a.isNone) w := fun w a n c n' c' => Lib.run_eql_slice_nil w _ _ a n c n' c' Try.underlying22
  have HL := Lib.hid hl; clear hl
  have HR := Lib.hid hr; clear hr
  cases A with
  | none =>
    obtain ⟨rfl, rfl⟩ := hz rfl
    have hl0 : l = [] := List.eq_nil_of_length_eq_zero HL.out
    subst hl0
    go_enter Try.func28, Try.ntmps28
    go_wp2
    go_ret
    exact ⟨_, rfl, Own.nil _ _ _, Below.refl _ _, fun g hg => by simp [Value.ownBlock] at hg⟩
  | some a =>
    clear hz
    have ho := Lib.hid (Own.empty w tCa 3 (g := w.heap.size) rfl)
    have hb : Below w.heap.size w (w.alloc (.cells #[] tCa)) := (Below.refl _ _).alloc (Nat.le_refl _) _
    have HB := Lib.hid hb; clear hb
    go_enter Try.func28, Try.ntmps28
    go_wp2_with (at_builtin; refine appendO 22 tCa (.agg #[.int .i64 0, .int .i64 0, .string ByteArray.empty]) 3 32 (eC.fl l) n ho.out (by omega) Try.underlying22 Try.infoCa rfl (by decide) (by decide) (by rw [Enc.length, HL.out]; rfl) (Enc.ones l) (some a) c (HR.out.below HB.out) (fun e => nomatch e) (.tmp 5) (.tmp 6) rfl rfl rfl rfl ?_; intro v1 w2 hown2 hg2 hat2)
    go_ret
    refine ⟨_, rfl, by simpa using hown2, HB.out.grown hg2 (by simp) (fun k hk => ?_), fun g hg => ?_⟩
    · simp [Value.ownBlock] at hk
      omega
    · have hg : v1.ownBlock = some g := hg
      rcases hat2 with e | e
      · rw [e] at hg; simp [Value.ownBlock] at hg; omega
      · rw [e] at hg; simp at hg; omega
theorem cloneR_any (A : Option Addr) (n c : Nat) (l : List Res) (w : World) (hl : l.length = n) (hn : n * 24 ≤ 140737488355328) (hr : Rd w A (eRs.fl l)) (hz : A = none → n = 0 ∧ c = 0) :
    Calls Try.prog 34 #[.slice A n c] w fun e w' => ∃ v, e = .returned v ∧ Own w' tRs 2 v n (eRs.fl l) ∧ Below w.heap.size w w' ∧ ∀ g, v.ownBlock = some g → w.heap.size ≤ g := by
  have qT : ∀ (w : World) (a : Option Addr) (n c n' c' : Nat), (binOp .eql 44 (.slice a n c) (.slice none n' c')).run Try.prog w = .ok (.bool a.isNone) w := fun w a n c n' c' => Lib.run_eql_slice_nil w _ _ a n c n' c' Try.underlying44
  have HL := Lib.hid hl; clear hl
  have HR := Lib.hid hr; clear hr
  cases A with
  | none =>
    obtain ⟨rfl, rfl⟩ := hz rfl
    have hl0 : l = [] := List.eq_nil_of_length_eq_zero HL.out
    subst hl0
    go_enter Try.func34, Try.ntmps34
    go_wp2
    go_ret
    exact ⟨_, rfl, Own.nil _ _ _, Below.refl _ _, fun g hg => by simp [Value.ownBlock] at hg⟩
  | some a =>
    clear hz
    have ho := Lib.hid (Own.empty w tRs 2 (g := w.heap.size) rfl)
    have hb : Below w.heap.size w (w.alloc (.cells #[] tRs)) := (Below.refl _ _).alloc (Nat.le_refl _) _
    have HB := Lib.hid hb; clear hb
    go_enter Try.func34, Try.ntmps34
    go_wp2_with (at_builtin; refine appendO 44 tRs (.agg #[.int .i64 0, .string ByteArray.empty]) 2 24 (eRs.fl l) n ho.out (by omega) Try.underlying44 Try.infoRs rfl (by decide) (by decide) (by rw [Enc.length, HL.out]; rfl) (Enc.ones l) (some a) c (HR.out.below HB.out) (fun e => nomatch e) (.tmp 5) (.tmp 6) rfl rfl rfl rfl ?_; intro v1 w2 hown2 hg2 hat2)
    go_ret
    refine ⟨_, rfl, by simpa using hown2, HB.out.grown hg2 (by simp) (fun k hk => ?_), fun g hg => ?_⟩
    · simp [Value.ownBlock] at hk
      omega
    · have hg : v1.ownBlock = some g := hg
      rcases hat2 with e | e
      · rw [e] at hg; simp [Value.ownBlock] at hg; omega
      · rw [e] at hg; simp at hg; omega
section
variable {w W : World} {l : List Th} {b : Nat} {cv rv : Value} {c : Cst}
theorem results_sep (h : Sep w W (tCli tCl b cv rv c :: l)) (g : Good c) :
    Calls Try.prog 18 #[.pointer (some ⟨b, 0, none⟩)] W fun e W' => ∃ A q, e = .returned (.slice A c.rs.length q) ∧ Sep w W' (tOwn tRs 2 (.slice A c.rs.length q) c.rs.length (eRs.fl c.rs) :: tCli tCl b cv rv c :: l) := by
  obtain ⟨_, A, q, rfl, _, hA, hR⟩ := h.cliForm
  obtain ⟨_, _, z2, _⟩ := h.cliCells
  have HT := Lib.hid h
  have HA := Lib.hid hA
  have HR := Lib.hid hR
  have HN := Lib.hid (show c.rs.length * 24 ≤ 140737488355328 by have := g.n; have := g.m; omega)
  clear h hA hR g
  go_enter Try.func18, Try.ntmps18
  go_wp2_with (go_at_call 34; refine (cloneR_any A c.rs.length q c.rs W rfl HN.out HR.out HA.out).mono ?_; rintro e w1 ⟨v, rfl, ho1, hB1, hG1⟩)
  go_ret
  obtain ⟨A1, c1, rfl, _⟩ := ho1.form
  exact ⟨A1, c1, rfl, HT.out.new (t := tOwn tRs 2 (.slice A1 c.rs.length c1) c.rs.length (eRs.fl c.rs)) hB1 ho1 (fun k hk => hG1 k hk)⟩
theorem one2 (x : Int) (s : ByteArray) : ∀ u ∈ [Value.int .i64 x, Value.string s], u.oneCell' = true := by
  intro u hu
  simp only [List.mem_cons, List.not_mem_nil, or_false] at hu
  rcases hu with rfl | rfl <;> rfl
set_option maxRecDepth 100000 in
theorem on_sep (h : Sep w W (tCli tCl b cv rv c :: l)) (g : Good c) :
    Calls Try.prog 29 #[.pointer (some ⟨b, 0, none⟩)] W fun e W' => e = .returned (.tuple #[]) ∧ ∃ rv', Sep w W' (tCli tCl b cv rv' c.fwd :: l) := by
  obtain ⟨pl, nd, cs, rs0⟩ := c
  obtain ⟨n, hn⟩ : ∃ n, cs.length = n := ⟨_, rfl⟩
  have HN := Lib.hid hn
  have hn1 : n ≤ 1000 := by rw [← hn]; exact g.n
  have HM0 := Lib.hid (show rs0.length ≤ n by rw [← hn]; exact g.m)
  have HND := Lib.hid g.node
  have HS0 := Lib.hid h
  clear h g hn
  go_enter Try.func29, Try.ntmps29
  go_wp2_with fail
  go_loopg [] (n - rs0.length) (fun gk wr => ∃ (rs : List Res) (rv' : Value) (m : Nat), rs.length = m ∧ m ≤ n ∧ gk = n - m ∧ onR cs rs = onR cs rs0 ∧ Sep w wr (tCli tCl b cv rv' ((Cst.mk pl nd cs rs0).put rs) :: l))
  case atStart => exact ⟨rs0, rv, rs0.length, rfl, HM0.out, rfl, rfl, HS0.out⟩
  case round =>
  obtain ⟨rs, rv', m, hm, hmn, hgk, hon, hS⟩ := hrel
  have HM := Lib.hid hm; have HON := Lib.hid hon; have HS := Lib.hid hS
  clear hm hon hS HS0
  have HGD := Lib.hid (show Good (Cst.mk pl nd cs rs) from ⟨HND.out, by simp only; rw [HN.out]; exact hn1, by simp only; rw [HN.out, HM.out]; exact hmn⟩)
  unfold Cst.put at HS
  simp only at HS
  have HLT := Lib.hid (fun (h : m < n) => show (Cst.mk pl nd cs rs).rs.length < (Cst.mk pl nd cs rs).calls.length by simp only; rw [HN.out, HM.out]; exact h)
  by_cases hlt : m < n
  · have hgt : (0 : Int) < (n : Int) - (m : Int) := by omega
    obtain ⟨x, hx⟩ : ∃ x, mayM (Cst.mk pl nd cs rs).msg = x := ⟨_, rfl⟩
    have HMX := Lib.hid hx
    cases x
    · have HE := Lib.hid (show onR cs (rs ++ [⟨4, noS⟩]) = onR cs rs0 by rw [← HON.out]; exact (onR_no (by rw [HN.out, HM.out]; exact hlt) (by have h2 := hx; rw [Cst.msg, Cst.now_get (by simp only; rw [HN.out, HM.out]; exact hlt)] at h2; exact h2)).symm)
      clear hx hlt
      go_upto_region 1 with (first
        | (go_at_call 20; refine (left_sep HS.out HGD.out).mono ?_; simp only [HN.out, HM.out]; rintro e1 w1 ⟨rfl, hS⟩; have HS := Lib.hid hS; clear hS)
        | (go_at_call 32; refine (msg_sep HS.out HGD.out (HLT.out (by omega))).mono ?_; rintro e1 w2 ⟨rfl, hS⟩; have HS := Lib.hid hS; clear hS)
        | (go_at_call 36; refine (mmay_any _ _).mono ?_; rw [HMX.out]; rintro e1 w3 ⟨rfl, hB⟩; have HS := Lib.hid (HS.out.step hB); clear hB))
      obtain ⟨⟨A1, q1, rfl, _⟩, ⟨A2, q2, rfl, _⟩⟩ := HS.out.cliForm
      obtain ⟨_, _, z2, _⟩ := HS.out.cliCells
      have HO := Lib.hid HS.out.cli.2.2.1
      have HBK := Lib.hid HS.out.cli.1
      simp only [HM.out, Cst.put] at z2 HO HS HBK
      have hbr : ∀ w, (Instr.build tRs #[(0, .int .i64 4)]).run Try.prog w = .ok (.agg #[.int .i64 4, .string noS]) w := fun w => run_build w tRs _ _ (by kernel_rfl)
      have HL := Lib.hid (show (m + 1) * 24 ≤ 140737488355328 by omega)
      go_wp2_with (at_builtin; refine app1O 44 tRs (.agg #[.int .i64 0, .string ByteArray.empty]) 2 24 [.int .i64 4, .string noS] HO.out HL.out Try.underlying44 Try.infoRs rfl (by decide) (by decide) rfl (one2 _ _) (.tmp 15) (.tmp 17) rfl rfl rfl rfl ?_; intro v1 w4 ho1 hg1 hat1; obtain ⟨A9, c9, rfl, _⟩ := ho1.form; have HO1 := Lib.hid ho1; have HG1 := Lib.hid hg1; have HA1 := Lib.hid hat1; have hbk := HBK.out.upd (Upd.of_grown hg1) (fun e => HO.out.ne HBK.out (by decide) e.symm); have z9 := hbk.cell 2; have f9 := hbk.frozen 2; simp at z9; clear ho1 hg1 hat1 hbk)
      go_roundg (n - (m + 1))
      case measure => omega
      case rel =>
        have ho := HO1.out
        rw [show [Value.int .i64 4, Value.string noS] = eRs.f ⟨4, noS⟩ from rfl, ← Enc.snoc] at ho
        exact ⟨rs ++ [⟨4, noS⟩], _, m + 1, by rw [List.length_append, HM.out]; rfl, by omega, rfl, HE.out, HS.out.cliApp (rs2 := rs ++ [⟨4, noS⟩]) (Below.refl _ _) ho HG1.out HA1.out (by rw [List.length_append, HM.out]; rfl)⟩
    · have HE := Lib.hid (show onR cs rs0 = rs by rw [← HON.out]; exact onR_may (by rw [HN.out, HM.out]; exact hlt) (by have h2 := hx; rw [Cst.msg, Cst.now_get (by simp only; rw [HN.out, HM.out]; exact hlt)] at h2; exact h2))
      clear hx hlt
      go_wp2_with (first
        | (go_at_call 20; refine (left_sep HS.out HGD.out).mono ?_; simp only [HN.out, HM.out]; rintro e1 w1 ⟨rfl, hS⟩; have HS := Lib.hid hS; clear hS)
        | (go_at_call 32; refine (msg_sep HS.out HGD.out (HLT.out (by omega))).mono ?_; rintro e1 w2 ⟨rfl, hS⟩; have HS := Lib.hid hS; clear hS)
        | (go_at_call 36; refine (mmay_any _ _).mono ?_; rw [HMX.out]; rintro e1 w3 ⟨rfl, hB⟩; have HS := Lib.hid (HS.out.step hB); clear hB))
      go_end0
      exact ⟨rfl, _, by unfold Cst.fwd; simp only [HE.out]; exact HS.out⟩
  · have hgt : ¬ (0 : Int) < (n : Int) - (m : Int) := by omega
    have hgt2 : decide ((0 : Int) < (n : Int) - (m : Int)) = false := decide_eq_false hgt
    have HE := Lib.hid (show onR cs rs0 = rs by rw [← HON.out]; exact onR_done (by rw [HN.out, HM.out]; exact hlt))
    clear hlt
    go_wp2_with (go_at_call 20; refine (left_sep HS.out HGD.out).mono ?_; simp only [HN.out, HM.out]; rintro e1 w1 ⟨rfl, hS⟩; have HS := Lib.hid hS; clear hS)
    go_end0
    exact ⟨rfl, _, by unfold Cst.fwd; simp only [HE.out]; exact HS.out⟩
set_option maxRecDepth 100000 in
theorem ron_sep (h : Sep w W (tCli tRc b cv rv c :: l)) (g : Good c) :
    Calls Try.prog 30 #[.pointer (some ⟨b, 0, none⟩)] W fun e W' => e = .returned (.tuple #[]) ∧ ∃ rv', Sep w W' (tCli tRc b cv rv' c.fwd :: l) := by
  obtain ⟨pl, nd, cs, rs0⟩ := c
  obtain ⟨n, hn⟩ : ∃ n, cs.length = n := ⟨_, rfl⟩
  have HN := Lib.hid hn
  have hn1 : n ≤ 1000 := by rw [← hn]; exact g.n
  have HM0 := Lib.hid (show rs0.length ≤ n by rw [← hn]; exact g.m)
  have HND := Lib.hid g.node
  have HS0 := Lib.hid h
  clear h g hn
  go_enter Try.func30, Try.ntmps30
  go_wp2_with fail
  go_loopg [] (n - rs0.length) (fun gk wr => ∃ (rs : List Res) (rv' : Value) (m : Nat), rs.length = m ∧ m ≤ n ∧ gk = n - m ∧ onR cs rs = onR cs rs0 ∧ Sep w wr (tCli tRc b cv rv' ((Cst.mk pl nd cs rs0).put rs) :: l))
  case atStart => exact ⟨rs0, rv, rs0.length, rfl, HM0.out, rfl, rfl, HS0.out⟩
  case round =>
  obtain ⟨rs, rv', m, hm, hmn, hgk, hon, hS⟩ := hrel
  have HM := Lib.hid hm; have HON := Lib.hid hon; have HS := Lib.hid hS
  clear hm hon hS HS0
  have HGD := Lib.hid (show Good (Cst.mk pl nd cs rs) from ⟨HND.out, by simp only; rw [HN.out]; exact hn1, by simp only; rw [HN.out, HM.out]; exact hmn⟩)
  unfold Cst.put at HS
  simp only at HS
  have HLT := Lib.hid (fun (h : m < n) => show (Cst.mk pl nd cs rs).rs.length < (Cst.mk pl nd cs rs).calls.length by simp only; rw [HN.out, HM.out]; exact h)
  by_cases hlt : m < n
  · have hgt : (0 : Int) < (n : Int) - (m : Int) := by omega
    obtain ⟨x, hx⟩ : ∃ x, mayM (Cst.mk pl nd cs rs).msg = x := ⟨_, rfl⟩
    have HMX := Lib.hid hx
    cases x
    · have HE := Lib.hid (show onR cs (rs ++ [⟨4, noS⟩]) = onR cs rs0 by rw [← HON.out]; exact (onR_no (by rw [HN.out, HM.out]; exact hlt) (by have h2 := hx; rw [Cst.msg, Cst.now_get (by simp only; rw [HN.out, HM.out]; exact hlt)] at h2; exact h2)).symm)
      clear hx hlt
      go_upto_region 2 with (first
        | (go_at_call 21; refine (rleft_sep HS.out HGD.out).mono ?_; simp only [HN.out, HM.out]; rintro e1 w1 ⟨rfl, hS⟩; have HS := Lib.hid hS; clear hS)
        | (go_at_call 33; refine (rmsg_sep HS.out HGD.out (HLT.out (by omega))).mono ?_; rintro e1 w2 ⟨rfl, hS⟩; have HS := Lib.hid hS; clear hS)
        | (go_at_call 26; refine (rmmay_any _ _).mono ?_; rw [HMX.out]; rintro e1 w3 ⟨rfl, hB⟩; have HS := Lib.hid (HS.out.step hB); clear hB))
      obtain ⟨⟨A1, q1, rfl, _⟩, ⟨A2, q2, rfl, _, hA2, hR2⟩⟩ := HS.out.cliForm
      obtain ⟨_, _, z2, _⟩ := HS.out.cliCells
      have HR2 := Lib.hid hR2; have HA2 := Lib.hid hA2
      have HBK := Lib.hid HS.out.cli.1
      simp only [HM.out, Cst.put] at z2 HR2 HA2 HS HBK
      clear hR2 hA2
      have hbr : ∀ w, (Instr.build tRs #[(0, .int .i64 4)]).run Try.prog w = .ok (.agg #[.int .i64 4, .string noS]) w := fun w => run_build w tRs _ _ (by kernel_rfl)
      have HL := Lib.hid (show (0 + m + 1) * 24 ≤ 140737488355328 by omega)
      have HL0 := Lib.hid (show (0 + m) * 24 ≤ 140737488355328 by omega)
      have HQ := Lib.hid ((Sep.nil w3).newRow tRs 2 (g := w3.heap.size) rfl)
      have z3 := (HBK.out.bel HQ.out.bel).cell 2
      simp at z3
      go_wp2_with (first
        | (at_builtin; refine appendO 44 tRs (.agg #[.int .i64 0, .string ByteArray.empty]) 2 24 (eRs.fl rs) m HQ.out.own HL0.out Try.underlying44 Try.infoRs rfl (by decide) (by decide) (by rw [Enc.length, HM.out]; rfl) (Enc.ones _) A2 q2 (HR2.out.below HQ.out.bel) HA2.out (.tmp 9) (.tmp 13) rfl rfl rfl rfl ?_; intro v1 w4 ho1 hg1 hat1; have HQ1 := Lib.hid (HQ.out.app ho1 hg1 hat1); clear ho1 hg1 hat1)
        | (at_builtin; refine app1O 44 tRs (.agg #[.int .i64 0, .string ByteArray.empty]) 2 24 [.int .i64 4, .string noS] HQ1.out.own HL.out Try.underlying44 Try.infoRs rfl (by decide) (by decide) rfl (one2 _ _) (.tmp 14) (.tmp 16) rfl rfl rfl rfl ?_; intro v2 w5 ho2 hg2 hat2; obtain ⟨A9, c9, rfl, _⟩ := ho2.form; have HQ2 := Lib.hid (HQ1.out.appG ho2 hg2 hat2); have z9 := (HBK.out.bel HQ2.out.bel).cell 2; have f9 := (HBK.out.bel HQ2.out.bel).frozen 2; simp at z9; clear ho2 hg2 hat2))
      go_roundg (n - (m + 1))
      case measure => omega
      case rel =>
        have ho := HQ2.out
        rw [List.nil_append, Nat.zero_add, show [Value.int .i64 4, Value.string noS] = eRs.f ⟨4, noS⟩ from rfl, ← Enc.snoc] at ho
        exact ⟨rs ++ [⟨4, noS⟩], _, m + 1, by rw [List.length_append, HM.out]; rfl, by omega, rfl, HE.out, HS.out.cliSet (rs2 := rs ++ [⟨4, noS⟩]) ho (by rw [List.length_append, HM.out]; simp)⟩
    · have HE := Lib.hid (show onR cs rs0 = rs by rw [← HON.out]; exact onR_may (by rw [HN.out, HM.out]; exact hlt) (by have h2 := hx; rw [Cst.msg, Cst.now_get (by simp only; rw [HN.out, HM.out]; exact hlt)] at h2; exact h2))
      clear hx hlt
      go_wp2_with (first
        | (go_at_call 21; refine (rleft_sep HS.out HGD.out).mono ?_; simp only [HN.out, HM.out]; rintro e1 w1 ⟨rfl, hS⟩; have HS := Lib.hid hS; clear hS)
        | (go_at_call 33; refine (rmsg_sep HS.out HGD.out (HLT.out (by omega))).mono ?_; rintro e1 w2 ⟨rfl, hS⟩; have HS := Lib.hid hS; clear hS)
        | (go_at_call 26; refine (rmmay_any _ _).mono ?_; rw [HMX.out]; rintro e1 w3 ⟨rfl, hB⟩; have HS := Lib.hid (HS.out.step hB); clear hB))
      refine bodyPost_ret (results_none rfl _ _ _) rfl ?_
      exact ⟨rfl, _, by unfold Cst.fwd; simp only [HE.out]; exact HS.out⟩
  · have hgt : ¬ (0 : Int) < (n : Int) - (m : Int) := by omega
    have hgt2 : decide ((0 : Int) < (n : Int) - (m : Int)) = false := decide_eq_false hgt
    have HE := Lib.hid (show onR cs rs0 = rs by rw [← HON.out]; exact onR_done (by rw [HN.out, HM.out]; exact hlt))
    clear hlt
    go_wp2_with (go_at_call 21; refine (rleft_sep HS.out HGD.out).mono ?_; simp only [HN.out, HM.out]; rintro e1 w1 ⟨rfl, hS⟩; have HS := Lib.hid hS; clear hS)
    go_end0
    exact ⟨rfl, _, by unfold Cst.fwd; simp only [HE.out]; exact HS.out⟩
end
end Go.Proofs.Ytodjmeodcmbdoaa
