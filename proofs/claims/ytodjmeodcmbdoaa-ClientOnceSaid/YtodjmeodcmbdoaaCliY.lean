/- The walks of package client and of the document's: new clients, letters that are sent. Conditions: sizes. -/
import Derived.Test.YtodjmeodcmbdoaaCliX
set_option linter.unusedVariables false
set_option linter.unusedSimpArgs false
namespace Go.Proofs.Ytodjmeodcmbdoaa
open Go.RowKit
theorem infoL3 : (Try.prog.info? tLt).map (·.size) = some 3 := by kernel_rfl
theorem let1 (l : Let) : l.cs.all (·.oneCell') = true := by simp [Let.cs, Value.oneCell']
section
variable {w W : World} {l : List Th} {b : Nat} {cv rv : Value} {c : Cst}
theorem cnew_no (h : Sep w W l) (pl : Int) (cs : List Cal) (A : Option Addr) (n q : Nat) (hl : cs.length = n) (hok : newOk pl cs = false) :
    Calls Try.prog 10 #[.int .i64 pl, .slice A n q] W fun e W' => e = .returned (.pointer none) ∧ W' = W := by
  clear h
  unfold newOk at hok
  rw [hl] at hok
  clear hl
  by_cases h1 : pl < 4
  · have f1 : decide (pl < 4) = true := decide_eq_true h1
    clear hok
    go_enter Try.func10, Try.ntmps10
    go_wp2
    go_ret
    exact ⟨rfl, rfl⟩
  have f1 : decide (pl < 4) = false := decide_eq_false h1
  by_cases h2 : 7 < pl
  · have f2 : 8 ≤ pl := by omega
    have f3 : decide (8 ≤ pl) = true := decide_eq_true (by omega)
    clear hok
    go_enter Try.func10, Try.ntmps10
    go_wp2
    go_ret
    exact ⟨rfl, rfl⟩
  have f2 : decide (8 ≤ pl) = false := decide_eq_false (by omega)
  have f2' : ¬ 8 ≤ pl := by omega
  have h3 : 1000 < n := by
    rcases Nat.lt_or_ge 1000 n with h | h
    · exact h
    · rw [decide_eq_true (show 4 ≤ pl by omega), decide_eq_true (show pl ≤ 7 by omega), decide_eq_true (show n ≤ 1000 from h)] at hok
      cases hok
  have f3 : (1000 : Int) < (n : Int) := by omega
  clear hok
  go_enter Try.func10, Try.ntmps10
  go_wp2
  go_ret
  exact ⟨rfl, rfl⟩
theorem rnew_no (h : Sep w W l) (pl : Int) (cs : List Cal) (A : Option Addr) (n q : Nat) (hl : cs.length = n) (hok : newOk pl cs = false) :
    Calls Try.prog 11 #[.int .i64 pl, .slice A n q] W fun e W' => e = .returned (.pointer none) ∧ W' = W := by
  clear h
  unfold newOk at hok
  rw [hl] at hok
  clear hl
  by_cases h1 : pl < 4
  · have f1 : decide (pl < 4) = true := decide_eq_true h1
    clear hok
    go_enter Try.func11, Try.ntmps11
    go_wp2
    go_ret
    exact ⟨rfl, rfl⟩
  have f1 : decide (pl < 4) = false := decide_eq_false h1
  by_cases h2 : 7 < pl
  · have f2 : 7 < pl := h2
    have f3 : decide (7 < pl) = true := decide_eq_true h2
    clear hok
    go_enter Try.func11, Try.ntmps11
    go_wp2
    go_ret
    exact ⟨rfl, rfl⟩
  have f2 : decide (7 < pl) = false := decide_eq_false h2
  have f2' : ¬ 7 < pl := h2
  have h3 : 1000 < n := by
    rcases Nat.lt_or_ge 1000 n with h | h
    · exact h
    · rw [decide_eq_true (show 4 ≤ pl by omega), decide_eq_true (show pl ≤ 7 by omega), decide_eq_true (show n ≤ 1000 from h)] at hok
      cases hok
  have f3 : (1000 : Int) < (n : Int) := by omega
  clear hok
  go_enter Try.func11, Try.ntmps11
  go_wp2
  go_ret
  exact ⟨rfl, rfl⟩
theorem cnew_yes (h : Sep w W l) (pl : Int) (cs : List Cal) (A : Option Addr) (n q : Nat) (hl : cs.length = n) (hr : Rd W A (eC.fl cs)) (hA : A = none → n = 0 ∧ q = 0) (hok : newOk pl cs = true) :
    Calls Try.prog 10 #[.int .i64 pl, .slice A n q] W fun e W' => ∃ b cv rv, e = .returned (.pointer (some ⟨b, 0, none⟩)) ∧ Sep w W' (tCli tCl b cv rv (newC pl cs) :: l) := by
  have HL := Lib.hid hl
  have HS := Lib.hid h; have HR := Lib.hid hr; have HA := Lib.hid hA
  have h3 := hok
  unfold newOk at h3
  rw [hl] at h3
  simp only [Bool.and_eq_true, decide_eq_true_eq] at h3
  obtain ⟨h1, h2, h3⟩ := h3
  have HGD := Lib.hid (show Good (Cst.mk pl 0 cs []) from ⟨.inl rfl, by simp only; rw [hl]; exact h3, Nat.zero_le _⟩)
  have HQ := Lib.hid (show n * 32 ≤ 140737488355328 by omega)
  have f1 : decide (pl < 4) = false := decide_eq_false (by omega)
  have f1' : ¬ pl < 4 := by omega
  have f2 : decide (8 ≤ pl) = false := decide_eq_false (by omega)
  have f2' : ¬ 8 ≤ pl := by omega
  have f4 : decide (7 < pl) = false := decide_eq_false (by omega)
  have f4' : ¬ 7 < pl := by omega
  have f3 : decide ((1000 : Int) < (n : Int)) = false := decide_eq_false (by omega)
  have f3' : ¬ (1000 : Int) < (n : Int) := by omega
  clear hl h hr hA hok h1 h2
  have hbc : ∀ (w : World) (A : Option Addr) (c : Nat), (Instr.build tCl #[(0, .int .i64 pl), (1, .slice A n c)]).run Try.prog w = .ok (.agg #[.int .i64 pl, .slice A n c, .slice none 0 0, .int .i64 0]) w := fun w A c => run_build w tCl _ _ (by kernel_rfl)
  go_enter Try.func10, Try.ntmps10
  go_upto_region 4 with (go_at_call 28; refine (cloneC_any A n q cs W HL.out HQ.out HR.out HA.out).mono ?_; rintro e w1 ⟨v, rfl, ho1, hB1, hG1⟩; obtain ⟨A1, c1, rfl, _⟩ := ho1.form; have HS1 := Lib.hid (HS.out.new (t := tOwn tCa 3 (.slice A1 n c1) n (eC.fl cs)) hB1 ho1 (fun k hk => hG1 k hk)); clear ho1 hB1 hG1)
  have HS2 := Lib.hid (HS1.out.cliNew (c := Cst.mk pl 0 cs []) (T := tCl) (b := w1.heap.size) HL.out rfl (by decide) rfl)
  simp only at HS2
  generalize w1.alloc (.cells #[.int .i64 pl, .slice A1 n c1, .slice none 0 0, .int .i64 0] tCl) = w2 at *
  generalize w1.heap.size = b at *
  go_wp2_with (go_at_call 29; refine (on_sep HS2.out HGD.out).mono ?_; rintro e w3 ⟨rfl, rv', hS⟩; have HS := Lib.hid hS; clear hS)
  go_ret
  exact ⟨b, _, _, rfl, HS.out⟩
theorem rnew_yes (h : Sep w W l) (pl : Int) (cs : List Cal) (A : Option Addr) (n q : Nat) (hl : cs.length = n) (hr : Rd W A (eC.fl cs)) (hA : A = none → n = 0 ∧ q = 0) (hok : newOk pl cs = true) :
    Calls Try.prog 11 #[.int .i64 pl, .slice A n q] W fun e W' => ∃ b cv rv, e = .returned (.pointer (some ⟨b, 0, none⟩)) ∧ Sep w W' (tCli tRc b cv rv (newC pl cs) :: l) := by
  have HL := Lib.hid hl
  have HS := Lib.hid h; have HR := Lib.hid hr; have HA := Lib.hid hA
  have h3 := hok
  unfold newOk at h3
  rw [hl] at h3
  simp only [Bool.and_eq_true, decide_eq_true_eq] at h3
  obtain ⟨h1, h2, h3⟩ := h3
  have HGD := Lib.hid (show Good (Cst.mk pl 0 cs []) from ⟨.inl rfl, by simp only; rw [hl]; exact h3, Nat.zero_le _⟩)
  have HQ := Lib.hid (show n * 32 ≤ 140737488355328 by omega)
  have f1 : decide (pl < 4) = false := decide_eq_false (by omega)
  have f1' : ¬ pl < 4 := by omega
  have f2 : decide (8 ≤ pl) = false := decide_eq_false (by omega)
  have f2' : ¬ 8 ≤ pl := by omega
  have f4 : decide (7 < pl) = false := decide_eq_false (by omega)
  have f4' : ¬ 7 < pl := by omega
  have f3 : decide ((1000 : Int) < (n : Int)) = false := decide_eq_false (by omega)
  have f3' : ¬ (1000 : Int) < (n : Int) := by omega
  clear hl h hr hA hok h1 h2
  have hbc : ∀ (w : World) (A : Option Addr) (c : Nat), (Instr.build tRc #[(0, .int .i64 pl), (1, .slice A n c)]).run Try.prog w = .ok (.agg #[.int .i64 pl, .slice A n c, .slice none 0 0, .int .i64 0]) w := fun w A c => run_build w tRc _ _ (by kernel_rfl)
  have HQ := Lib.hid (HS.out.newRow tCa 3 (g := W.heap.size) rfl)
  have HL0 := Lib.hid (show (0 + n) * 32 ≤ 140737488355328 by omega)
  have HB := Lib.hid (show Below W.heap.size W (W.alloc (.cells #[] tCa)) from (Below.refl _ _).alloc (Nat.le_refl _) _)
  go_enter Try.func11, Try.ntmps11
  go_upto_region 4 with (at_builtin; refine appendO 22 tCa (.agg #[.int .i64 0, .int .i64 0, .string ByteArray.empty]) 3 32 (eC.fl cs) n HQ.out.own HL0.out Try.underlying22 Try.infoCa rfl (by decide) (by decide) (by rw [Enc.length, HL.out]; rfl) (Enc.ones _) A q (HR.out.below HB.out) HA.out (.tmp 18) (.tmp 19) rfl rfl rfl rfl ?_; intro v1 w1 ho1 hg1 hat1; rw [Nat.zero_add, List.nil_append] at ho1; obtain ⟨A1, c1, rfl, _⟩ := ho1.form; have HS1 := Lib.hid (HQ.out.app ho1 hg1 hat1); clear ho1 hg1 hat1)
  have HS2 := Lib.hid (HS1.out.cliNew (c := Cst.mk pl 0 cs []) (T := tRc) (b := w1.heap.size) HL.out rfl (by decide) rfl)
  simp only at HS2
  generalize w1.alloc (.cells #[.int .i64 pl, .slice A1 n c1, .slice none 0 0, .int .i64 0] tRc) = w2 at *
  generalize w1.heap.size = b at *
  go_wp2_with (go_at_call 30; refine (ron_sep HS2.out HGD.out).mono ?_; rintro e w3 ⟨rfl, rv', hS⟩; have HS := Lib.hid hS; clear hS)
  go_ret
  exact ⟨b, _, _, rfl, HS.out⟩
set_option maxRecDepth 100000 in
theorem poke_sep (h : Sep w W (tCli tCl b cv rv c :: l)) (g : Good c) :
    Calls Try.prog 12 #[.pointer (some ⟨b, 0, none⟩)] W fun e W' => e = .returned (.tuple #[.agg c.poke.cs, .bool c.pokeB]) ∧ Sep w W' (tCli tCl b cv rv c :: l) := by
  obtain ⟨gL, hgL⟩ : ∃ k, W.heap.size = k := ⟨_, rfl⟩
  have HS := Lib.hid ((h.newBlk #[.int .i64 0, .int .i64 0, .string noS] tLt hgL).sw)
  have HG := Lib.hid hgL
  have HGD := Lib.hid g
  obtain ⟨n, hn⟩ : ∃ n, c.calls.length = n := ⟨_, rfl⟩
  obtain ⟨m, hm⟩ : ∃ m, c.rs.length = m := ⟨_, rfl⟩
  have HN := Lib.hid (And.intro hn hm)
  have hmn : m ≤ n := by rw [← hn, ← hm]; exact g.m
  clear h g hn hm hgL
  go_enter Try.func12, Try.ntmps12
  go_upto_region 1 with fail
  rw [HG.out]
  generalize W.alloc (.cells #[.int .i64 0, .int .i64 0, .string { data := #[] }] tLt) = W1 at *
  by_cases hlt : m < n
  · have e1 : ¬ ((n : Int) - (m : Int) = 0) := by omega
    have e2 : decide ((n : Int) - (m : Int) = 0) = false := decide_eq_false e1
    have HLT := Lib.hid (show c.rs.length < c.calls.length by rw [HN.out.1, HN.out.2]; exact hlt)
    have HP := Lib.hid (show c.poke = ⟨c.place, c.node, mOut c.msg⟩ ∧ c.pokeB = true from ⟨by unfold Cst.poke; rw [if_pos HLT.out], by unfold Cst.pokeB; exact decide_eq_true HLT.out⟩)
    clear hlt
    go_upto_region 3 with (go_at_call 20; refine (left_sep HS.out HGD.out).mono ?_; simp only [HN.out.1, HN.out.2]; rintro e1 w2 ⟨rfl, hS⟩; have HS := Lib.hid hS; clear hS)
    clear e1 e2
    go_upto_region 4 with (first
      | (go_at_call 32; refine (msg_sep HS.out HGD.out HLT.out).mono ?_; rintro e1 w3 ⟨rfl, hS⟩; have HS := Lib.hid hS; clear hS)
      | (go_at_call 31; refine (mencode_any _ _).mono ?_; rintro e1 w4 ⟨rfl, hB⟩; have HS := Lib.hid (HS.out.step hB); clear hB))
    generalize hx : mOut c.msg = x at *
    have hb : ∀ (w : World), (Instr.build tLt #[(0, .int .i64 c.place), (1, .int .i64 c.node), (2, .string x)]).run Try.prog w = .ok (.agg #[.int .i64 c.place, .int .i64 c.node, .string x]) w := fun w => run_build w tLt _ _ (by kernel_rfl)
    have HC := Lib.hid (show w4.drew.cell? ⟨b, 0, none⟩ = some (.int .i64 c.place) ∧ w4.drew.cell? ⟨b, 3, none⟩ = some (.int .i64 c.node) from ⟨HS.out.drew.cliCells.1, HS.out.drew.cliCells.2.2.2⟩)
    refine wp_region_L (fun w' => w'.cell? ⟨b, 0, none⟩ = some (.int .i64 c.place) ∧ w'.cell? ⟨b, 3, none⟩ = some (.int .i64 c.node)) 10 (by kernel_rfl) HC.out (fun hHeld => ?_)
    refine reg_take (i := 0) (d := 16) (v := ?_) [] rfl rfl (by kernel_rfl) (by kernel_rfl) (fun _ _ _ h => h) (Or.inl ⟨by rfl, ?_⟩) (by assumption) ?_
    rotate_left
    · (intro w hSw; (try dsimp only at hSw); go_simp; first | done | with_reducible rfl)
    try simp only [List.setIfInBounds_toArray, List.set_cons_zero, List.set_cons_succ]
    refine reg_take (i := 1) (d := 17) (v := ?_) [] rfl rfl (by kernel_rfl) (by kernel_rfl) (fun _ _ _ h => h) (Or.inl ⟨by rfl, ?_⟩) (by assumption) ?_
    rotate_left
    · (intro w hSw; (try dsimp only at hSw); go_simp; first | done | with_reducible rfl)
    try simp only [List.setIfInBounds_toArray, List.set_cons_zero, List.set_cons_succ]
    refine reg_take (i := 2) (d := 18) (v := ?_) [] rfl rfl (by kernel_rfl) (by kernel_rfl) (fun _ _ _ h => h) (Or.inl ⟨by rfl, ?_⟩) (by assumption) ?_
    rotate_left
    · (intro w hSw; (try dsimp only at hSw); go_simp; first | done | with_reducible rfl)
    try simp only [List.setIfInBounds_toArray, List.set_cons_zero, List.set_cons_succ]
    refine reg_take (i := 3) (d := 19) (v := ?_) [] rfl rfl (by kernel_rfl) (by kernel_rfl) (fun _ _ _ h => h) (Or.inl ⟨by rfl, ?_⟩) (by assumption) ?_
    rotate_left
    · (intro w hSw; (try dsimp only at hSw); go_simp; first | done | with_reducible rfl)
    try simp only [List.setIfInBounds_toArray, List.set_cons_zero, List.set_cons_succ]
    refine reg_take (i := 4) (d := 20) (v := ?_) [] rfl rfl (by kernel_rfl) (by kernel_rfl) (fun _ _ _ h => h) (Or.inl ⟨by rfl, ?_⟩) (by assumption) ?_
    rotate_left
    · (intro w hSw; (try dsimp only at hSw); go_simp; first | done | with_reducible rfl)
    try simp only [List.setIfInBounds_toArray, List.set_cons_zero, List.set_cons_succ]
    refine reg_take (i := 5) (d := 21) (v := ?_) [] rfl rfl (by kernel_rfl) (by kernel_rfl) (fun _ _ _ h => h) (Or.inl ⟨by rfl, ?_⟩) (by assumption) ?_
    rotate_left
    · (intro w hSw; (try dsimp only at hSw); go_simp; first | done | with_reducible rfl)
    try simp only [List.setIfInBounds_toArray, List.set_cons_zero, List.set_cons_succ]
    refine reg_take (i := 6) (d := 22) (v := ?_) [] rfl rfl (by kernel_rfl) (by kernel_rfl) (fun _ _ _ h => h) (Or.inl ⟨by rfl, ?_⟩) (by assumption) ?_
    rotate_left
    · (intro w hSw; (try dsimp only at hSw); go_simp; first | done | with_reducible rfl)
    try simp only [List.setIfInBounds_toArray, List.set_cons_zero, List.set_cons_succ]
    refine reg_take (i := 7) (d := 23) (v := ?_) [] rfl rfl (by kernel_rfl) (by kernel_rfl) (fun _ _ _ h => h) (Or.inl ⟨by rfl, ?_⟩) (by assumption) ?_
    rotate_left
    · (intro w hSw; (try dsimp only at hSw); go_simp; first | done | with_reducible rfl)
    try simp only [List.setIfInBounds_toArray, List.set_cons_zero, List.set_cons_succ]
    refine reg_take (i := 8) (d := 24) (v := ?_) [] rfl rfl (by kernel_rfl) (by kernel_rfl) (fun _ _ _ h => h) (Or.inl ⟨by rfl, ?_⟩) (by assumption) ?_
    rotate_left
    · (intro w hSw; (try dsimp only at hSw); go_simp; first | done | with_reducible rfl)
    try simp only [List.setIfInBounds_toArray, List.set_cons_zero, List.set_cons_succ]
    refine reg_take (i := 9) (d := 25) (v := ?_) [] rfl rfl (by kernel_rfl) (by kernel_rfl) (fun _ _ _ h => h) (Or.inl ⟨by rfl, ?_⟩) (by assumption) ?_
    rotate_left
    · (intro w hSw; (try dsimp only at hSw); go_simp; first | done | with_reducible rfl)
    try simp only [List.setIfInBounds_toArray, List.set_cons_zero, List.set_cons_succ]
    refine wpAnyL_ready (rs := [10]) (by kernel_rfl) rfl ?_
    refine (AllL.consJ rfl (by kernel_rfl) (fun K hK => ?_) AllL.nil)
    refine stepStoreR #[.int .i64 c.place, .int .i64 c.node, .string x] (show Blk _ gL _ tLt from HS.out.drew.h2) rfl infoL3 (by simp [Value.oneCell']) rfl (.tmp 2) (.tmp 25) rfl rfl rfl ?_
    intro W3 hb3 hu3
    have HB3 := Lib.hid hb3
    have HS3 := Lib.hid (HS.out.drew.sw.put hb3 hu3).tail
    clear hb3 hu3
    refine hK.out _ _ ?_
    try simp only [List.setIfInBounds_toArray, List.set_cons_zero, List.set_cons_succ]
    refine wpAnyL_ready (rs := [11]) (by kernel_rfl) rfl ?_
    refine (AllL.consJ rfl (by kernel_rfl) (fun K hK => ?_) AllL.nil)
    go_simp
    refine hK.out _ _ ?_
    try simp only [List.setIfInBounds_toArray, List.set_cons_zero, List.set_cons_succ]
    refine wpAnyL_done (by kernel_rfl) ?_ _
    go_wp2_with fail
    refine ret_cell_tmp (k := 2) (u := 3) (by kernel_rfl) rfl rfl HB3.out (by kernel_rfl) infoL3 ?_
    exact ⟨by rw [HP.out.1, HP.out.2]; unfold Let.cs; rfl, HS3.out⟩
  · have e0 : m = n := by omega
    have e1 : (n : Int) - (m : Int) = 0 := by omega
    have e2 : decide ((n : Int) - (m : Int) = 0) = true := decide_eq_true e1
    have HP := Lib.hid (show c.poke = ⟨0, 0, noS⟩ ∧ c.pokeB = false from ⟨by unfold Cst.poke; rw [if_neg (by rw [HN.out.1, HN.out.2]; exact hlt)], by unfold Cst.pokeB; exact decide_eq_false (by rw [HN.out.1, HN.out.2]; exact hlt)⟩)
    subst e0
    clear hlt hmn
    go_upto_region 2 with (go_at_call 20; refine (left_sep HS.out HGD.out).mono ?_; simp only [HN.out.1, HN.out.2]; rintro e1 w2 ⟨rfl, hS⟩; have HS := Lib.hid hS; clear hS)
    refine wp_region_lit (l := [_, _, _]) ?_
    refine buildR #[.int .i64 0, .int .i64 0, .string noS] #[] rfl rfl (by kernel_rfl) ?_
    refine storeR #[.int .i64 0, .int .i64 0, .string noS] (show Blk _ gL #[.int .i64 0, .int .i64 0, .string noS] tLt from HS.out.h2) rfl infoL3 (by simp [Value.oneCell']) rfl (.tmp 2) (.tmp 9) rfl rfl rfl ?_
    intro W3 hb3 hu3
    have HB3 := Lib.hid hb3
    have HS3 := Lib.hid (HS.out.sw.put hb3 hu3).tail
    clear hb3 hu3
    go_wp2_with fail
    refine ret_cell_tmp (k := 2) (u := 3) (by kernel_rfl) rfl rfl HB3.out (by kernel_rfl) infoL3 ?_
    exact ⟨by rw [HP.out.1, HP.out.2]; rfl, HS3.out⟩
set_option maxRecDepth 100000 in
theorem rpoke_sep (h : Sep w W (tCli tRc b cv rv c :: l)) (g : Good c) :
    Calls Try.prog 13 #[.pointer (some ⟨b, 0, none⟩)] W fun e W' => e = .returned (.tuple #[.agg c.poke.cs, .bool c.pokeB]) ∧ Sep w W' (tCli tRc b cv rv c :: l) := by
  obtain ⟨gL, hgL⟩ : ∃ k, W.heap.size = k := ⟨_, rfl⟩
  have HS := Lib.hid ((h.newBlk #[.int .i64 0, .int .i64 0, .string noS] tLt hgL).sw)
  have HG := Lib.hid hgL
  have HGD := Lib.hid g
  obtain ⟨n, hn⟩ : ∃ n, c.calls.length = n := ⟨_, rfl⟩
  obtain ⟨m, hm⟩ : ∃ m, c.rs.length = m := ⟨_, rfl⟩
  have HN := Lib.hid (And.intro hn hm)
  have hmn : m ≤ n := by rw [← hn, ← hm]; exact g.m
  clear h g hn hm hgL
  go_enter Try.func13, Try.ntmps13
  go_upto_region 1 with fail
  rw [HG.out]
  generalize W.alloc (.cells #[.int .i64 0, .int .i64 0, .string { data := #[] }] tLt) = W1 at *
  by_cases hlt : m < n
  · have e1 : ¬ ((n : Int) - (m : Int) = 0) := by omega
    have e2 : decide ((n : Int) - (m : Int) = 0) = false := decide_eq_false e1
    have HLT := Lib.hid (show c.rs.length < c.calls.length by rw [HN.out.1, HN.out.2]; exact hlt)
    have HP := Lib.hid (show c.poke = ⟨c.place, c.node, mOut c.msg⟩ ∧ c.pokeB = true from ⟨by unfold Cst.poke; rw [if_pos HLT.out], by unfold Cst.pokeB; exact decide_eq_true HLT.out⟩)
    clear hlt
    go_upto_region 3 with (go_at_call 21; refine (rleft_sep HS.out HGD.out).mono ?_; simp only [HN.out.1, HN.out.2]; rintro e1 w2 ⟨rfl, hS⟩; have HS := Lib.hid hS; clear hS)
    clear e1 e2
    go_upto_region 4 with (first
      | (go_at_call 33; refine (rmsg_sep HS.out HGD.out HLT.out).mono ?_; rintro e1 w3 ⟨rfl, hS⟩; have HS := Lib.hid hS; clear hS)
      | (go_at_call 25; refine (rmencode_any _ _).mono ?_; rintro e1 w4 ⟨rfl, hB⟩; have HS := Lib.hid (HS.out.step hB); clear hB))
    generalize hx : mOut c.msg = x at *
    have hb : ∀ (w : World), (Instr.build tLt #[(0, .int .i64 c.place), (1, .int .i64 c.node), (2, .string x)]).run Try.prog w = .ok (.agg #[.int .i64 c.place, .int .i64 c.node, .string x]) w := fun w => run_build w tLt _ _ (by kernel_rfl)
    have HC := Lib.hid (show w4.drew.cell? ⟨b, 0, none⟩ = some (.int .i64 c.place) ∧ w4.drew.cell? ⟨b, 3, none⟩ = some (.int .i64 c.node) from ⟨HS.out.drew.cliCells.1, HS.out.drew.cliCells.2.2.2⟩)
    refine wp_region_L (fun w' => w'.cell? ⟨b, 0, none⟩ = some (.int .i64 c.place) ∧ w'.cell? ⟨b, 3, none⟩ = some (.int .i64 c.node)) 10 (by kernel_rfl) HC.out (fun hHeld => ?_)
    refine reg_take (i := 0) (d := 16) (v := ?_) [] rfl rfl (by kernel_rfl) (by kernel_rfl) (fun _ _ _ h => h) (Or.inl ⟨by rfl, ?_⟩) (by assumption) ?_
    rotate_left
    · (intro w hSw; (try dsimp only at hSw); go_simp; first | done | with_reducible rfl)
    try simp only [List.setIfInBounds_toArray, List.set_cons_zero, List.set_cons_succ]
    refine reg_take (i := 1) (d := 17) (v := ?_) [] rfl rfl (by kernel_rfl) (by kernel_rfl) (fun _ _ _ h => h) (Or.inl ⟨by rfl, ?_⟩) (by assumption) ?_
    rotate_left
    · (intro w hSw; (try dsimp only at hSw); go_simp; first | done | with_reducible rfl)
    try simp only [List.setIfInBounds_toArray, List.set_cons_zero, List.set_cons_succ]
    refine reg_take (i := 2) (d := 18) (v := ?_) [] rfl rfl (by kernel_rfl) (by kernel_rfl) (fun _ _ _ h => h) (Or.inl ⟨by rfl, ?_⟩) (by assumption) ?_
    rotate_left
    · (intro w hSw; (try dsimp only at hSw); go_simp; first | done | with_reducible rfl)
    try simp only [List.setIfInBounds_toArray, List.set_cons_zero, List.set_cons_succ]
    refine reg_take (i := 3) (d := 19) (v := ?_) [] rfl rfl (by kernel_rfl) (by kernel_rfl) (fun _ _ _ h => h) (Or.inl ⟨by rfl, ?_⟩) (by assumption) ?_
    rotate_left
    · (intro w hSw; (try dsimp only at hSw); go_simp; first | done | with_reducible rfl)
    try simp only [List.setIfInBounds_toArray, List.set_cons_zero, List.set_cons_succ]
    refine reg_take (i := 4) (d := 20) (v := ?_) [] rfl rfl (by kernel_rfl) (by kernel_rfl) (fun _ _ _ h => h) (Or.inl ⟨by rfl, ?_⟩) (by assumption) ?_
    rotate_left
    · (intro w hSw; (try dsimp only at hSw); go_simp; first | done | with_reducible rfl)
    try simp only [List.setIfInBounds_toArray, List.set_cons_zero, List.set_cons_succ]
    refine reg_take (i := 5) (d := 21) (v := ?_) [] rfl rfl (by kernel_rfl) (by kernel_rfl) (fun _ _ _ h => h) (Or.inl ⟨by rfl, ?_⟩) (by assumption) ?_
    rotate_left
    · (intro w hSw; (try dsimp only at hSw); go_simp; first | done | with_reducible rfl)
    try simp only [List.setIfInBounds_toArray, List.set_cons_zero, List.set_cons_succ]
    refine reg_take (i := 6) (d := 22) (v := ?_) [] rfl rfl (by kernel_rfl) (by kernel_rfl) (fun _ _ _ h => h) (Or.inl ⟨by rfl, ?_⟩) (by assumption) ?_
    rotate_left
    · (intro w hSw; (try dsimp only at hSw); go_simp; first | done | with_reducible rfl)
    try simp only [List.setIfInBounds_toArray, List.set_cons_zero, List.set_cons_succ]
    refine reg_take (i := 7) (d := 23) (v := ?_) [] rfl rfl (by kernel_rfl) (by kernel_rfl) (fun _ _ _ h => h) (Or.inl ⟨by rfl, ?_⟩) (by assumption) ?_
    rotate_left
    · (intro w hSw; (try dsimp only at hSw); go_simp; first | done | with_reducible rfl)
    try simp only [List.setIfInBounds_toArray, List.set_cons_zero, List.set_cons_succ]
    refine reg_take (i := 8) (d := 24) (v := ?_) [] rfl rfl (by kernel_rfl) (by kernel_rfl) (fun _ _ _ h => h) (Or.inl ⟨by rfl, ?_⟩) (by assumption) ?_
    rotate_left
    · (intro w hSw; (try dsimp only at hSw); go_simp; first | done | with_reducible rfl)
    try simp only [List.setIfInBounds_toArray, List.set_cons_zero, List.set_cons_succ]
    refine reg_take (i := 9) (d := 25) (v := ?_) [] rfl rfl (by kernel_rfl) (by kernel_rfl) (fun _ _ _ h => h) (Or.inl ⟨by rfl, ?_⟩) (by assumption) ?_
    rotate_left
    · (intro w hSw; (try dsimp only at hSw); go_simp; first | done | with_reducible rfl)
    try simp only [List.setIfInBounds_toArray, List.set_cons_zero, List.set_cons_succ]
    refine wpAnyL_ready (rs := [10]) (by kernel_rfl) rfl ?_
    refine (AllL.consJ rfl (by kernel_rfl) (fun K hK => ?_) AllL.nil)
    refine stepStoreR #[.int .i64 c.place, .int .i64 c.node, .string x] (show Blk _ gL _ tLt from HS.out.drew.h2) rfl infoL3 (by simp [Value.oneCell']) rfl (.tmp 2) (.tmp 25) rfl rfl rfl ?_
    intro W3 hb3 hu3
    have HB3 := Lib.hid hb3
    have HS3 := Lib.hid (HS.out.drew.sw.put hb3 hu3).tail
    clear hb3 hu3
    refine hK.out _ _ ?_
    try simp only [List.setIfInBounds_toArray, List.set_cons_zero, List.set_cons_succ]
    refine wpAnyL_ready (rs := [11]) (by kernel_rfl) rfl ?_
    refine (AllL.consJ rfl (by kernel_rfl) (fun K hK => ?_) AllL.nil)
    go_simp
    refine hK.out _ _ ?_
    try simp only [List.setIfInBounds_toArray, List.set_cons_zero, List.set_cons_succ]
    refine wpAnyL_done (by kernel_rfl) ?_ _
    go_wp2_with fail
    refine ret_cell_tmp (k := 2) (u := 3) (by kernel_rfl) rfl rfl HB3.out (by kernel_rfl) infoL3 ?_
    exact ⟨by rw [HP.out.1, HP.out.2]; unfold Let.cs; rfl, HS3.out⟩
  · have e0 : m = n := by omega
    have e1 : (n : Int) - (m : Int) = 0 := by omega
    have e2 : decide ((n : Int) - (m : Int) = 0) = true := decide_eq_true e1
    have HP := Lib.hid (show c.poke = ⟨0, 0, noS⟩ ∧ c.pokeB = false from ⟨by unfold Cst.poke; rw [if_neg (by rw [HN.out.1, HN.out.2]; exact hlt)], by unfold Cst.pokeB; exact decide_eq_false (by rw [HN.out.1, HN.out.2]; exact hlt)⟩)
    subst e0
    clear hlt hmn
    go_upto_region 2 with (go_at_call 21; refine (rleft_sep HS.out HGD.out).mono ?_; simp only [HN.out.1, HN.out.2]; rintro e1 w2 ⟨rfl, hS⟩; have HS := Lib.hid hS; clear hS)
    refine wp_region_lit (l := [_, _, _]) ?_
    refine buildR #[.int .i64 0, .int .i64 0, .string noS] #[] rfl rfl (by kernel_rfl) ?_
    refine storeR #[.int .i64 0, .int .i64 0, .string noS] (show Blk _ gL #[.int .i64 0, .int .i64 0, .string noS] tLt from HS.out.h2) rfl infoL3 (by simp [Value.oneCell']) rfl (.tmp 2) (.tmp 9) rfl rfl rfl ?_
    intro W3 hb3 hu3
    have HB3 := Lib.hid hb3
    have HS3 := Lib.hid (HS.out.sw.put hb3 hu3).tail
    clear hb3 hu3
    go_wp2_with fail
    refine ret_cell_tmp (k := 2) (u := 3) (by kernel_rfl) rfl rfl HB3.out (by kernel_rfl) infoL3 ?_
    exact ⟨by rw [HP.out.1, HP.out.2]; rfl, HS3.out⟩
end
end Go.Proofs.Ytodjmeodcmbdoaa
