/- The walk of the law ClientDoes: it returns true. No condition but the row's own. -/
import Derived.Test.YtodjmeodcmbdoaaCliB
set_option linter.unusedVariables false
set_option linter.unusedSimpArgs false
namespace Go.Proofs.Ytodjmeodcmbdoaa
open Go.RowKit
set_option maxRecDepth 100000 in
set_option maxHeartbeats 8000000 in
theorem w_ClientDoes (a0 : Int) (a1 : Option Addr) (n1 c1 : Nat) (a2 : Option Addr) (n2 c2 : Nat) (w : World) (b0 : -9223372036854775808 ≤ a0 ∧ a0 ≤ 9223372036854775807) (b1 : Sh.Is w (.slice 32 (.pair (.int .i64) (.pair (.int .i64) (.pair .str .unit)))) [.slice a1 n1 c1]) (b2 : Sh.Is w (.slice 160 (.pair (.int .i64) (.pair (.int .i64) (.pair (.int .i64) (.pair (.pair (.int .i64) (.pair (.int .i64) (.pair (.int .i64) (.pair (.int .i64) (.pair (.int .i64) (.pair (.int .i64) (.pair (.int .i64) (.pair (.pair (.int .i64) (.pair (.int .i64) (.pair (.int .i64) (.pair (.int .i64) .unit)))) (.pair .str (.pair .str .unit)))))))))) (.pair .str .unit)))))) [.slice a2 n2 c2]) :
    Calls Try.prog 3 #[.int .i64 a0, .slice a1 n1 c1, .slice a2 n2 c2] w fun e w' => e = .returned (.bool true) ∧ Below w.heap.size w w' := by
  obtain ⟨cs, hcl, hca, hcr, hcn⟩ := is_calls b1
  obtain ⟨la, hal, har, hab⟩ := is_acts b2
  have HCL := Lib.hid hcl; have HCR := Lib.hid hcr; have HCA := Lib.hid hca; have HAL := Lib.hid hal; have HAR := Lib.hid har
  clear b1 b2 hcl hcr hca hal har
  go_enter Try.func3, Try.ntmps3
  go_wp2_with fail
  refine (awake_any _).mono ?_
  rintro e w1 ⟨rfl, hB1⟩
  have HS := Lib.hid ((Sep.nil w).step hB1)
  clear hB1
  go_wp2_with fail
  refine (large_any cs la a1 a2 n1 n2 c1 c2 w1 HCL.out HAL.out (HCR.out.below HS.out.bel) (HAR.out.below HS.out.bel) hab).mono ?_
  rintro e w2 ⟨r, rfl, hw, hlg⟩
  rw [hw]
  clear hw w2
  cases r
  rotate_left
  · clear hlg
    go_wp2_with fail
    go_ret
    exact ⟨rfl, HS.out.bel⟩
  obtain ⟨hn1100, hlg⟩ := hlg rfl
  have HLG := Lib.hid hlg
  clear hlg
  -- a row of one's own
  have HQ := Lib.hid (HS.out.newRow tCa 3 (g := w1.heap.size) rfl)
  have HL0 := Lib.hid (show (0 + n1) * 32 ≤ 140737488355328 by omega)
  have HBQ := Lib.hid (show Below w1.heap.size w1 (w1.alloc (.cells #[] tCa)) from (Below.refl _ _).alloc (Nat.le_refl _) _)
  go_upto_region 6 with (at_builtin; refine appendO 22 tCa (.agg #[.int .i64 0, .int .i64 0, .string ByteArray.empty]) 3 32 (eC.fl cs) n1 HQ.out.own HL0.out Try.underlying22 Try.infoCa rfl (by decide) (by decide) (by rw [Enc.length, HCL.out]; rfl) (Enc.ones _) a1 c1 (HCR.out.below HQ.out.bel) HCA.out (.tmp 24) (.tmp 25) rfl rfl rfl rfl ?_; intro v2 w2 ho1 hg1 hat1; rw [Nat.zero_add, List.nil_append] at ho1; obtain ⟨A2, q2, rfl, _⟩ := ho1.form; have HS2 := Lib.hid (HQ.out.app ho1 hg1 hat1); clear ho1 hg1 hat1)
  clear HQ HS HL0 HBQ
  cases hok : newOk a0 cs
  · have HK := Lib.hid hok
    clear hok
    go_wp2_with (first
      | (go_at_call 10; refine (cnew_no HS2.out a0 cs A2 n1 q2 HCL.out HK.out).mono ?_; rintro e w3 ⟨rfl, hw⟩; rw [hw]; clear hw)
      | (go_at_call 11; refine (rnew_no HS2.out a0 cs a1 n1 c1 HCL.out HK.out).mono ?_; rintro e w3 ⟨rfl, hw⟩; rw [hw]; clear hw))
    go_ret
    exact ⟨rfl, HS2.out.bel⟩
  have HK := Lib.hid hok
  have HGN := Lib.hid (Good.new hok)
  clear hok
  go_upto_region 7 with (go_at_call 10; refine (cnew_yes HS2.out a0 cs A2 n1 q2 HCL.out HS2.out.own.rd HS2.out.own.cap.2 HK.out).mono ?_; rintro e w3 ⟨b, cv, rv, rfl, hs⟩; have HS3 := Lib.hid hs; clear hs)
  go_upto_region 10 with (go_at_call 11; refine (rnew_yes HS3.out a0 cs a1 n1 c1 HCL.out (HCR.out.below HS3.out.bel) HCA.out HK.out).mono ?_; rintro e w4 ⟨b', cv', rv', rfl, hs⟩; have HS4 := Lib.hid hs.r3; clear hs)
  generalize newC a0 cs = C0 at *
  clear HS2 HS3 HK
  go_wp2_with fail
  go_loopg [47] n1 (fun gk s47 wr => ∃ (j : Nat) (ys : List Cal), s47 = .int .i64 (j : Int) ∧ j ≤ n1 ∧ gk = n1 - j ∧ ys.length = n1 ∧ Sep w wr [tOwn tCa 3 (.slice A2 n1 q2) n1 (eC.fl ys), tCli tRc b' cv' rv' C0, tCli tCl b cv rv C0])
  case atStart => exact ⟨0, cs, rfl, by omega, by omega, HCL.out, HS4.out⟩
  case round =>
  clear HS4
  obtain ⟨j, ys, rfl, hj, hgj, hys, ht⟩ := hrel
  have HT := Lib.hid ht
  have HYS := Lib.hid hys
  clear ht hys
  by_cases hjn : j < n1
  · have j1 : (j : Int) < (n1 : Int) := by omega
    have j0 : (0 : Int) ≤ (j : Int) := by omega
    have HO := Lib.hid (show Own wr tCa 3 (.slice A2 n1 q2) n1 (eC.fl ys) from HT.out.hd)
    obtain ⟨g3, c3', hv⟩ := HO.out.pos (by omega)
    simp only [Value.slice.injEq, true_and] at hv
    obtain ⟨rfl, rfl⟩ := hv
    have hjy : j < ys.length := by rw [HYS.out]; exact hjn
    have y2 : wr.cell? ⟨g3, j * 3 + 2, none⟩ = some (.string ys[j].data) := HO.out.cell (j * 3 + 2) _ (Enc.get (E := eC) ys j 2 hjy (by decide))
    have f2 := HO.out.frozen (j * 3 + 2)
    have HF := Lib.hid (Enc.set (E := eC) ys j 2 hjy (.string ⟨#[63]⟩) { ys[j] with data := ⟨#[63]⟩ } (by decide) rfl)
    generalize hz : ys.set j { ys[j] with data := ⟨#[63]⟩ } = zs at HF
    have HZ := Lib.hid (show zs.length = n1 by rw [← hz, List.length_set]; exact HYS.out)
    clear hz
    generalize ys[j].data = dd at *
    go_wp2_with fail
    go_roundg (n1 - (j + 1))
    case measure => omega
    case rel =>
      have h := HT.out.ownSet (j * 3 + 2) (.string ⟨#[63]⟩)
      have hF := HF.out
      rw [show eC.sz = 3 from rfl] at hF
      rw [hF] at h
      exact ⟨j + 1, zs, by push_cast; rfl, by omega, rfl, HZ.out, h⟩
  have j2 : ¬ (j : Int) < (n1 : Int) := by omega
  have j3 : decide ((j : Int) < (n1 : Int)) = false := by simp; omega
  have HS := Lib.hid HT.out.tail.sw
  clear HT HYS hgj
  go_wp2_with fail
  clear j2 j3
  generalize hwz : wr = wz at *
  clear hwz
  go_loopg [11] 101 (fun gk s11 wr => ∃ (k : Nat) (rv rv' : Value) (c : Cst), s11 = .int .i64 (k : Int) ∧ k ≤ 100 ∧ gk = 101 - k ∧ Good c ∧ Sep w wr [tCli tCl b cv rv c, tCli tRc b' cv' rv' c])
  case atStart => exact ⟨0, _, _, C0, rfl, by decide, rfl, HGN.out, HS.out⟩
  case round =>
  clear HS HGN
  obtain ⟨k, rv, rv', c, rfl, hk, hgk, hgood, hs⟩ := hrel
  have HS := Lib.hid hs
  have HGD := Lib.hid hgood
  clear hs hgood
  by_cases q1 : k < n2
  case neg =>
    have q1' : decide ((k : Int) < (n2 : Int)) = false := by simp; omega
    have q1n : ¬ ((k : Int) < (n2 : Int)) := by omega
    go_wp2_with fail
    go_ret
    exact ⟨rfl, HS.out.bel⟩
  have q1' : decide ((k : Int) < (n2 : Int)) = true := by simp; omega
  have i1 : (k : Int) < (n2 : Int) := by omega
  by_cases q2 : k < 100
  case neg =>
    have q2' : decide ((k : Int) < 100) = false := by simp; omega
    go_wp2_with fail
    go_ret
    exact ⟨rfl, HS.out.bel⟩
  have q2' : decide ((k : Int) < 100) = true := by simp; omega
  have i0 : (0 : Int) ≤ (k : Int) := by omega
  have HX := Lib.hid (List.getElem?_eq_getElem (l := la) (i := k) (by rw [HAL.out]; exact q1))
  generalize la[k]'(by rw [HAL.out]; exact q1) = x at *
  have HXB := Lib.hid (Ac.body (HLG.out k x q2 HX.out))
  obtain ⟨gb, go, rfl, hu⟩ := (HAR.out.below HS.out.bel).act k x HX.out
  have qq := (show World.rangeAt wr gb (go + k * 17) x.cs.toList from hu)
  clear hu
  obtain ⟨g8, hg8⟩ : ∃ g, wr.heap.size = g := ⟨_, rfl⟩
  have HT := Lib.hid ((HS.out.newBlk #[.int .i64 0, .int .i64 0, .int .i64 0, .int .i64 0, .int .i64 0, .int .i64 0, .int .i64 0, .int .i64 0, .int .i64 0, .int .i64 0, .int .i64 0, .int .i64 0, .int .i64 0, .int .i64 0, .string { data := #[] }, .string { data := #[] }, .string { data := #[] }] tAc hg8).r3')
  have HG8 := Lib.hid hg8
  clear hg8
  go_upto_region 18 with fail
  refine wp_region_lit (l := [_, _, _, _, _, _]) ?_
  iterate 3 (refine wpList_plain rfl fun _ hK => ?_; go_simp; refine hK _ _ ?_)
  refine loadMid _ rfl (.tmp 67) rfl rfl qq Try.underlying37 rfl infoAc ?_
  refine wpList_plain rfl fun _ hK => ?_
  go_simp
  rw [HG8.out]
  refine hK _ _ ?_
  refine storeR x.cs (show Blk _ g8 #[.int .i64 0, .int .i64 0, .int .i64 0, .int .i64 0, .int .i64 0, .int .i64 0, .int .i64 0, .int .i64 0, .int .i64 0, .int .i64 0, .int .i64 0, .int .i64 0, .int .i64 0, .int .i64 0, .string { data := #[] }, .string { data := #[] }, .string { data := #[] }] tAc from HT.out.h3) rfl infoAc (ac1 x) rfl (.tmp 12) (.tmp 68) rfl rfl rfl ?_
  intro W hb8 hu8
  have HT := Lib.hid (HT.out.r3.put hb8 hu8).r3'
  clear hb8 hu8 qq HS HG8
  have d0 : W.cell? ⟨g8, 0, none⟩ = some (.int .i64 x.kind) := (show Blk W g8 x.cs tAc from HT.out.h3).cell 0
  generalize hxk : x.kind = xk at *
  clear hxk
  go_upto_block 4 with fail
  go_cut [] (fun wx => ∃ (rv rv' : Value) (c : Cst), Good c ∧ Sep w wx [tCli tCl b cv rv c, tCli tRc b' cv' rv' c])
  case first =>
    by_cases hk0 : xk = 0
    · have p0 : (xk == 0) = true := by simp [hk0]
      as_aux_lemma =>
        clear hk0
        obtain ⟨pk, hpk⟩ : ∃ x, c.poke = x := ⟨_, rfl⟩
        obtain ⟨pb, hpb⟩ : ∃ x, c.pokeB = x := ⟨_, rfl⟩
        have HP := Lib.hid (And.intro hpk hpb)
        obtain ⟨pf, pt, pd⟩ := pk
        clear hpk hpb
        go_upto_region 22 with (go_at_call 12; refine (poke_sep HT.out HGD.out).mono ?_; rw [HP.out.1, HP.out.2]; unfold Let.cs; simp only; rintro e w4 ⟨rfl, hS⟩; have HT4 := Lib.hid ((hS.newBlk #[.int .i64 pf, .int .i64 pt, .string pd] tLt (g := w4.heap.size) rfl).r3'.sw); clear hS)
        generalize w4.alloc (.cells #[.int .i64 pf, .int .i64 pt, .string pd] tLt) = w5 at *
        generalize w4.heap.size = g9 at *
        go_upto_region 23 with (go_at_call 13; refine (rpoke_sep HT4.out HGD.out).mono ?_; rw [HP.out.1, HP.out.2]; unfold Let.cs; simp only; rintro e w6 ⟨rfl, hS⟩; have HT6 := Lib.hid (hS.newBlk #[.int .i64 pf, .int .i64 pt, .string pd] tLt (g := w6.heap.size) rfl); clear hS)
        generalize w6.alloc (.cells #[.int .i64 pf, .int .i64 pt, .string pd] tLt) = w7 at *
        generalize w6.heap.size = g11 at *
        have hz := (show Blk w7 g11 #[.int .i64 pf, .int .i64 pt, .string pd] tLt from HT6.out.hd)
        have v0 := hz.cell 0; have v1 := hz.cell 1; have v2 := hz.cell 2
        have hz2 := (show Blk w7 g9 #[.int .i64 pf, .int .i64 pt, .string pd] tLt from HT6.out.h4)
        have x0 := hz2.cell 0; have x1 := hz2.cell 1; have x2 := hz2.cell 2
        simp at v0 v1 v2 x0 x1 x2
        clear hz hz2
        cases pb <;>
        · go_wp2_with fail
          go_meet
          exact ⟨_, _, _, HGD.out, HT6.out.tail.d3.d3.sw⟩
    have p0 : (xk == 0) = false := by simpa using hk0
    clear hk0
    by_cases hk1 : xk = 1
    · have p1 : (xk == 1) = true := by simp [hk1]
      as_aux_lemma =>
        clear hk1
        go_upto_region 26 with fail
        clear d0
        have HT := Lib.hid HT.out.drew
        refine wp_region_L (fun w' => Blk w' g8 x.cs tAc) 9 (by kernel_rfl) HT.out.h3 (fun hHeld => ?_)
        refine reg_take (i := 0) (d := 93) (v := ?_) [] rfl rfl (by kernel_rfl) (by kernel_rfl) (fun _ _ _ h => h) (Or.inl ⟨by rfl, ?_⟩) (by assumption) ?_
        rotate_left
        · (intro w hSw; (try dsimp only at hSw); go_simp; first | done | with_reducible rfl)
        try simp only [List.setIfInBounds_toArray, List.set_cons_zero, List.set_cons_succ]
        refine reg_take (i := 1) (d := 94) (v := .agg x.cs) [] rfl rfl (by kernel_rfl) (by kernel_rfl) (fun _ _ _ h => h) (yields_row _ (by rfl) (.tmp 12) rfl rfl (fun w h => h) Try.underlying37 rfl infoAc) (by assumption) ?_
        try simp only [List.setIfInBounds_toArray, List.set_cons_zero, List.set_cons_succ]
        refine reg_take (i := 4) (d := 97) (v := ?_) [] rfl rfl (by kernel_rfl) (by kernel_rfl) (fun _ _ _ h => h) (Or.inl ⟨by rfl, ?_⟩) (by assumption) ?_
        rotate_left
        · (intro w hSw; (try dsimp only at hSw); go_simp; first | done | with_reducible rfl)
        try simp only [List.setIfInBounds_toArray, List.set_cons_zero, List.set_cons_succ]
        refine reg_take (i := 5) (d := 98) (v := .agg x.cs) [] rfl rfl (by kernel_rfl) (by kernel_rfl) (fun _ _ _ h => h) (yields_row _ (by rfl) (.tmp 12) rfl rfl (fun w h => h) Try.underlying37 rfl infoAc) (by assumption) ?_
        try simp only [List.setIfInBounds_toArray, List.set_cons_zero, List.set_cons_succ]
        refine wpAnyL_ready (rs := [2]) (by kernel_rfl) rfl ?_
        refine (AllL.cons rfl (fun K hK => ?_) AllL.nil)
        go_simp
        go_at_call 15
        refine (letter_any x _).mono ?_
        rintro e5 w12 ⟨rfl, hB⟩
        have HT := Lib.hid (HT.out.step hB)
        clear hB
        go_simp
        refine hK.out _ _ HT.out.h3 (fun hHeld => ?_)
        try simp only [List.setIfInBounds_toArray, List.set_cons_zero, List.set_cons_succ]
        refine wpAnyL_ready (rs := [3]) (by kernel_rfl) rfl ?_
        refine (AllL.cons rfl (fun K hK => ?_) AllL.nil)
        go_simp
        go_at_call 14
        refine (take_sep HT.out HGD.out x.lt HXB.out).mono ?_
        rintro e5 w13 ⟨rfl, rv3, hS⟩
        have HT := Lib.hid hS.sw
        clear hS
        go_simp
        refine hK.out _ _ HT.out.h3 (fun hHeld => ?_)
        try simp only [List.setIfInBounds_toArray, List.set_cons_zero, List.set_cons_succ]
        refine wpAnyL_ready (rs := [6]) (by kernel_rfl) rfl ?_
        refine (AllL.cons rfl (fun K hK => ?_) AllL.nil)
        go_simp
        go_at_call 15
        refine (letter_any x _).mono ?_
        rintro e5 w16 ⟨rfl, hB⟩
        have HT := Lib.hid (HT.out.step hB)
        clear hB
        go_simp
        refine hK.out _ _ HT.out.h3 (fun hHeld => ?_)
        try simp only [List.setIfInBounds_toArray, List.set_cons_zero, List.set_cons_succ]
        refine wpAnyL_ready (rs := [7]) (by kernel_rfl) rfl ?_
        refine (AllL.cons rfl (fun K hK => ?_) AllL.nil)
        go_simp
        go_at_call 16
        refine (rtake_sep HT.out HGD.out x.lt HXB.out).mono ?_
        rintro e5 w17 ⟨rfl, rv7, hS⟩
        have HT := Lib.hid hS.sw
        clear hS
        go_simp
        refine hK.out _ _ HT.out.h3 (fun hHeld => ?_)
        try simp only [List.setIfInBounds_toArray, List.set_cons_zero, List.set_cons_succ]
        refine reg_take (i := 8) (d := 101) (v := ?_) [] rfl rfl (by kernel_rfl) (by kernel_rfl) (fun _ _ _ h => h) (Or.inl ⟨by rfl, ?_⟩) (by assumption) ?_
        rotate_left
        · (intro w hSw; (try dsimp only at hSw); go_simp; first | done | with_reducible rfl)
        try simp only [List.setIfInBounds_toArray, List.set_cons_zero, List.set_cons_succ]
        refine wpAnyL_done (by kernel_rfl) ?_ _
        go_wp2_with fail
        go_meet
        exact ⟨_, _, _, HGD.out.take _, HT.out.d3⟩
    have p1 : (xk == 1) = false := by simpa using hk1
    clear hk1
    by_cases hk2 : xk = 2
    · have p2 : (xk == 2) = true := by simp [hk2]
      as_aux_lemma =>
        clear hk2
        have hnd := HGD.out.node
        have hw : IntKind.i64.wrap (1 - c.node) = 1 - c.node := IntWalk.i64_in _ (by omega)
        go_upto_region 30 with (go_at_call 17; refine (turn_sep HT.out HGD.out).mono ?_; rintro e w4 ⟨rfl, hS⟩; have HT4 := Lib.hid hS.sw; clear hS)
        obtain ⟨_, _, _, z3⟩ := HT4.out.cliCells
        have f3 := HT4.out.cli.1.frozen 3
        go_wp2_with fail
        go_meet
        exact ⟨_, _, _, HGD.out.turn, HT4.out.cliTurn.sw.d3⟩
    have p2 : (xk == 2) = false := by simpa using hk2
    clear hk2
    go_wp2_with fail
    go_meet
    exact ⟨_, _, _, HGD.out, HT.out.d3⟩
  case rest =>
    as_aux_lemma =>
      clear HT HGD d0
      obtain ⟨rv, rv', c, hgood, ht⟩ := hcut
      have HGD := Lib.hid hgood
      obtain ⟨m, hm⟩ : ∃ m, c.rs.length = m := ⟨_, rfl⟩
      have HM := Lib.hid hm
      have hm1 : m ≤ 1000 := by have := hgood.m; have := hgood.n; omega
      obtain ⟨_, ⟨AR, qR, rfl, _⟩⟩ := ht.sw.cliForm
      have HT := Lib.hid ht
      rw [hm] at HT
      clear ht hgood hm
      go_upto_region 32 with (go_at_call 18; refine (results_sep HT.out HGD.out).mono ?_; rw [HM.out]; rintro e w3 ⟨A3, q3, rfl, hs⟩; have HT3 := Lib.hid hs; clear hs)
      have RA := Lib.hid (show Rd w3 A3 (eRs.fl c.rs) from HT3.out.own.rd)
      have RB := Lib.hid (show Rd w3 AR (eRs.fl c.rs) from (show Own w3 tRs 2 (.slice AR m qR) c.rs.length (eRs.fl c.rs) from HT3.out.r3.cli.2.2.1).form.elim (fun A h => by obtain ⟨q, e, _, _, hr⟩ := h; simp only [Value.slice.injEq] at e; rw [e.1]; exact hr))
      clear HT
      have HCS : Hid (∀ w', Sep w w' [tOwn tRs 2 (.slice A3 m q3) m (eRs.fl c.rs), tCli tCl b cv rv c, tCli tRc b' cv' (.slice AR m qR) c] → w'.cell? ⟨b', 2, none⟩ = some (.slice AR m qR) ∧ w'.cell? ⟨b', 3, none⟩ = some (.int .i64 c.node)) := Lib.hid (fun w' h => ⟨h.r3.cliCells.2.2.1, h.r3.cliCells.2.2.2⟩)
      have HT3 := Lib.hid HT3.out.drew
      refine wp_region_L (fun w' => w'.cell? ⟨b', 2, none⟩ = some (.slice AR m qR) ∧ w'.cell? ⟨b', 3, none⟩ = some (.int .i64 c.node)) 23 (by kernel_rfl) (HCS.out _ HT3.out) (fun hHeld => ?_)
      refine reg_take (i := 0) (d := 116) (v := ?_) [] rfl rfl (by kernel_rfl) (by kernel_rfl) (fun _ _ _ h => h) (Or.inl ⟨by rfl, ?_⟩) (by assumption) ?_
      rotate_left
      · (intro w hSw; (try dsimp only at hSw); go_simp; first | done | with_reducible rfl)
      try simp only [List.setIfInBounds_toArray, List.set_cons_zero, List.set_cons_succ]
      refine reg_take (i := 1) (d := 117) (v := ?_) [] rfl rfl (by kernel_rfl) (by kernel_rfl) (fun _ _ _ h => h) (Or.inl ⟨by rfl, ?_⟩) (by assumption) ?_
      rotate_left
      · (intro w hSw; (try dsimp only at hSw); go_simp; first | done | with_reducible rfl)
      try simp only [List.setIfInBounds_toArray, List.set_cons_zero, List.set_cons_succ]
      refine reg_take (i := 2) (d := 118) (v := ?_) [] rfl rfl (by kernel_rfl) (by kernel_rfl) (fun _ _ _ h => h) (Or.inl ⟨by rfl, ?_⟩) (by assumption) ?_
      rotate_left
      · (intro w hSw; (try dsimp only at hSw); go_simp; first | done | with_reducible rfl)
      try simp only [List.setIfInBounds_toArray, List.set_cons_zero, List.set_cons_succ]
      refine reg_take (i := 3) (d := 119) (v := ?_) [] rfl rfl (by kernel_rfl) (by kernel_rfl) (fun _ _ _ h => h) (Or.inl ⟨by rfl, ?_⟩) (by assumption) ?_
      rotate_left
      · (intro w hSw; (try dsimp only at hSw); go_simp; first | done | with_reducible rfl)
      try simp only [List.setIfInBounds_toArray, List.set_cons_zero, List.set_cons_succ]
      refine reg_take (i := 4) (d := 120) (v := ?_) [] rfl rfl (by kernel_rfl) (by kernel_rfl) (fun _ _ _ h => h) (Or.inl ⟨by rfl, ?_⟩) (by assumption) ?_
      rotate_left
      · (intro w hSw; (try dsimp only at hSw); go_simp; first | done | with_reducible rfl)
      try simp only [List.setIfInBounds_toArray, List.set_cons_zero, List.set_cons_succ]
      refine wpAnyL_ready (rs := [5]) (by kernel_rfl) rfl ?_
      refine (AllL.cons rfl (fun K hK => ?_) AllL.nil)
      go_simp
      go_at_call 19
      refine (same_any c.rs A3 AR m q3 qR _ HM.out (by omega) (RA.out.below (Below.drew (Below.refl _ _))) (RB.out.below (Below.drew (Below.refl _ _)))).mono ?_
      rintro e5 w5 ⟨rfl, hB⟩
      have HT3 := Lib.hid (HT3.out.step hB)
      clear hB
      go_simp
      refine hK.out _ _ (HCS.out _ HT3.out) (fun hHeld => ?_)
      try simp only [List.setIfInBounds_toArray, List.set_cons_zero, List.set_cons_succ]
      refine reg_take (i := 6) (d := 122) (v := ?_) [] rfl rfl (by kernel_rfl) (by kernel_rfl) (fun _ _ _ h => h) (Or.inl ⟨by rfl, ?_⟩) (by assumption) ?_
      rotate_left
      · (intro w hSw; (try dsimp only at hSw); go_simp; first | done | with_reducible rfl)
      try simp only [List.setIfInBounds_toArray, List.set_cons_zero, List.set_cons_succ]
      refine reg_take (i := 7) (d := 123) (v := ?_) [] rfl rfl (by kernel_rfl) (by kernel_rfl) (fun _ _ _ h => h) (Or.inl ⟨by rfl, ?_⟩) (by assumption) ?_
      rotate_left
      · (intro w hSw; (try dsimp only at hSw); go_simp; first | done | with_reducible rfl)
      try simp only [List.setIfInBounds_toArray, List.set_cons_zero, List.set_cons_succ]
      refine reg_take (i := 8) (d := 124) (v := ?_) [] rfl rfl (by kernel_rfl) (by kernel_rfl) (fun _ _ _ h => h) (Or.inl ⟨by rfl, ?_⟩) (by assumption) ?_
      rotate_left
      · (intro w hSw; (try dsimp only at hSw); go_simp; first | done | with_reducible rfl)
      try simp only [List.setIfInBounds_toArray, List.set_cons_zero, List.set_cons_succ]
      refine reg_take (i := 10) (d := 126) (v := ?_) [] rfl rfl (by kernel_rfl) (by kernel_rfl) (fun _ _ _ h => h) (Or.inl ⟨by rfl, ?_⟩) (by assumption) ?_
      rotate_left
      · (intro w hSw; (try dsimp only at hSw); go_simp; first | done | with_reducible rfl)
      try simp only [List.setIfInBounds_toArray, List.set_cons_zero, List.set_cons_succ]
      refine wpAnyL_ready (rs := [9]) (by kernel_rfl) rfl ?_
      refine (AllL.cons rfl (fun K hK => ?_) AllL.nil)
      go_simp
      go_at_call 20
      refine (left_sep HT3.out.sw HGD.out).mono ?_
      rw [HM.out]
      rintro e5 w9 ⟨rfl, hS⟩
      have HT3 := Lib.hid hS.sw
      clear hS
      go_simp
      refine hK.out _ _ (HCS.out _ HT3.out) (fun hHeld => ?_)
      try simp only [List.setIfInBounds_toArray, List.set_cons_zero, List.set_cons_succ]
      refine wpAnyL_ready (rs := [11]) (by kernel_rfl) rfl ?_
      refine (AllL.cons rfl (fun K hK => ?_) AllL.nil)
      go_simp
      go_at_call 21
      refine (rleft_sep HT3.out.r3 HGD.out).mono ?_
      rw [HM.out]
      rintro e5 w11 ⟨rfl, hS⟩
      have HT3 := Lib.hid hS.r3'
      clear hS
      go_simp
      refine hK.out _ _ (HCS.out _ HT3.out) (fun hHeld => ?_)
      try simp only [List.setIfInBounds_toArray, List.set_cons_zero, List.set_cons_succ]
      refine reg_take (i := 12) (d := 128) (v := ?_) [] rfl rfl (by kernel_rfl) (by kernel_rfl) (fun _ _ _ h => h) (Or.inl ⟨by rfl, ?_⟩) (by assumption) ?_
      rotate_left
      · (intro w hSw; (try dsimp only at hSw); go_simp; first | done | with_reducible rfl)
      try simp only [List.setIfInBounds_toArray, List.set_cons_zero, List.set_cons_succ]
      refine reg_take (i := 13) (d := 129) (v := ?_) [] rfl rfl (by kernel_rfl) (by kernel_rfl) (fun _ _ _ h => h) (Or.inl ⟨by rfl, ?_⟩) (by assumption) ?_
      rotate_left
      · (intro w hSw; (try dsimp only at hSw); go_simp; first | done | with_reducible rfl)
      try simp only [List.setIfInBounds_toArray, List.set_cons_zero, List.set_cons_succ]
      refine reg_take (i := 14) (d := 130) (v := ?_) [] rfl rfl (by kernel_rfl) (by kernel_rfl) (fun _ _ _ h => h) (Or.inl ⟨by rfl, ?_⟩) (by assumption) ?_
      rotate_left
      · (intro w hSw; (try dsimp only at hSw); go_simp; first | done | with_reducible rfl)
      try simp only [List.setIfInBounds_toArray, List.set_cons_zero, List.set_cons_succ]
      refine reg_take (i := 15) (d := 131) (v := ?_) [] rfl rfl (by kernel_rfl) (by kernel_rfl) (fun _ _ _ h => h) (Or.inl ⟨by rfl, ?_⟩) (by assumption) ?_
      rotate_left
      · (intro w hSw; (try dsimp only at hSw); go_simp; first | done | with_reducible rfl)
      try simp only [List.setIfInBounds_toArray, List.set_cons_zero, List.set_cons_succ]
      refine reg_take (i := 17) (d := 133) (v := ?_) [] rfl rfl (by kernel_rfl) (by kernel_rfl) (fun _ _ _ h => h) (Or.inl ⟨by rfl, ?_⟩) (by assumption) ?_
      rotate_left
      · (intro w hSw; (try dsimp only at hSw); go_simp; first | done | with_reducible rfl)
      try simp only [List.setIfInBounds_toArray, List.set_cons_zero, List.set_cons_succ]
      refine reg_take (i := 18) (d := 134) (v := ?_) [] rfl rfl (by kernel_rfl) (by kernel_rfl) (fun _ _ _ h => h) (Or.inl ⟨by rfl, ?_⟩) (by assumption) ?_
      rotate_left
      · (intro w hSw; (try dsimp only at hSw); go_simp; first | done | with_reducible rfl)
      try simp only [List.setIfInBounds_toArray, List.set_cons_zero, List.set_cons_succ]
      refine reg_take (i := 19) (d := 135) (v := ?_) [] rfl rfl (by kernel_rfl) (by kernel_rfl) (fun _ _ _ h => h) (Or.inl ⟨by rfl, ?_⟩) (by assumption) ?_
      rotate_left
      · (intro w hSw; (try dsimp only at hSw); go_simp; first | done | with_reducible rfl)
      try simp only [List.setIfInBounds_toArray, List.set_cons_zero, List.set_cons_succ]
      refine reg_take (i := 20) (d := 136) (v := ?_) [] rfl rfl (by kernel_rfl) (by kernel_rfl) (fun _ _ _ h => h) (Or.inl ⟨by rfl, ?_⟩) (by assumption) ?_
      rotate_left
      · (intro w hSw; (try dsimp only at hSw); go_simp; first | done | with_reducible rfl)
      try simp only [List.setIfInBounds_toArray, List.set_cons_zero, List.set_cons_succ]
      refine wpAnyL_ready (rs := [16]) (by kernel_rfl) rfl ?_
      refine (AllL.cons rfl (fun K hK => ?_) AllL.nil)
      go_simp
      go_at_call 22
      refine (node_sep HT3.out.sw).mono ?_
      rintro e5 w16 ⟨rfl, hw⟩
      rw [hw]
      clear hw w16
      go_simp
      refine hK.out _ _ (HCS.out _ HT3.out) (fun hHeld => ?_)
      try simp only [List.setIfInBounds_toArray, List.set_cons_zero, List.set_cons_succ]
      refine reg_take (i := 21) (d := 137) (v := ?_) [] rfl rfl (by kernel_rfl) (by kernel_rfl) (fun _ _ _ h => h) (Or.inl ⟨by rfl, ?_⟩) (by assumption) ?_
      rotate_left
      · (intro w hSw; (try dsimp only at hSw); go_simp; first | done | with_reducible rfl)
      try simp only [List.setIfInBounds_toArray, List.set_cons_zero, List.set_cons_succ]
      refine reg_take (i := 22) (d := 138) (v := ?_) [] rfl rfl (by kernel_rfl) (by kernel_rfl) (fun _ _ _ h => h) (Or.inl ⟨by rfl, ?_⟩) (by assumption) ?_
      rotate_left
      · (intro w hSw; (try dsimp only at hSw); go_simp; first | done | with_reducible rfl)
      try simp only [List.setIfInBounds_toArray, List.set_cons_zero, List.set_cons_succ]
      refine wpAnyL_done (by kernel_rfl) ?_ _
      go_wp2_with fail
      go_loopg [141] m (fun gk s141 wr => ∃ (j : Nat) (ys : List Res), s141 = .int .i64 (j : Int) ∧ j ≤ m ∧ gk = m - j ∧ ys.length = m ∧ Sep w wr [tOwn tRs 2 (.slice A3 m q3) m (eRs.fl ys), tCli tCl b cv rv c, tCli tRc b' cv' (.slice AR m qR) c])
      case atStart => exact ⟨0, c.rs, rfl, by omega, by omega, HM.out, HT3.out⟩
      case round =>
      clear HT3 RA RB
      obtain ⟨j, ys, rfl, hj, hgj, hys, ht⟩ := hrel
      have HT := Lib.hid ht
      have HYS := Lib.hid hys
      clear ht hys
      by_cases hjn : j < m
      · have j1 : (j : Int) < (m : Int) := by omega
        have j0 : (0 : Int) ≤ (j : Int) := by omega
        have HO := Lib.hid (show Own wr tRs 2 (.slice A3 m q3) m (eRs.fl ys) from HT.out.hd)
        obtain ⟨g3, c3', hv⟩ := HO.out.pos (by omega)
        simp only [Value.slice.injEq, true_and] at hv
        obtain ⟨rfl, rfl⟩ := hv
        have hjy : j < ys.length := by rw [HYS.out]; exact hjn
        have y2 : wr.cell? ⟨g3, j * 2 + 1, none⟩ = some (.string ys[j].data) := HO.out.cell (j * 2 + 1) _ (Enc.get (E := eRs) ys j 1 hjy (by decide))
        have f2 := HO.out.frozen (j * 2 + 1)
        have HF := Lib.hid (Enc.set (E := eRs) ys j 1 hjy (.string ⟨#[63]⟩) { ys[j] with data := ⟨#[63]⟩ } (by decide) rfl)
        generalize hz : ys.set j { ys[j] with data := ⟨#[63]⟩ } = zs at HF
        have HZ := Lib.hid (show zs.length = m by rw [← hz, List.length_set]; exact HYS.out)
        clear hz
        generalize ys[j].data = dd at *
        go_wp2_with fail
        go_roundg (m - (j + 1))
        case measure => omega
        case rel =>
          have h := HT.out.ownSet (j * 2 + 1) (.string ⟨#[63]⟩)
          have hF := HF.out
          rw [show eRs.sz = 2 from rfl] at hF
          rw [hF] at h
          exact ⟨j + 1, zs, by push_cast; rfl, by omega, rfl, HZ.out, h⟩
      · have j2 : ¬ (j : Int) < (m : Int) := by omega
        have j3 : decide ((j : Int) < (m : Int)) = false := by simp; omega
        go_wp2_with fail
        go_roundg (101 - (k + 1))
        case measure => omega
        case rel => exact ⟨k + 1, _, _, c, by push_cast; rfl, by omega, rfl, HGD.out, HT.out.tail⟩
end Go.Proofs.Ytodjmeodcmbdoaa
