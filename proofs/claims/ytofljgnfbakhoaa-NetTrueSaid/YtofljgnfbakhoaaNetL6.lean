/- The walk of the law NetTrue: it returns true. No condition but the row's own. -/
import Derived.Test.YtofljgnfbakhoaaNetP
import Derived.Deep.CutBlock
set_option linter.unusedVariables false
set_option linter.unusedSimpArgs false
namespace Go.Proofs.Ytofljgnfbakhoaa
open Go.RowKit Go.Maps
set_option maxRecDepth 100000 in
set_option maxHeartbeats 8000000 in
theorem w_NetTrue (a0 : Option Addr) (n0 c0 : Nat) (w : World) (b0 : Sh.Is w (.slice 48 (.pair (.int .i64) (.pair (.int .i64) (.pair (.pair (.int .i64) (.pair (.int .i64) (.pair .str .unit))) .unit)))) [.slice a0 n0 c0]) :
    Calls Try.prog 4 #[.slice a0 n0 c0] w fun e w' => e = .returned (.bool true) ∧ Below w.heap.size w w' := by
  obtain ⟨xs, xl, _, _, _, xr, xok⟩ := Enc.of_slice (E := eAct) (p := NAct.ok) b0 (fun cs hc => is_nact hc)
  have HXL := Lib.hid xl; have HXR := Lib.hid xr; have HXO := Lib.hid xok
  clear b0 xl xr xok
  go_enter Try.func4, Try.ntmps4
  go_wp2_with fail
  refine (awake_any _).mono ?_
  rintro e w1 ⟨rfl, hB1⟩
  have HS := Lib.hid ((Sep.nil w).step hB1)
  clear hB1
  go_wp2_with fail
  refine (nnew_sep HS.out).mono ?_
  rintro e w2 ⟨rfl, hs⟩
  have hmm := @run_makeMap Try.prog
  have HS := Lib.hid ((hs.newMap tL (b := w2.heap.size) rfl).sw)
  clear hs
  generalize w1.heap.size = ba at *
  go_upto_region 5 with fail
  generalize w2.alloc (.map #[] 0) = w3 at *
  generalize w2.heap.size = bm at *
  go_wp2_with fail
  go_loopg [5] 101 (fun gk s5 wr => ∃ (k : Nat) (la : Value) (L : List Letter) (q : Nat) (f : Value → Option Value), s5 = .int .i64 (k : Int) ∧ k ≤ 100 ∧ gk = 101 - k ∧ Good L ∧ LI L f ∧ q ≤ 2 * k ∧ Sep w wr [tN ba la L, tMapV tL bm q f])
  case atStart => exact ⟨0, _, [], 0, _, rfl, by decide, rfl, Good.nil, LI.nil, Nat.le_refl _, HS.out⟩
  case round =>
  clear HS
  obtain ⟨k, la, L, q, f, rfl, hk, hgk, hgood, hli, hq, hs⟩ := hrel
  have HS := Lib.hid hs
  have HGD := Lib.hid hgood
  have HLI := Lib.hid hli
  clear hs hgood hli
  by_cases q1 : k < n0
  case neg =>
    have q1' : decide ((k : Int) < (n0 : Int)) = false := by simp; omega
    have q1n : ¬ ((k : Int) < (n0 : Int)) := by omega
    go_wp2_with fail
    go_ret
    exact ⟨rfl, HS.out.bel⟩
  have q1' : decide ((k : Int) < (n0 : Int)) = true := by simp; omega
  have i1 : (k : Int) < (n0 : Int) := by omega
  by_cases q2 : k < 100
  case neg =>
    have q2' : decide ((k : Int) < 100) = false := by simp; omega
    go_wp2_with fail
    go_ret
    exact ⟨rfl, HS.out.bel⟩
  have q2' : decide ((k : Int) < 100) = true := by simp; omega
  have i0 : (0 : Int) ≤ (k : Int) := by omega
  have HX := Lib.hid (List.getElem?_eq_getElem (l := xs) (i := k) (by rw [HXL.out]; exact q1))
  have HOK := Lib.hid (HXO.out _ (List.mem_of_getElem? HX.out))
  generalize xs[k]'(by rw [HXL.out]; exact q1) = x at *
  obtain ⟨g, o, rfl, y0, y1, y2, y3, y4⟩ := (HXR.out.below HS.out.bel).act5 k x HX.out
  obtain ⟨xk, xi, xf, xt, xd⟩ := x
  simp only at y0 y1 y2 y3 y4
  obtain ⟨g8, hg8⟩ : ∃ g, wr.heap.size = g := ⟨_, rfl⟩
  have HT := Lib.hid ((HS.out.newBlk #[.int .i64 xk, .int .i64 xi, .int .i64 xf, .int .i64 xt, .string xd] 33 hg8).r3')
  have HG8 := Lib.hid hg8; clear hg8
  obtain ⟨n, hn⟩ : ∃ n, L.length = n := ⟨_, rfl⟩
  have hn3 : n ≤ 300 := by rw [← hn]; exact HGD.out.1
  have HN := Lib.hid hn
  clear hn
  go_upto_region 9 with fail
  rw [HG8.out]
  generalize wr.alloc (.cells #[.int .i64 xk, .int .i64 xi, .int .i64 xf, .int .i64 xt, .string xd] 33) = W at *
  clear y0 y1 y2 y3 y4 HS HG8
  go_upto_region 10 with (go_at_call 18; refine (all_sep HT.out HGD.out.1).mono ?_; rw [HN.out]; rintro e w4 ⟨A2, c2, rfl, hS⟩; have HT := Lib.hid hS.sw; clear hS)
  have d0 : w4.cell? ⟨g8, 0, none⟩ = some (.int .i64 xk) := (show Blk w4 g8 _ 33 from HT.out.h4).cell 0
  go_upto_block 2 with fail
  clear d0
  go_cut [] (fun wx => ∃ (la : Value) (L : List Letter) (q : Nat) (f : Value → Option Value), Good L ∧ LI L f ∧ q ≤ 2 * (k + 1) ∧ Sep w wx [tN ba la L, tMapV tL bm q f])
  case first =>
    have HG := Lib.hid (show Blk w4 g8 #[.int .i64 xk, .int .i64 xi, .int .i64 xf, .int .i64 xt, .string xd] 33 from HT.out.h4)
    have d1 : w4.cell? ⟨g8, 1, none⟩ = some (.int .i64 xi) := HG.out.cell 1
    have d2 : w4.cell? ⟨g8, 2, none⟩ = some (.int .i64 xf) := HG.out.cell 2
    have d3 : w4.cell? ⟨g8, 3, none⟩ = some (.int .i64 xt) := HG.out.cell 3
    have d4 : w4.cell? ⟨g8, 4, none⟩ = some (.string xd) := HG.out.cell 4
    by_cases hk0 : xk = 0
    · have p0 : (xk == 0) = true := by simp [hk0]
      as_aux_lemma =>
        clear hk0
        obtain ⟨e0, he0⟩ : ∃ e, sendE L ⟨xf, xt, xd⟩ = e := ⟨_, rfl⟩
        have HE := Lib.hid he0
        clear he0
        by_cases hz : e0 = 0
        · subst hz
          go_upto_region 13 with (go_at_call 11; refine (send_sep HT.out ⟨xf, xt, xd⟩).mono ?_; rw [HE.out, sendL_ok HE.out]; rintro e1 w5 ⟨rfl, la5, hs⟩; have HT := Lib.hid hs.r3; clear hs)
          have HG1 := Lib.hid (HGD.out.send ⟨xf, xt, xd⟩)
          rw [sendL_ok HE.out] at HG1
          obtain ⟨cc, hcc⟩ : ∃ c, cntV L (.agg #[.int .i64 xf, .int .i64 xt, .string xd]) = c := ⟨_, rfl⟩
          have hc3 : cc ≤ 300 := by have := cntV_le (.agg #[.int .i64 xf, .int .i64 xt, .string xd]) L; have := HGD.out.1; omega
          have HCC := Lib.hid (show (f (.agg #[.int .i64 xf, .int .i64 xt, .string xd])).getD (.int .i64 0) = iV (cc : Int) by rw [← hcc]; exact (HLI.out _).1)
          have HKEY := Lib.hid (show KeyV tL (.agg #[.int .i64 xf, .int .i64 xt, .string xd]) from HG1.out.key (x := ⟨xf, xt, xd⟩) (by simp))
          have HLI1 := Lib.hid (HLI.out.add ⟨xf, xt, xd⟩ hcc)
          have hw1 : IntKind.i64.wrap ((cc : Int) + 1) = (cc : Int) + 1 := IntWalk.i64_in _ (by omega)
          clear hcc
          have HT := Lib.hid HT.out.drew
          have HC : Hid (∀ w' (t : Th), Sep w w' (t :: [tN ba la5 (L ++ [⟨xf, xt, xd⟩]), tOwn tL 3 (.slice A2 n c2) n (eLet.fl L), tBlk g8 #[.int .i64 xk, .int .i64 xi, .int .i64 xf, .int .i64 xt, .string xd] 33]) → (w'.cell? ⟨g8, 2, none⟩ = some (.int .i64 xf) ∧ w'.cell? ⟨g8, 3, none⟩ = some (.int .i64 xt) ∧ w'.cell? ⟨g8, 4, none⟩ = some (.string xd))) := Lib.hid (fun w' t h => ⟨(show Blk w' g8 _ 33 from h.h4).cell 2, (show Blk w' g8 _ 33 from h.h4).cell 3, (show Blk w' g8 _ 33 from h.h4).cell 4⟩)
          refine wp_region_L (fun w' => w'.cell? ⟨g8, 2, none⟩ = some (.int .i64 xf) ∧ w'.cell? ⟨g8, 3, none⟩ = some (.int .i64 xt) ∧ w'.cell? ⟨g8, 4, none⟩ = some (.string xd)) 7 (by kernel_rfl) (HC.out _ _ HT.out) (fun hHeld => ?_)
          refine reg_take (i := 0) (d := 47) (v := ?_) [] rfl rfl (by kernel_rfl) (by kernel_rfl) (fun _ _ _ h => h) (Or.inl ⟨by rfl, ?_⟩) (by assumption) ?_
          rotate_left
          · (intro w hSw; (try dsimp only at hSw); go_simp; first | done | with_reducible rfl)
          try simp only [List.setIfInBounds_toArray, List.set_cons_zero, List.set_cons_succ]
          refine reg_take (i := 1) (d := 48) (v := ?_) [] rfl rfl (by kernel_rfl) (by kernel_rfl) (fun _ _ _ h => h) (Or.inl ⟨by rfl, ?_⟩) (by assumption) ?_
          rotate_left
          · (intro w hSw; (try dsimp only at hSw); go_simp; first | done | with_reducible rfl)
          try simp only [List.setIfInBounds_toArray, List.set_cons_zero, List.set_cons_succ]
          refine reg_take (i := 2) (d := 49) (v := ?_) [] rfl rfl (by kernel_rfl) (by kernel_rfl) (fun _ _ _ h => h) (Or.inl ⟨by rfl, ?_⟩) (by assumption) ?_
          rotate_left
          · (intro w hSw; (try dsimp only at hSw); go_simp; first | done | with_reducible rfl)
          try simp only [List.setIfInBounds_toArray, List.set_cons_zero, List.set_cons_succ]
          refine wpAnyL_ready (rs := [3, 5]) (by kernel_rfl) rfl ?_
          refine (AllL.cons rfl (fun K hK => ?_) (AllL.cons rfl (fun K hK => ?_) AllL.nil))
          · refine stepv_look (HT.out.hd) lawL Try.underlying45 rfl (.tmp 47) (.tmp 49) rfl (zeroI _) (.agg #[.int .i64 xf, .int .i64 xt, .string xd]) HKEY.out rfl rfl (iV (cc : Int)) HCC.out ?_
            refine hK.out _ _ (HC.out _ _ HT.out) (fun hHeld => ?_)
            try simp only [List.setIfInBounds_toArray, List.set_cons_zero, List.set_cons_succ]
            refine reg_take (i := 4) (d := 51) (v := ?_) [] rfl rfl (by kernel_rfl) (by kernel_rfl) (fun _ _ _ h => h) (Or.inl ⟨by rfl, ?_⟩) (by assumption) ?_
            rotate_left
            · (intro w hSw; (try dsimp only at hSw); go_simp; first | done | with_reducible rfl)
            try simp only [List.setIfInBounds_toArray, List.set_cons_zero, List.set_cons_succ]
            refine wpAnyL_ready (rs := [5]) (by kernel_rfl) rfl ?_
            refine (AllL.cons rfl (fun K hK => ?_) AllL.nil)
            refine stepv_entry (HT.out.hd) lawL Try.underlying45 rfl (.tmp 47) (.tmp 49) rfl (by unfold maxLen; omega) (zeroI _) (.agg #[.int .i64 xf, .int .i64 xt, .string xd]) HKEY.out rfl rfl (iV (cc : Int)) HCC.out ?_
            intro st w2 he hu2
            have HT := Lib.hid (HT.out.mapMark he hu2)
            clear he hu2
            refine hK.out _ _ (HC.out _ _ HT.out) (fun hHeld => ?_)
            try simp only [List.setIfInBounds_toArray, List.set_cons_zero, List.set_cons_succ]
            refine reg_take (i := 6) (d := 53) (v := ?_) [] rfl rfl (by kernel_rfl) (by kernel_rfl) (fun _ _ _ h => h) (Or.inl ⟨by rfl, ?_⟩) (by assumption) ?_
            rotate_left
            · (intro w hSw; (try dsimp only at hSw); go_simp; first | done | with_reducible rfl)
            try simp only [List.setIfInBounds_toArray, List.set_cons_zero, List.set_cons_succ]
            refine wpAnyL_ready (rs := [7]) (by kernel_rfl) rfl ?_
            refine (AllL.consJ rfl (by kernel_rfl) (fun K hK => ?_) AllL.nil)
            refine stepv_estore (HT.out.hd) lawL Try.underlying45 rfl (.tmp 47) (.tmp 53) (.tmp 51) rfl (by unfold maxLen; omega) _ HKEY.out rfl rfl rfl ?_
            intro w3 hm3 hu3
            rw [putV_put] at hm3
            have HT := Lib.hid (HT.out.markPut hm3 hu3)
            clear hm3 hu3
            refine hK.out _ _ ?_
            try simp only [List.setIfInBounds_toArray, List.set_cons_zero, List.set_cons_succ]
            refine wpAnyL_done (by kernel_rfl) ?_ _
            go_wp2_with fail
            go_meet
            exact ⟨_, _, _, _, HG1.out, HLI1.out, by omega, HT.out.sw.d3.d3⟩
          · refine stepv_entry (HT.out.hd) lawL Try.underlying45 rfl (.tmp 47) (.tmp 49) rfl (by unfold maxLen; omega) (zeroI _) (.agg #[.int .i64 xf, .int .i64 xt, .string xd]) HKEY.out rfl rfl (iV (cc : Int)) HCC.out ?_
            intro st w2 he hu2
            have HT := Lib.hid (HT.out.mapMark he hu2)
            clear he hu2
            refine hK.out _ _ (HC.out _ _ HT.out) (fun hHeld => ?_)
            try simp only [List.setIfInBounds_toArray, List.set_cons_zero, List.set_cons_succ]
            refine reg_take (i := 6) (d := 53) (v := ?_) [] rfl rfl (by kernel_rfl) (by kernel_rfl) (fun _ _ _ h => h) (Or.inl ⟨by rfl, ?_⟩) (by assumption) ?_
            rotate_left
            · (intro w hSw; (try dsimp only at hSw); go_simp; first | done | with_reducible rfl)
            try simp only [List.setIfInBounds_toArray, List.set_cons_zero, List.set_cons_succ]
            refine wpAnyL_ready (rs := [3]) (by kernel_rfl) rfl ?_
            refine (AllL.cons rfl (fun K hK => ?_) AllL.nil)
            refine stepv_look (HT.out.hd).1 lawL Try.underlying45 rfl (.tmp 47) (.tmp 49) rfl (zeroI _) (.agg #[.int .i64 xf, .int .i64 xt, .string xd]) HKEY.out rfl rfl (iV (cc : Int)) (by rw [putV_same]; rfl) ?_
            refine hK.out _ _ (HC.out _ _ HT.out) (fun hHeld => ?_)
            try simp only [List.setIfInBounds_toArray, List.set_cons_zero, List.set_cons_succ]
            refine reg_take (i := 4) (d := 51) (v := ?_) [] rfl rfl (by kernel_rfl) (by kernel_rfl) (fun _ _ _ h => h) (Or.inl ⟨by rfl, ?_⟩) (by assumption) ?_
            rotate_left
            · (intro w hSw; (try dsimp only at hSw); go_simp; first | done | with_reducible rfl)
            try simp only [List.setIfInBounds_toArray, List.set_cons_zero, List.set_cons_succ]
            refine wpAnyL_ready (rs := [7]) (by kernel_rfl) rfl ?_
            refine (AllL.consJ rfl (by kernel_rfl) (fun K hK => ?_) AllL.nil)
            refine stepv_estore (HT.out.hd) lawL Try.underlying45 rfl (.tmp 47) (.tmp 53) (.tmp 51) rfl (by unfold maxLen; omega) _ HKEY.out rfl rfl rfl ?_
            intro w3 hm3 hu3
            rw [putV_put] at hm3
            have HT := Lib.hid (HT.out.markPut hm3 hu3)
            clear hm3 hu3
            refine hK.out _ _ ?_
            try simp only [List.setIfInBounds_toArray, List.set_cons_zero, List.set_cons_succ]
            refine wpAnyL_done (by kernel_rfl) ?_ _
            go_wp2_with fail
            go_meet
            exact ⟨_, _, _, _, HG1.out, HLI1.out, by omega, HT.out.sw.d3.d3⟩
        · have z0 : (e0 == 0) = false := by simpa using hz
          go_wp2_with (go_at_call 11; refine (send_sep HT.out ⟨xf, xt, xd⟩).mono ?_; rw [HE.out, sendL_no (by rw [HE.out]; exact hz)]; rintro e1 w5 ⟨rfl, la5, hs⟩; have HT := Lib.hid hs; clear hs)
          go_meet
          exact ⟨_, L, q, f, HGD.out, HLI.out, by omega, HT.out.r3.sw.d3.d3⟩
    have p0 : (xk == 0) = false := by simpa using hk0
    clear hk0
    by_cases hk1 : xk = 1
    · have p1 : (xk == 1) = true := by simp [hk1]
      as_aux_lemma =>
        clear hk1
        obtain ⟨X, hX⟩ : ∃ X, tkX L xi = X := ⟨_, rfl⟩
        obtain ⟨t, ht⟩ : ∃ t, tkB L = t := ⟨_, rfl⟩
        obtain ⟨L1, hL1⟩ : ∃ X, tkL L xi = X := ⟨_, rfl⟩
        have HX1 := Lib.hid (And.intro hX (And.intro ht hL1))
        have HG1 := Lib.hid (show Good L1 by rw [← hL1]; exact HGD.out.take xi)
        clear hX ht hL1
        obtain ⟨zf, zt, zd⟩ := X
        go_upto_region 16 with (go_at_call 13; refine (take_sep HT.out xi HGD.out.1).mono ?_; rw [HX1.out.1, HX1.out.2.1, HX1.out.2.2]; rintro e1 w5 ⟨rfl, la5, hs⟩; have HT := Lib.hid (hs.r3.newBlk #[.int .i64 zf, .int .i64 zt, .string zd] tL (g := w5.heap.size) rfl).sw; clear hs)
        generalize w5.alloc (.cells #[.int .i64 zf, .int .i64 zt, .string zd] tL) = w6 at *
        generalize w5.heap.size = g9 at *
        clear d1 d2 d3 d4 HG
        cases t
        · have HL1 := Lib.hid (show L1 = L by rw [← HX1.out.2.2]; exact tkL_no HX1.out.2.1)
          rw [HL1.out] at HT
          go_wp2_with fail
          go_meet
          exact ⟨_, L, q, f, HGD.out, HLI.out, by omega, HT.out.d2.sw.d3.d3⟩
        · have hne : L ≠ [] := by intro e; have := HX1.out.2.1; rw [e] at this; cases this
          have hkx : L[atK xi L.length]? = some ⟨zf, zt, zd⟩ := by
            obtain ⟨x, hx, _⟩ := at_get xi hne
            have := HX1.out.1
            unfold tkX at this
            rw [hx] at this
            rw [hx]; exact congrArg some this
          obtain ⟨cc, hcc⟩ : ∃ c, cntV L (.agg #[.int .i64 zf, .int .i64 zt, .string zd]) = c := ⟨_, rfl⟩
          have hc3 : cc ≤ 300 := by have := cntV_le (.agg #[.int .i64 zf, .int .i64 zt, .string zd]) L; have := HGD.out.1; omega
          have HCC := Lib.hid (show (f (.agg #[.int .i64 zf, .int .i64 zt, .string zd])).getD (.int .i64 0) = iV (cc : Int) by rw [← hcc]; exact (HLI.out _).1)
          have HKEY := Lib.hid (show KeyV tL (.agg #[.int .i64 zf, .int .i64 zt, .string zd]) from HGD.out.key (x := ⟨zf, zt, zd⟩) (List.mem_of_getElem? hkx))
          have HLI1 := Lib.hid (show LI L1 _ by rw [← HX1.out.2.2]; exact HLI.out.sub hkx hcc)
          have hw1 : IntKind.i64.wrap ((cc : Int) - 1) = (cc : Int) - 1 := IntWalk.i64_in _ (by omega)
          clear hcc hkx hne
          go_upto_region 17 with fail
          have HT := Lib.hid HT.out.drew
          have HC : Hid (∀ w' (t : Th), Sep w w' (t :: [tBlk g9 #[.int .i64 zf, .int .i64 zt, .string zd] tL, tN ba la5 L1, tOwn tL 3 (.slice A2 n c2) n (eLet.fl L), tBlk g8 #[.int .i64 xk, .int .i64 xi, .int .i64 xf, .int .i64 xt, .string xd] 33]) → (w'.cell? ⟨g9, 0, none⟩ = some (.int .i64 zf) ∧ w'.cell? ⟨g9, 1, none⟩ = some (.int .i64 zt) ∧ w'.cell? ⟨g9, 2, none⟩ = some (.string zd))) := Lib.hid (fun w' t h => ⟨(show Blk w' g9 _ tL from h.h2).cell 0, (show Blk w' g9 _ tL from h.h2).cell 1, (show Blk w' g9 _ tL from h.h2).cell 2⟩)
          refine wp_region_L (fun w' => w'.cell? ⟨g9, 0, none⟩ = some (.int .i64 zf) ∧ w'.cell? ⟨g9, 1, none⟩ = some (.int .i64 zt) ∧ w'.cell? ⟨g9, 2, none⟩ = some (.string zd)) 6 (by kernel_rfl) (HC.out _ _ HT.out) (fun hHeld => ?_)
          refine reg_take (i := 0) (d := 64) (v := ?_) [] rfl rfl (by kernel_rfl) (by kernel_rfl) (fun _ _ _ h => h) (Or.inl ⟨by rfl, ?_⟩) (by assumption) ?_
          rotate_left
          · (intro w hSw; (try dsimp only at hSw); go_simp; first | done | with_reducible rfl)
          try simp only [List.setIfInBounds_toArray, List.set_cons_zero, List.set_cons_succ]
          refine reg_take (i := 1) (d := 65) (v := ?_) [] rfl rfl (by kernel_rfl) (by kernel_rfl) (fun _ _ _ h => h) (Or.inl ⟨by rfl, ?_⟩) (by assumption) ?_
          rotate_left
          · (intro w hSw; (try dsimp only at hSw); go_simp; first | done | with_reducible rfl)
          try simp only [List.setIfInBounds_toArray, List.set_cons_zero, List.set_cons_succ]
          refine wpAnyL_ready (rs := [2, 4]) (by kernel_rfl) rfl ?_
          refine (AllL.cons rfl (fun K hK => ?_) (AllL.cons rfl (fun K hK => ?_) AllL.nil))
          · refine stepv_look (HT.out.hd) lawL Try.underlying45 rfl (.tmp 64) (.tmp 65) rfl (zeroI _) (.agg #[.int .i64 zf, .int .i64 zt, .string zd]) HKEY.out rfl rfl (iV (cc : Int)) HCC.out ?_
            refine hK.out _ _ (HC.out _ _ HT.out) (fun hHeld => ?_)
            try simp only [List.setIfInBounds_toArray, List.set_cons_zero, List.set_cons_succ]
            refine reg_take (i := 3) (d := 67) (v := ?_) [] rfl rfl (by kernel_rfl) (by kernel_rfl) (fun _ _ _ h => h) (Or.inl ⟨by rfl, ?_⟩) (by assumption) ?_
            rotate_left
            · (intro w hSw; (try dsimp only at hSw); go_simp; first | done | with_reducible rfl)
            try simp only [List.setIfInBounds_toArray, List.set_cons_zero, List.set_cons_succ]
            refine wpAnyL_ready (rs := [4]) (by kernel_rfl) rfl ?_
            refine (AllL.cons rfl (fun K hK => ?_) AllL.nil)
            refine stepv_entry (HT.out.hd) lawL Try.underlying45 rfl (.tmp 64) (.tmp 65) rfl (by unfold maxLen; omega) (zeroI _) (.agg #[.int .i64 zf, .int .i64 zt, .string zd]) HKEY.out rfl rfl (iV (cc : Int)) HCC.out ?_
            intro st w2 he hu2
            have HT := Lib.hid (HT.out.mapMark he hu2)
            clear he hu2
            refine hK.out _ _ (HC.out _ _ HT.out) (fun hHeld => ?_)
            try simp only [List.setIfInBounds_toArray, List.set_cons_zero, List.set_cons_succ]
            refine reg_take (i := 5) (d := 69) (v := ?_) [] rfl rfl (by kernel_rfl) (by kernel_rfl) (fun _ _ _ h => h) (Or.inl ⟨by rfl, ?_⟩) (by assumption) ?_
            rotate_left
            · (intro w hSw; (try dsimp only at hSw); go_simp; first | done | with_reducible rfl)
            try simp only [List.setIfInBounds_toArray, List.set_cons_zero, List.set_cons_succ]
            refine wpAnyL_ready (rs := [6]) (by kernel_rfl) rfl ?_
            refine (AllL.consJ rfl (by kernel_rfl) (fun K hK => ?_) AllL.nil)
            refine stepv_estore (HT.out.hd) lawL Try.underlying45 rfl (.tmp 64) (.tmp 69) (.tmp 67) rfl (by unfold maxLen; omega) _ HKEY.out rfl rfl rfl ?_
            intro w3 hm3 hu3
            rw [putV_put] at hm3
            have HT := Lib.hid (HT.out.markPut hm3 hu3)
            clear hm3 hu3
            refine hK.out _ _ ?_
            try simp only [List.setIfInBounds_toArray, List.set_cons_zero, List.set_cons_succ]
            refine wpAnyL_done (by kernel_rfl) ?_ _
            go_wp2_with fail
            go_meet
            exact ⟨_, _, _, _, HG1.out, HLI1.out, by omega, HT.out.d2.sw.d3.d3⟩
          · refine stepv_entry (HT.out.hd) lawL Try.underlying45 rfl (.tmp 64) (.tmp 65) rfl (by unfold maxLen; omega) (zeroI _) (.agg #[.int .i64 zf, .int .i64 zt, .string zd]) HKEY.out rfl rfl (iV (cc : Int)) HCC.out ?_
            intro st w2 he hu2
            have HT := Lib.hid (HT.out.mapMark he hu2)
            clear he hu2
            refine hK.out _ _ (HC.out _ _ HT.out) (fun hHeld => ?_)
            try simp only [List.setIfInBounds_toArray, List.set_cons_zero, List.set_cons_succ]
            refine reg_take (i := 5) (d := 69) (v := ?_) [] rfl rfl (by kernel_rfl) (by kernel_rfl) (fun _ _ _ h => h) (Or.inl ⟨by rfl, ?_⟩) (by assumption) ?_
            rotate_left
            · (intro w hSw; (try dsimp only at hSw); go_simp; first | done | with_reducible rfl)
            try simp only [List.setIfInBounds_toArray, List.set_cons_zero, List.set_cons_succ]
            refine wpAnyL_ready (rs := [2]) (by kernel_rfl) rfl ?_
            refine (AllL.cons rfl (fun K hK => ?_) AllL.nil)
            refine stepv_look (HT.out.hd).1 lawL Try.underlying45 rfl (.tmp 64) (.tmp 65) rfl (zeroI _) (.agg #[.int .i64 zf, .int .i64 zt, .string zd]) HKEY.out rfl rfl (iV (cc : Int)) (by rw [putV_same]; rfl) ?_
            refine hK.out _ _ (HC.out _ _ HT.out) (fun hHeld => ?_)
            try simp only [List.setIfInBounds_toArray, List.set_cons_zero, List.set_cons_succ]
            refine reg_take (i := 3) (d := 67) (v := ?_) [] rfl rfl (by kernel_rfl) (by kernel_rfl) (fun _ _ _ h => h) (Or.inl ⟨by rfl, ?_⟩) (by assumption) ?_
            rotate_left
            · (intro w hSw; (try dsimp only at hSw); go_simp; first | done | with_reducible rfl)
            try simp only [List.setIfInBounds_toArray, List.set_cons_zero, List.set_cons_succ]
            refine wpAnyL_ready (rs := [6]) (by kernel_rfl) rfl ?_
            refine (AllL.consJ rfl (by kernel_rfl) (fun K hK => ?_) AllL.nil)
            refine stepv_estore (HT.out.hd) lawL Try.underlying45 rfl (.tmp 64) (.tmp 69) (.tmp 67) rfl (by unfold maxLen; omega) _ HKEY.out rfl rfl rfl ?_
            intro w3 hm3 hu3
            rw [putV_put] at hm3
            have HT := Lib.hid (HT.out.markPut hm3 hu3)
            clear hm3 hu3
            refine hK.out _ _ ?_
            try simp only [List.setIfInBounds_toArray, List.set_cons_zero, List.set_cons_succ]
            refine wpAnyL_done (by kernel_rfl) ?_ _
            go_wp2_with fail
            go_meet
            exact ⟨_, _, _, _, HG1.out, HLI1.out, by omega, HT.out.d2.sw.d3.d3⟩
    have p1 : (xk == 1) = false := by simpa using hk1
    clear hk1
    by_cases hk2 : xk = 2
    · have p2 : (xk == 2) = true := by simp [hk2]
      as_aux_lemma =>
        clear hk2
        obtain ⟨t, ht⟩ : ∃ t, cpB L xi = t := ⟨_, rfl⟩
        obtain ⟨L1, hL1⟩ : ∃ X, cpL L xi = X := ⟨_, rfl⟩
        have HX1 := Lib.hid (And.intro ht hL1)
        have HG1 := Lib.hid (show Good L1 by rw [← hL1]; exact HGD.out.copy xi)
        clear ht hL1
        cases t
        · have HL1 := Lib.hid (show L1 = L by rw [← HX1.out.2]; exact cpL_no HX1.out.1)
          go_wp2_with (go_at_call 15; refine (copy_sep HT.out xi HGD.out.1).mono ?_; rw [HX1.out.1, HX1.out.2, HL1.out]; rintro e1 w5 ⟨rfl, la5, hs⟩; have HT := Lib.hid hs; clear hs)
          go_meet
          exact ⟨_, L, q, f, HGD.out, HLI.out, by omega, HT.out.r3.sw.d3.d3⟩
        · obtain ⟨X, hkx, hL1⟩ := cpL_yes HX1.out.1
          have hn0 : 0 < n := by
            obtain ⟨h, _⟩ := List.getElem?_eq_some_iff.1 hkx
            rw [← HN.out]; omega
          rw [HX1.out.2] at hL1
          subst hL1
          rw [HN.out] at hkx
          obtain ⟨zf, zt, zd⟩ := X
          obtain ⟨kk, hkk⟩ : ∃ j, atK xi n = j := ⟨_, rfl⟩
          have hkn : kk < n := by rw [← hkk]; exact atK_lt xi hn0
          have hmd := tmod_bd xi hn0
          have hmq : ((xi.tmod (n : Int)) + (n : Int)).tmod (n : Int) = (kk : Int) := by rw [tmod_emod xi hn0, ← hkk, atK_cast xi hn0]
          rw [hkk] at hkx
          obtain ⟨cc, hcc⟩ : ∃ c, cntV L (.agg #[.int .i64 zf, .int .i64 zt, .string zd]) = c := ⟨_, rfl⟩
          have hc3 : cc ≤ 300 := by have := cntV_le (.agg #[.int .i64 zf, .int .i64 zt, .string zd]) L; have := HGD.out.1; omega
          have HCC := Lib.hid (show (f (.agg #[.int .i64 zf, .int .i64 zt, .string zd])).getD (.int .i64 0) = iV (cc : Int) by rw [← hcc]; exact (HLI.out _).1)
          have HKEY := Lib.hid (show KeyV tL (.agg #[.int .i64 zf, .int .i64 zt, .string zd]) from HGD.out.key (x := ⟨zf, zt, zd⟩) (List.mem_of_getElem? hkx))
          have HLI1 := Lib.hid (HLI.out.add ⟨zf, zt, zd⟩ hcc)
          have HKX := Lib.hid hkx
          obtain ⟨n1, hn1⟩ : ∃ n1, (L ++ [(⟨zf, zt, zd⟩ : Letter)]).length = n1 := ⟨_, rfl⟩
          have hn1' : n1 = n + 1 := by rw [← hn1, List.length_append, HN.out]; rfl
          have HN1 := Lib.hid hn1
          have HNL := Lib.hid (show (L ++ [(⟨zf, zt, zd⟩ : Letter)])[n]? = some ⟨zf, zt, zd⟩ by rw [← HN.out]; simp)
          have hw1 : IntKind.i64.wrap ((cc : Int) + 1) = (cc : Int) + 1 := IntWalk.i64_in _ (by omega)
          obtain ⟨r1, hr1⟩ : ∃ r, xi.tmod (n : Int) = r := ⟨_, rfl⟩
          rw [hr1] at hmd hmq
          have hw2 : IntKind.i64.wrap (r1 + (n : Int)) = r1 + (n : Int) := IntWalk.i64_in _ (by omega)
          have hw3 : IntKind.i64.wrap ((n1 : Int) - 1) = (n : Int) := by rw [IntWalk.i64_in _ (by omega)]; omega
          have j8 : (n : Int) < (n1 : Int) := by omega
          have j9 : (0 : Int) ≤ (n : Int) := by omega
          clear hcc hkx hkk hn1 hn1'
          obtain ⟨gb, go, rfl, _⟩ := (show Own w4 tL 3 (.slice A2 n c2) n (eLet.fl L) from HT.out.h2).rd.let3 kk ⟨zf, zt, zd⟩ HKX.out
          clear d2 d3 d4 HG
          have j1 : (kk : Int) < (n : Int) := by omega
          have j0 : (0 : Int) ≤ (kk : Int) := by omega
          have j2 : ¬ (n : Int) = 0 := by omega
          have j4 : ¬ n = 0 := by omega
          have j3 : ((n : Int) == 0) = false := by simp; omega
          go_upto_region 20 with (go_at_call 15; refine (copy_sep HT.out xi HGD.out.1).mono ?_; rw [HX1.out.1, HX1.out.2]; rintro e1 w5 ⟨rfl, la5, hs⟩; have HT := Lib.hid hs; clear hs)
          clear d1
          go_upto_region 21 with (go_at_call 18; refine (all_sep HT.out HG1.out.1).mono ?_; rw [HN1.out]; rintro e1 w6 ⟨A6, c6, rfl, hs⟩; have HT := Lib.hid hs.r4; clear hs)
          obtain ⟨gc, gp, rfl, _⟩ := (show Own w6 tL 3 (.slice A6 n1 c6) n1 (eLet.fl (L ++ [⟨zf, zt, zd⟩])) from HT.out.h2).rd.let3 n ⟨zf, zt, zd⟩ HNL.out
          have HT := Lib.hid HT.out.drew
          have HC : Hid (∀ w' (t : Th), Sep w w' (t :: [tOwn tL 3 (.slice (some ⟨gc, gp, none⟩) n1 c6) n1 (eLet.fl (L ++ [⟨zf, zt, zd⟩])), tN ba la5 (L ++ [⟨zf, zt, zd⟩]), tOwn tL 3 (.slice (some ⟨gb, go, none⟩) n c2) n (eLet.fl L), tBlk g8 #[.int .i64 xk, .int .i64 xi, .int .i64 xf, .int .i64 xt, .string xd] 33]) → (w'.cell? ⟨gc, gp + n * 3, none⟩ = some (.int .i64 zf) ∧ w'.cell? ⟨gc, gp + n * 3 + 1, none⟩ = some (.int .i64 zt) ∧ w'.cell? ⟨gc, gp + n * 3 + 2, none⟩ = some (.string zd))) := Lib.hid (fun w' t h => ((show Own w' tL 3 (.slice (some ⟨gc, gp, none⟩) n1 c6) n1 (eLet.fl (L ++ [⟨zf, zt, zd⟩])) from h.h2).rd.let3' HNL.out))
          refine wp_region_L (fun w' => w'.cell? ⟨gc, gp + n * 3, none⟩ = some (.int .i64 zf) ∧ w'.cell? ⟨gc, gp + n * 3 + 1, none⟩ = some (.int .i64 zt) ∧ w'.cell? ⟨gc, gp + n * 3 + 2, none⟩ = some (.string zd)) 11 (by kernel_rfl) (HC.out _ _ HT.out) (fun hHeld => ?_)
          refine reg_take (i := 0) (d := 78) (v := ?_) [] rfl rfl (by kernel_rfl) (by kernel_rfl) (fun _ _ _ h => h) (Or.inl ⟨by rfl, ?_⟩) (by assumption) ?_
          rotate_left
          · (intro w hSw; (try dsimp only at hSw); go_simp; first | done | with_reducible rfl)
          try simp only [List.setIfInBounds_toArray, List.set_cons_zero, List.set_cons_succ]
          refine reg_take (i := 1) (d := 79) (v := ?_) [] rfl rfl (by kernel_rfl) (by kernel_rfl) (fun _ _ _ h => h) (Or.inl ⟨by rfl, ?_⟩) (by assumption) ?_
          rotate_left
          · (intro w hSw; (try dsimp only at hSw); go_simp; first | done | with_reducible rfl)
          try simp only [List.setIfInBounds_toArray, List.set_cons_zero, List.set_cons_succ]
          refine reg_take (i := 2) (d := 80) (v := ?_) [] rfl rfl (by kernel_rfl) (by kernel_rfl) (fun _ _ _ h => h) (Or.inl ⟨by rfl, ?_⟩) (by assumption) ?_
          rotate_left
          · (intro w hSw; (try dsimp only at hSw); go_simp; first | done | with_reducible rfl)
          try simp only [List.setIfInBounds_toArray, List.set_cons_zero, List.set_cons_succ]
          refine reg_take (i := 3) (d := 81) (v := ?_) [] rfl rfl (by kernel_rfl) (by kernel_rfl) (fun _ _ _ h => h) (Or.inl ⟨by rfl, ?_⟩) (by assumption) ?_
          rotate_left
          · (intro w hSw; (try dsimp only at hSw); go_simp; first | done | with_reducible rfl)
          try simp only [List.setIfInBounds_toArray, List.set_cons_zero, List.set_cons_succ]
          refine reg_take (i := 4) (d := 82) (v := ?_) [] rfl rfl (by kernel_rfl) (by kernel_rfl) (fun _ _ _ h => h) (Or.inl ⟨by rfl, ?_⟩) (by assumption) ?_
          rotate_left
          · (intro w hSw; (try dsimp only at hSw); go_simp; first | done | with_reducible rfl)
          try simp only [List.setIfInBounds_toArray, List.set_cons_zero, List.set_cons_succ]
          refine reg_take (i := 5) (d := 83) (v := ?_) [] rfl rfl (by kernel_rfl) (by kernel_rfl) (fun _ _ _ h => h) (Or.inl ⟨by rfl, ?_⟩) (by assumption) ?_
          rotate_left
          · (intro w hSw; (try dsimp only at hSw); go_simp; first | done | with_reducible rfl)
          try simp only [List.setIfInBounds_toArray, List.set_cons_zero, List.set_cons_succ]
          refine reg_take (i := 6) (d := 84) (v := ?_) [] rfl rfl (by kernel_rfl) (by kernel_rfl) (fun _ _ _ h => h) (Or.inl ⟨by rfl, ?_⟩) (by assumption) ?_
          rotate_left
          · (intro w hSw; (try dsimp only at hSw); go_simp; first | done | with_reducible rfl)
          try simp only [List.setIfInBounds_toArray, List.set_cons_zero, List.set_cons_succ]
          refine wpAnyL_ready (rs := [7, 9]) (by kernel_rfl) rfl ?_
          refine (AllL.cons rfl (fun K hK => ?_) (AllL.cons rfl (fun K hK => ?_) AllL.nil))
          · refine stepv_look (HT.out.hd) lawL Try.underlying45 rfl (.tmp 78) (.tmp 84) rfl (zeroI _) (.agg #[.int .i64 zf, .int .i64 zt, .string zd]) HKEY.out rfl rfl (iV (cc : Int)) HCC.out ?_
            refine hK.out _ _ (HC.out _ _ HT.out) (fun hHeld => ?_)
            try simp only [List.setIfInBounds_toArray, List.set_cons_zero, List.set_cons_succ]
            refine reg_take (i := 8) (d := 86) (v := ?_) [] rfl rfl (by kernel_rfl) (by kernel_rfl) (fun _ _ _ h => h) (Or.inl ⟨by rfl, ?_⟩) (by assumption) ?_
            rotate_left
            · (intro w hSw; (try dsimp only at hSw); go_simp; first | done | with_reducible rfl)
            try simp only [List.setIfInBounds_toArray, List.set_cons_zero, List.set_cons_succ]
            refine wpAnyL_ready (rs := [9]) (by kernel_rfl) rfl ?_
            refine (AllL.cons rfl (fun K hK => ?_) AllL.nil)
            refine stepv_entry (HT.out.hd) lawL Try.underlying45 rfl (.tmp 78) (.tmp 84) rfl (by unfold maxLen; omega) (zeroI _) (.agg #[.int .i64 zf, .int .i64 zt, .string zd]) HKEY.out rfl rfl (iV (cc : Int)) HCC.out ?_
            intro st w2 he hu2
            have HT := Lib.hid (HT.out.mapMark he hu2)
            clear he hu2
            refine hK.out _ _ (HC.out _ _ HT.out) (fun hHeld => ?_)
            try simp only [List.setIfInBounds_toArray, List.set_cons_zero, List.set_cons_succ]
            refine reg_take (i := 10) (d := 88) (v := ?_) [] rfl rfl (by kernel_rfl) (by kernel_rfl) (fun _ _ _ h => h) (Or.inl ⟨by rfl, ?_⟩) (by assumption) ?_
            rotate_left
            · (intro w hSw; (try dsimp only at hSw); go_simp; first | done | with_reducible rfl)
            try simp only [List.setIfInBounds_toArray, List.set_cons_zero, List.set_cons_succ]
            refine wpAnyL_ready (rs := [11]) (by kernel_rfl) rfl ?_
            refine (AllL.consJ rfl (by kernel_rfl) (fun K hK => ?_) AllL.nil)
            refine stepv_estore (HT.out.hd) lawL Try.underlying45 rfl (.tmp 78) (.tmp 88) (.tmp 86) rfl (by unfold maxLen; omega) _ HKEY.out rfl rfl rfl ?_
            intro w3 hm3 hu3
            rw [putV_put] at hm3
            have HT := Lib.hid (HT.out.markPut hm3 hu3)
            clear hm3 hu3
            refine hK.out _ _ ?_
            try simp only [List.setIfInBounds_toArray, List.set_cons_zero, List.set_cons_succ]
            refine wpAnyL_done (by kernel_rfl) ?_ _
            have g1 : ∀ w', Sep w w' (tMapV tL bm (q + 1 + 1) (putV f (.agg #[.int .i64 zf, .int .i64 zt, .string zd]) (iV ((cc : Int) + 1))) :: [tOwn tL 3 (.slice (some ⟨gc, gp, none⟩) n1 c6) n1 (eLet.fl (L ++ [⟨zf, zt, zd⟩])), tN ba la5 (L ++ [⟨zf, zt, zd⟩]), tOwn tL 3 (.slice (some ⟨gb, go, none⟩) n c2) n (eLet.fl L), tBlk g8 #[.int .i64 xk, .int .i64 xi, .int .i64 xf, .int .i64 xt, .string xd] 33]) → w'.cell? ⟨g8, 1, none⟩ = some (.int .i64 xi) := fun w' h => (show Blk w' g8 _ 33 from h.h5).cell 1
            have d1 := g1 _ HT.out
            clear g1
            go_upto_region 23 with fail
            clear d1
            refine wp_region_L (fun w' => w'.cell? ⟨gc, gp + n * 3, none⟩ = some (.int .i64 zf) ∧ w'.cell? ⟨gc, gp + n * 3 + 1, none⟩ = some (.int .i64 zt) ∧ w'.cell? ⟨gc, gp + n * 3 + 2, none⟩ = some (.string zd) ∧ w'.cell? ⟨gb, go + kk * 3, none⟩ = some (.int .i64 zf) ∧ w'.cell? ⟨gb, go + kk * 3 + 1, none⟩ = some (.int .i64 zt) ∧ w'.cell? ⟨gb, go + kk * 3 + 2, none⟩ = some (.string zd)) 11 (by kernel_rfl) ⟨((show Own _ tL 3 (.slice (some ⟨gc, gp, none⟩) n1 c6) n1 (eLet.fl (L ++ [⟨zf, zt, zd⟩])) from HT.out.drew.h2).rd.let3' HNL.out).1, ((show Own _ tL 3 (.slice (some ⟨gc, gp, none⟩) n1 c6) n1 (eLet.fl (L ++ [⟨zf, zt, zd⟩])) from HT.out.drew.h2).rd.let3' HNL.out).2.1, ((show Own _ tL 3 (.slice (some ⟨gc, gp, none⟩) n1 c6) n1 (eLet.fl (L ++ [⟨zf, zt, zd⟩])) from HT.out.drew.h2).rd.let3' HNL.out).2.2, (show Own _ tL 3 (.slice (some ⟨gb, go, none⟩) n c2) n (eLet.fl L) from HT.out.drew.h4).rd.let3' HKX.out⟩ (fun hHeld => ?_)
            refine reg_take (i := 0) (d := 100) (v := ?_) [] rfl rfl (by kernel_rfl) (by kernel_rfl) (fun _ _ _ h => h) (Or.inl ⟨by rfl, ?_⟩) (by assumption) ?_
            rotate_left
            · (intro w hSw; (try dsimp only at hSw); go_simp; first | done | with_reducible rfl)
            try simp only [List.setIfInBounds_toArray, List.set_cons_zero, List.set_cons_succ]
            refine reg_take (i := 1) (d := 101) (v := ?_) [] rfl rfl (by kernel_rfl) (by kernel_rfl) (fun _ _ _ h => h) (Or.inl ⟨by rfl, ?_⟩) (by assumption) ?_
            rotate_left
            · (intro w hSw; (try dsimp only at hSw); go_simp; first | done | with_reducible rfl)
            try simp only [List.setIfInBounds_toArray, List.set_cons_zero, List.set_cons_succ]
            refine reg_take (i := 2) (d := 102) (v := ?_) [] rfl rfl (by kernel_rfl) (by kernel_rfl) (fun _ _ _ h => h) (Or.inl ⟨by rfl, ?_⟩) (by assumption) ?_
            rotate_left
            · (intro w hSw; (try dsimp only at hSw); go_simp; first | done | with_reducible rfl)
            try simp only [List.setIfInBounds_toArray, List.set_cons_zero, List.set_cons_succ]
            refine reg_take (i := 3) (d := 103) (v := ?_) [] rfl rfl (by kernel_rfl) (by kernel_rfl) (fun _ _ _ h => h) (Or.inl ⟨by rfl, ?_⟩) (by assumption) ?_
            rotate_left
            · (intro w hSw; (try dsimp only at hSw); go_simp; first | done | with_reducible rfl)
            try simp only [List.setIfInBounds_toArray, List.set_cons_zero, List.set_cons_succ]
            refine reg_take (i := 4) (d := 104) (v := ?_) [] rfl rfl (by kernel_rfl) (by kernel_rfl) (fun _ _ _ h => h) (Or.inl ⟨by rfl, ?_⟩) (by assumption) ?_
            rotate_left
            · (intro w hSw; (try dsimp only at hSw); go_simp; first | done | with_reducible rfl)
            try simp only [List.setIfInBounds_toArray, List.set_cons_zero, List.set_cons_succ]
            refine reg_take (i := 5) (d := 105) (v := ?_) [] rfl rfl (by kernel_rfl) (by kernel_rfl) (fun _ _ _ h => h) (Or.inl ⟨by rfl, ?_⟩) (by assumption) ?_
            rotate_left
            · (intro w hSw; (try dsimp only at hSw); go_simp; first | done | with_reducible rfl)
            try simp only [List.setIfInBounds_toArray, List.set_cons_zero, List.set_cons_succ]
            refine reg_take (i := 6) (d := 106) (v := ?_) [] rfl rfl (by kernel_rfl) (by kernel_rfl) (fun _ _ _ h => h) (Or.inl ⟨by rfl, ?_⟩) (by assumption) ?_
            rotate_left
            · (intro w hSw; (try dsimp only at hSw); go_simp; first | done | with_reducible rfl)
            try simp only [List.setIfInBounds_toArray, List.set_cons_zero, List.set_cons_succ]
            refine reg_take (i := 7) (d := 107) (v := ?_) [] rfl rfl (by kernel_rfl) (by kernel_rfl) (fun _ _ _ h => h) (Or.inl ⟨by rfl, ?_⟩) (by assumption) ?_
            rotate_left
            · (intro w hSw; (try dsimp only at hSw); go_simp; first | done | with_reducible rfl)
            try simp only [List.setIfInBounds_toArray, List.set_cons_zero, List.set_cons_succ]
            refine reg_take (i := 8) (d := 108) (v := ?_) [] rfl rfl (by kernel_rfl) (by kernel_rfl) (fun _ _ _ h => h) (Or.inl ⟨by rfl, ?_⟩) (by assumption) ?_
            rotate_left
            · (intro w hSw; (try dsimp only at hSw); go_simp; first | done | with_reducible rfl)
            try simp only [List.setIfInBounds_toArray, List.set_cons_zero, List.set_cons_succ]
            refine reg_take (i := 9) (d := 109) (v := ?_) [] rfl rfl (by kernel_rfl) (by kernel_rfl) (fun _ _ _ h => h) (Or.inl ⟨by rfl, ?_⟩) (by assumption) ?_
            rotate_left
            · (intro w hSw; (try dsimp only at hSw); go_simp; first | done | with_reducible rfl)
            try simp only [List.setIfInBounds_toArray, List.set_cons_zero, List.set_cons_succ]
            refine reg_take (i := 10) (d := 110) (v := ?_) [] rfl rfl (by kernel_rfl) (by kernel_rfl) (fun _ _ _ h => h) (Or.inl ⟨by rfl, ?_⟩) (by assumption) ?_
            rotate_left
            · (intro w hSw; (try dsimp only at hSw); go_simp; first | done | with_reducible rfl)
            try simp only [List.setIfInBounds_toArray, List.set_cons_zero, List.set_cons_succ]
            refine wpAnyL_done (by kernel_rfl) ?_ _
            have HT := Lib.hid HT.out.drew
            go_wp2_with fail
            go_meet
            exact ⟨_, _, _, _, HG1.out, HLI1.out, by omega, HT.out.r3.d3.d3.d3⟩
          · refine stepv_entry (HT.out.hd) lawL Try.underlying45 rfl (.tmp 78) (.tmp 84) rfl (by unfold maxLen; omega) (zeroI _) (.agg #[.int .i64 zf, .int .i64 zt, .string zd]) HKEY.out rfl rfl (iV (cc : Int)) HCC.out ?_
            intro st w2 he hu2
            have HT := Lib.hid (HT.out.mapMark he hu2)
            clear he hu2
            refine hK.out _ _ (HC.out _ _ HT.out) (fun hHeld => ?_)
            try simp only [List.setIfInBounds_toArray, List.set_cons_zero, List.set_cons_succ]
            refine reg_take (i := 10) (d := 88) (v := ?_) [] rfl rfl (by kernel_rfl) (by kernel_rfl) (fun _ _ _ h => h) (Or.inl ⟨by rfl, ?_⟩) (by assumption) ?_
            rotate_left
            · (intro w hSw; (try dsimp only at hSw); go_simp; first | done | with_reducible rfl)
            try simp only [List.setIfInBounds_toArray, List.set_cons_zero, List.set_cons_succ]
            refine wpAnyL_ready (rs := [7]) (by kernel_rfl) rfl ?_
            refine (AllL.cons rfl (fun K hK => ?_) AllL.nil)
            refine stepv_look (HT.out.hd).1 lawL Try.underlying45 rfl (.tmp 78) (.tmp 84) rfl (zeroI _) (.agg #[.int .i64 zf, .int .i64 zt, .string zd]) HKEY.out rfl rfl (iV (cc : Int)) (by rw [putV_same]; rfl) ?_
            refine hK.out _ _ (HC.out _ _ HT.out) (fun hHeld => ?_)
            try simp only [List.setIfInBounds_toArray, List.set_cons_zero, List.set_cons_succ]
            refine reg_take (i := 8) (d := 86) (v := ?_) [] rfl rfl (by kernel_rfl) (by kernel_rfl) (fun _ _ _ h => h) (Or.inl ⟨by rfl, ?_⟩) (by assumption) ?_
            rotate_left
            · (intro w hSw; (try dsimp only at hSw); go_simp; first | done | with_reducible rfl)
            try simp only [List.setIfInBounds_toArray, List.set_cons_zero, List.set_cons_succ]
            refine wpAnyL_ready (rs := [11]) (by kernel_rfl) rfl ?_
            refine (AllL.consJ rfl (by kernel_rfl) (fun K hK => ?_) AllL.nil)
            refine stepv_estore (HT.out.hd) lawL Try.underlying45 rfl (.tmp 78) (.tmp 88) (.tmp 86) rfl (by unfold maxLen; omega) _ HKEY.out rfl rfl rfl ?_
            intro w3 hm3 hu3
            rw [putV_put] at hm3
            have HT := Lib.hid (HT.out.markPut hm3 hu3)
            clear hm3 hu3
            refine hK.out _ _ ?_
            try simp only [List.setIfInBounds_toArray, List.set_cons_zero, List.set_cons_succ]
            refine wpAnyL_done (by kernel_rfl) ?_ _
            have g1 : ∀ w', Sep w w' (tMapV tL bm (q + 1 + 1) (putV f (.agg #[.int .i64 zf, .int .i64 zt, .string zd]) (iV ((cc : Int) + 1))) :: [tOwn tL 3 (.slice (some ⟨gc, gp, none⟩) n1 c6) n1 (eLet.fl (L ++ [⟨zf, zt, zd⟩])), tN ba la5 (L ++ [⟨zf, zt, zd⟩]), tOwn tL 3 (.slice (some ⟨gb, go, none⟩) n c2) n (eLet.fl L), tBlk g8 #[.int .i64 xk, .int .i64 xi, .int .i64 xf, .int .i64 xt, .string xd] 33]) → w'.cell? ⟨g8, 1, none⟩ = some (.int .i64 xi) := fun w' h => (show Blk w' g8 _ 33 from h.h5).cell 1
            have d1 := g1 _ HT.out
            clear g1
            go_upto_region 23 with fail
            clear d1
            refine wp_region_L (fun w' => w'.cell? ⟨gc, gp + n * 3, none⟩ = some (.int .i64 zf) ∧ w'.cell? ⟨gc, gp + n * 3 + 1, none⟩ = some (.int .i64 zt) ∧ w'.cell? ⟨gc, gp + n * 3 + 2, none⟩ = some (.string zd) ∧ w'.cell? ⟨gb, go + kk * 3, none⟩ = some (.int .i64 zf) ∧ w'.cell? ⟨gb, go + kk * 3 + 1, none⟩ = some (.int .i64 zt) ∧ w'.cell? ⟨gb, go + kk * 3 + 2, none⟩ = some (.string zd)) 11 (by kernel_rfl) ⟨((show Own _ tL 3 (.slice (some ⟨gc, gp, none⟩) n1 c6) n1 (eLet.fl (L ++ [⟨zf, zt, zd⟩])) from HT.out.drew.h2).rd.let3' HNL.out).1, ((show Own _ tL 3 (.slice (some ⟨gc, gp, none⟩) n1 c6) n1 (eLet.fl (L ++ [⟨zf, zt, zd⟩])) from HT.out.drew.h2).rd.let3' HNL.out).2.1, ((show Own _ tL 3 (.slice (some ⟨gc, gp, none⟩) n1 c6) n1 (eLet.fl (L ++ [⟨zf, zt, zd⟩])) from HT.out.drew.h2).rd.let3' HNL.out).2.2, (show Own _ tL 3 (.slice (some ⟨gb, go, none⟩) n c2) n (eLet.fl L) from HT.out.drew.h4).rd.let3' HKX.out⟩ (fun hHeld => ?_)
            refine reg_take (i := 0) (d := 100) (v := ?_) [] rfl rfl (by kernel_rfl) (by kernel_rfl) (fun _ _ _ h => h) (Or.inl ⟨by rfl, ?_⟩) (by assumption) ?_
            rotate_left
            · (intro w hSw; (try dsimp only at hSw); go_simp; first | done | with_reducible rfl)
            try simp only [List.setIfInBounds_toArray, List.set_cons_zero, List.set_cons_succ]
            refine reg_take (i := 1) (d := 101) (v := ?_) [] rfl rfl (by kernel_rfl) (by kernel_rfl) (fun _ _ _ h => h) (Or.inl ⟨by rfl, ?_⟩) (by assumption) ?_
            rotate_left
            · (intro w hSw; (try dsimp only at hSw); go_simp; first | done | with_reducible rfl)
            try simp only [List.setIfInBounds_toArray, List.set_cons_zero, List.set_cons_succ]
            refine reg_take (i := 2) (d := 102) (v := ?_) [] rfl rfl (by kernel_rfl) (by kernel_rfl) (fun _ _ _ h => h) (Or.inl ⟨by rfl, ?_⟩) (by assumption) ?_
            rotate_left
            · (intro w hSw; (try dsimp only at hSw); go_simp; first | done | with_reducible rfl)
            try simp only [List.setIfInBounds_toArray, List.set_cons_zero, List.set_cons_succ]
            refine reg_take (i := 3) (d := 103) (v := ?_) [] rfl rfl (by kernel_rfl) (by kernel_rfl) (fun _ _ _ h => h) (Or.inl ⟨by rfl, ?_⟩) (by assumption) ?_
            rotate_left
            · (intro w hSw; (try dsimp only at hSw); go_simp; first | done | with_reducible rfl)
            try simp only [List.setIfInBounds_toArray, List.set_cons_zero, List.set_cons_succ]
            refine reg_take (i := 4) (d := 104) (v := ?_) [] rfl rfl (by kernel_rfl) (by kernel_rfl) (fun _ _ _ h => h) (Or.inl ⟨by rfl, ?_⟩) (by assumption) ?_
            rotate_left
            · (intro w hSw; (try dsimp only at hSw); go_simp; first | done | with_reducible rfl)
            try simp only [List.setIfInBounds_toArray, List.set_cons_zero, List.set_cons_succ]
            refine reg_take (i := 5) (d := 105) (v := ?_) [] rfl rfl (by kernel_rfl) (by kernel_rfl) (fun _ _ _ h => h) (Or.inl ⟨by rfl, ?_⟩) (by assumption) ?_
            rotate_left
            · (intro w hSw; (try dsimp only at hSw); go_simp; first | done | with_reducible rfl)
            try simp only [List.setIfInBounds_toArray, List.set_cons_zero, List.set_cons_succ]
            refine reg_take (i := 6) (d := 106) (v := ?_) [] rfl rfl (by kernel_rfl) (by kernel_rfl) (fun _ _ _ h => h) (Or.inl ⟨by rfl, ?_⟩) (by assumption) ?_
            rotate_left
            · (intro w hSw; (try dsimp only at hSw); go_simp; first | done | with_reducible rfl)
            try simp only [List.setIfInBounds_toArray, List.set_cons_zero, List.set_cons_succ]
            refine reg_take (i := 7) (d := 107) (v := ?_) [] rfl rfl (by kernel_rfl) (by kernel_rfl) (fun _ _ _ h => h) (Or.inl ⟨by rfl, ?_⟩) (by assumption) ?_
            rotate_left
            · (intro w hSw; (try dsimp only at hSw); go_simp; first | done | with_reducible rfl)
            try simp only [List.setIfInBounds_toArray, List.set_cons_zero, List.set_cons_succ]
            refine reg_take (i := 8) (d := 108) (v := ?_) [] rfl rfl (by kernel_rfl) (by kernel_rfl) (fun _ _ _ h => h) (Or.inl ⟨by rfl, ?_⟩) (by assumption) ?_
            rotate_left
            · (intro w hSw; (try dsimp only at hSw); go_simp; first | done | with_reducible rfl)
            try simp only [List.setIfInBounds_toArray, List.set_cons_zero, List.set_cons_succ]
            refine reg_take (i := 9) (d := 109) (v := ?_) [] rfl rfl (by kernel_rfl) (by kernel_rfl) (fun _ _ _ h => h) (Or.inl ⟨by rfl, ?_⟩) (by assumption) ?_
            rotate_left
            · (intro w hSw; (try dsimp only at hSw); go_simp; first | done | with_reducible rfl)
            try simp only [List.setIfInBounds_toArray, List.set_cons_zero, List.set_cons_succ]
            refine reg_take (i := 10) (d := 110) (v := ?_) [] rfl rfl (by kernel_rfl) (by kernel_rfl) (fun _ _ _ h => h) (Or.inl ⟨by rfl, ?_⟩) (by assumption) ?_
            rotate_left
            · (intro w hSw; (try dsimp only at hSw); go_simp; first | done | with_reducible rfl)
            try simp only [List.setIfInBounds_toArray, List.set_cons_zero, List.set_cons_succ]
            refine wpAnyL_done (by kernel_rfl) ?_ _
            have HT := Lib.hid HT.out.drew
            go_wp2_with fail
            go_meet
            exact ⟨_, _, _, _, HG1.out, HLI1.out, by omega, HT.out.r3.d3.d3.d3⟩
    have p2 : (xk == 2) = false := by simpa using hk2
    clear hk2
    by_cases hk3 : xk = 3
    · have p3 : (xk == 3) = true := by simp [hk3]
      as_aux_lemma =>
        clear hk3
        obtain ⟨t, ht⟩ : ∃ t, tkB L = t := ⟨_, rfl⟩
        obtain ⟨L1, hL1⟩ : ∃ X, tkL L xi = X := ⟨_, rfl⟩
        have HX1 := Lib.hid (And.intro ht hL1)
        have HG1 := Lib.hid (show Good L1 by rw [← hL1]; exact HGD.out.take xi)
        clear ht hL1
        cases t
        · have HL1 := Lib.hid (show L1 = L by rw [← HX1.out.2]; exact tkL_no HX1.out.1)
          go_wp2_with (go_at_call 17; refine (drop_sep HT.out xi HGD.out.1).mono ?_; rw [HX1.out.1, HX1.out.2, HL1.out]; rintro e1 w5 ⟨rfl, la5, hs⟩; have HT := Lib.hid hs; clear hs)
          go_meet
          exact ⟨_, L, q, f, HGD.out, HLI.out, by omega, HT.out.r3.sw.d3.d3⟩
        · have hne : L ≠ [] := by intro e; have := HX1.out.1; rw [e] at this; cases this
          have hn0 : 0 < n := by rw [← HN.out]; exact List.length_pos_iff.2 hne
          obtain ⟨X, hkx, hmem⟩ := at_get xi hne
          rw [HN.out] at hkx
          obtain ⟨zf, zt, zd⟩ := X
          obtain ⟨kk, hkk⟩ : ∃ j, atK xi n = j := ⟨_, rfl⟩
          have hkn : kk < n := by rw [← hkk]; exact atK_lt xi hn0
          have hmd := tmod_bd xi hn0
          have hmq : ((xi.tmod (n : Int)) + (n : Int)).tmod (n : Int) = (kk : Int) := by rw [tmod_emod xi hn0, ← hkk, atK_cast xi hn0]
          rw [hkk] at hkx
          obtain ⟨cc, hcc⟩ : ∃ c, cntV L (.agg #[.int .i64 zf, .int .i64 zt, .string zd]) = c := ⟨_, rfl⟩
          have hc3 : cc ≤ 300 := by have := cntV_le (.agg #[.int .i64 zf, .int .i64 zt, .string zd]) L; have := HGD.out.1; omega
          have HCC := Lib.hid (show (f (.agg #[.int .i64 zf, .int .i64 zt, .string zd])).getD (.int .i64 0) = iV (cc : Int) by rw [← hcc]; exact (HLI.out _).1)
          have HKEY := Lib.hid (show KeyV tL (.agg #[.int .i64 zf, .int .i64 zt, .string zd]) from HGD.out.key (x := ⟨zf, zt, zd⟩) hmem)
          have HLI1 := Lib.hid (show LI L1 _ by rw [← HX1.out.2]; unfold tkL; rw [HN.out, hkk]; exact HLI.out.sub hkx hcc)
          have HKX := Lib.hid hkx
          have hw1 : IntKind.i64.wrap ((cc : Int) - 1) = (cc : Int) - 1 := IntWalk.i64_in _ (by omega)
          obtain ⟨r1, hr1⟩ : ∃ r, xi.tmod (n : Int) = r := ⟨_, rfl⟩
          rw [hr1] at hmd hmq
          have hw2 : IntKind.i64.wrap (r1 + (n : Int)) = r1 + (n : Int) := IntWalk.i64_in _ (by omega)
          clear hcc hkx hne hmem hkk
          obtain ⟨gb, go, rfl, _⟩ := (show Own w4 tL 3 (.slice A2 n c2) n (eLet.fl L) from HT.out.h2).rd.let3 kk ⟨zf, zt, zd⟩ HKX.out
          clear d2 d3 d4 HG
          have j1 : (kk : Int) < (n : Int) := by omega
          have j0 : (0 : Int) ≤ (kk : Int) := by omega
          have j2 : ¬ (n : Int) = 0 := by omega
          have j4 : ¬ n = 0 := by omega
          have j3 : ((n : Int) == 0) = false := by simp; omega
          go_upto_region 28 with (go_at_call 17; refine (drop_sep HT.out xi HGD.out.1).mono ?_; rw [HX1.out.1, HX1.out.2]; rintro e1 w5 ⟨rfl, la5, hs⟩; have HT := Lib.hid hs.r3; clear hs)
          clear d1
          have HT := Lib.hid HT.out.drew
          have HC : Hid (∀ w' (t : Th), Sep w w' (t :: [tN ba la5 L1, tOwn tL 3 (.slice (some ⟨gb, go, none⟩) n c2) n (eLet.fl L), tBlk g8 #[.int .i64 xk, .int .i64 xi, .int .i64 xf, .int .i64 xt, .string xd] 33]) → (w'.cell? ⟨g8, 1, none⟩ = some (.int .i64 xi) ∧ w'.cell? ⟨gb, go + kk * 3, none⟩ = some (.int .i64 zf) ∧ w'.cell? ⟨gb, go + kk * 3 + 1, none⟩ = some (.int .i64 zt) ∧ w'.cell? ⟨gb, go + kk * 3 + 2, none⟩ = some (.string zd))) := Lib.hid (fun w' t h => ⟨(show Blk w' g8 _ 33 from h.h4).cell 1, (show Own w' tL 3 (.slice (some ⟨gb, go, none⟩) n c2) n (eLet.fl L) from h.h3).rd.let3' HKX.out⟩)
          refine wp_region_L (fun w' => w'.cell? ⟨g8, 1, none⟩ = some (.int .i64 xi) ∧ w'.cell? ⟨gb, go + kk * 3, none⟩ = some (.int .i64 zf) ∧ w'.cell? ⟨gb, go + kk * 3 + 1, none⟩ = some (.int .i64 zt) ∧ w'.cell? ⟨gb, go + kk * 3 + 2, none⟩ = some (.string zd)) 16 (by kernel_rfl) (HC.out _ _ HT.out) (fun hHeld => ?_)
          refine reg_take (i := 0) (d := 119) (v := ?_) [] rfl rfl (by kernel_rfl) (by kernel_rfl) (fun _ _ _ h => h) (Or.inl ⟨by rfl, ?_⟩) (by assumption) ?_
          rotate_left
          · (intro w hSw; (try dsimp only at hSw); go_simp; first | done | with_reducible rfl)
          try simp only [List.setIfInBounds_toArray, List.set_cons_zero, List.set_cons_succ]
          refine reg_take (i := 1) (d := 120) (v := ?_) [] rfl rfl (by kernel_rfl) (by kernel_rfl) (fun _ _ _ h => h) (Or.inl ⟨by rfl, ?_⟩) (by assumption) ?_
          rotate_left
          · (intro w hSw; (try dsimp only at hSw); go_simp; first | done | with_reducible rfl)
          try simp only [List.setIfInBounds_toArray, List.set_cons_zero, List.set_cons_succ]
          refine reg_take (i := 2) (d := 121) (v := ?_) [] rfl rfl (by kernel_rfl) (by kernel_rfl) (fun _ _ _ h => h) (Or.inl ⟨by rfl, ?_⟩) (by assumption) ?_
          rotate_left
          · (intro w hSw; (try dsimp only at hSw); go_simp; first | done | with_reducible rfl)
          try simp only [List.setIfInBounds_toArray, List.set_cons_zero, List.set_cons_succ]
          refine reg_take (i := 3) (d := 122) (v := ?_) [] rfl rfl (by kernel_rfl) (by kernel_rfl) (fun _ _ _ h => h) (Or.inl ⟨by rfl, ?_⟩) (by assumption) ?_
          rotate_left
          · (intro w hSw; (try dsimp only at hSw); go_simp; first | done | with_reducible rfl)
          try simp only [List.setIfInBounds_toArray, List.set_cons_zero, List.set_cons_succ]
          refine reg_take (i := 4) (d := 123) (v := ?_) [] rfl rfl (by kernel_rfl) (by kernel_rfl) (fun _ _ _ h => h) (Or.inl ⟨by rfl, ?_⟩) (by assumption) ?_
          rotate_left
          · (intro w hSw; (try dsimp only at hSw); go_simp; first | done | with_reducible rfl)
          try simp only [List.setIfInBounds_toArray, List.set_cons_zero, List.set_cons_succ]
          refine reg_take (i := 5) (d := 124) (v := ?_) [] rfl rfl (by kernel_rfl) (by kernel_rfl) (fun _ _ _ h => h) (Or.inl ⟨by rfl, ?_⟩) (by assumption) ?_
          rotate_left
          · (intro w hSw; (try dsimp only at hSw); go_simp; first | done | with_reducible rfl)
          try simp only [List.setIfInBounds_toArray, List.set_cons_zero, List.set_cons_succ]
          refine reg_take (i := 6) (d := 125) (v := ?_) [] rfl rfl (by kernel_rfl) (by kernel_rfl) (fun _ _ _ h => h) (Or.inl ⟨by rfl, ?_⟩) (by assumption) ?_
          rotate_left
          · (intro w hSw; (try dsimp only at hSw); go_simp; first | done | with_reducible rfl)
          try simp only [List.setIfInBounds_toArray, List.set_cons_zero, List.set_cons_succ]
          refine reg_take (i := 7) (d := 126) (v := ?_) [] rfl rfl (by kernel_rfl) (by kernel_rfl) (fun _ _ _ h => h) (Or.inl ⟨by rfl, ?_⟩) (by assumption) ?_
          rotate_left
          · (intro w hSw; (try dsimp only at hSw); go_simp; first | done | with_reducible rfl)
          try simp only [List.setIfInBounds_toArray, List.set_cons_zero, List.set_cons_succ]
          refine reg_take (i := 8) (d := 127) (v := ?_) [] rfl rfl (by kernel_rfl) (by kernel_rfl) (fun _ _ _ h => h) (Or.inl ⟨by rfl, ?_⟩) (by assumption) ?_
          rotate_left
          · (intro w hSw; (try dsimp only at hSw); go_simp; first | done | with_reducible rfl)
          try simp only [List.setIfInBounds_toArray, List.set_cons_zero, List.set_cons_succ]
          refine reg_take (i := 9) (d := 128) (v := ?_) [] rfl rfl (by kernel_rfl) (by kernel_rfl) (fun _ _ _ h => h) (Or.inl ⟨by rfl, ?_⟩) (by assumption) ?_
          rotate_left
          · (intro w hSw; (try dsimp only at hSw); go_simp; first | done | with_reducible rfl)
          try simp only [List.setIfInBounds_toArray, List.set_cons_zero, List.set_cons_succ]
          refine reg_take (i := 10) (d := 129) (v := ?_) [] rfl rfl (by kernel_rfl) (by kernel_rfl) (fun _ _ _ h => h) (Or.inl ⟨by rfl, ?_⟩) (by assumption) ?_
          rotate_left
          · (intro w hSw; (try dsimp only at hSw); go_simp; first | done | with_reducible rfl)
          try simp only [List.setIfInBounds_toArray, List.set_cons_zero, List.set_cons_succ]
          refine reg_take (i := 11) (d := 130) (v := ?_) [] rfl rfl (by kernel_rfl) (by kernel_rfl) (fun _ _ _ h => h) (Or.inl ⟨by rfl, ?_⟩) (by assumption) ?_
          rotate_left
          · (intro w hSw; (try dsimp only at hSw); go_simp; first | done | with_reducible rfl)
          try simp only [List.setIfInBounds_toArray, List.set_cons_zero, List.set_cons_succ]
          refine wpAnyL_ready (rs := [12, 14]) (by kernel_rfl) rfl ?_
          refine (AllL.cons rfl (fun K hK => ?_) (AllL.cons rfl (fun K hK => ?_) AllL.nil))
          · refine stepv_look (HT.out.hd) lawL Try.underlying45 rfl (.tmp 119) (.tmp 130) rfl (zeroI _) (.agg #[.int .i64 zf, .int .i64 zt, .string zd]) HKEY.out rfl rfl (iV (cc : Int)) HCC.out ?_
            refine hK.out _ _ (HC.out _ _ HT.out) (fun hHeld => ?_)
            try simp only [List.setIfInBounds_toArray, List.set_cons_zero, List.set_cons_succ]
            refine reg_take (i := 13) (d := 132) (v := ?_) [] rfl rfl (by kernel_rfl) (by kernel_rfl) (fun _ _ _ h => h) (Or.inl ⟨by rfl, ?_⟩) (by assumption) ?_
            rotate_left
            · (intro w hSw; (try dsimp only at hSw); go_simp; first | done | with_reducible rfl)
            try simp only [List.setIfInBounds_toArray, List.set_cons_zero, List.set_cons_succ]
            refine wpAnyL_ready (rs := [14]) (by kernel_rfl) rfl ?_
            refine (AllL.cons rfl (fun K hK => ?_) AllL.nil)
            refine stepv_entry (HT.out.hd) lawL Try.underlying45 rfl (.tmp 119) (.tmp 130) rfl (by unfold maxLen; omega) (zeroI _) (.agg #[.int .i64 zf, .int .i64 zt, .string zd]) HKEY.out rfl rfl (iV (cc : Int)) HCC.out ?_
            intro st w2 he hu2
            have HT := Lib.hid (HT.out.mapMark he hu2)
            clear he hu2
            refine hK.out _ _ (HC.out _ _ HT.out) (fun hHeld => ?_)
            try simp only [List.setIfInBounds_toArray, List.set_cons_zero, List.set_cons_succ]
            refine reg_take (i := 15) (d := 134) (v := ?_) [] rfl rfl (by kernel_rfl) (by kernel_rfl) (fun _ _ _ h => h) (Or.inl ⟨by rfl, ?_⟩) (by assumption) ?_
            rotate_left
            · (intro w hSw; (try dsimp only at hSw); go_simp; first | done | with_reducible rfl)
            try simp only [List.setIfInBounds_toArray, List.set_cons_zero, List.set_cons_succ]
            refine wpAnyL_ready (rs := [16]) (by kernel_rfl) rfl ?_
            refine (AllL.consJ rfl (by kernel_rfl) (fun K hK => ?_) AllL.nil)
            refine stepv_estore (HT.out.hd) lawL Try.underlying45 rfl (.tmp 119) (.tmp 134) (.tmp 132) rfl (by unfold maxLen; omega) _ HKEY.out rfl rfl rfl ?_
            intro w3 hm3 hu3
            rw [putV_put] at hm3
            have HT := Lib.hid (HT.out.markPut hm3 hu3)
            clear hm3 hu3
            refine hK.out _ _ ?_
            try simp only [List.setIfInBounds_toArray, List.set_cons_zero, List.set_cons_succ]
            refine wpAnyL_done (by kernel_rfl) ?_ _
            go_wp2_with fail
            go_meet
            exact ⟨_, _, _, _, HG1.out, HLI1.out, by omega, HT.out.sw.d3.d3⟩
          · refine stepv_entry (HT.out.hd) lawL Try.underlying45 rfl (.tmp 119) (.tmp 130) rfl (by unfold maxLen; omega) (zeroI _) (.agg #[.int .i64 zf, .int .i64 zt, .string zd]) HKEY.out rfl rfl (iV (cc : Int)) HCC.out ?_
            intro st w2 he hu2
            have HT := Lib.hid (HT.out.mapMark he hu2)
            clear he hu2
            refine hK.out _ _ (HC.out _ _ HT.out) (fun hHeld => ?_)
            try simp only [List.setIfInBounds_toArray, List.set_cons_zero, List.set_cons_succ]
            refine reg_take (i := 15) (d := 134) (v := ?_) [] rfl rfl (by kernel_rfl) (by kernel_rfl) (fun _ _ _ h => h) (Or.inl ⟨by rfl, ?_⟩) (by assumption) ?_
            rotate_left
            · (intro w hSw; (try dsimp only at hSw); go_simp; first | done | with_reducible rfl)
            try simp only [List.setIfInBounds_toArray, List.set_cons_zero, List.set_cons_succ]
            refine wpAnyL_ready (rs := [12]) (by kernel_rfl) rfl ?_
            refine (AllL.cons rfl (fun K hK => ?_) AllL.nil)
            refine stepv_look (HT.out.hd).1 lawL Try.underlying45 rfl (.tmp 119) (.tmp 130) rfl (zeroI _) (.agg #[.int .i64 zf, .int .i64 zt, .string zd]) HKEY.out rfl rfl (iV (cc : Int)) (by rw [putV_same]; rfl) ?_
            refine hK.out _ _ (HC.out _ _ HT.out) (fun hHeld => ?_)
            try simp only [List.setIfInBounds_toArray, List.set_cons_zero, List.set_cons_succ]
            refine reg_take (i := 13) (d := 132) (v := ?_) [] rfl rfl (by kernel_rfl) (by kernel_rfl) (fun _ _ _ h => h) (Or.inl ⟨by rfl, ?_⟩) (by assumption) ?_
            rotate_left
            · (intro w hSw; (try dsimp only at hSw); go_simp; first | done | with_reducible rfl)
            try simp only [List.setIfInBounds_toArray, List.set_cons_zero, List.set_cons_succ]
            refine wpAnyL_ready (rs := [16]) (by kernel_rfl) rfl ?_
            refine (AllL.consJ rfl (by kernel_rfl) (fun K hK => ?_) AllL.nil)
            refine stepv_estore (HT.out.hd) lawL Try.underlying45 rfl (.tmp 119) (.tmp 134) (.tmp 132) rfl (by unfold maxLen; omega) _ HKEY.out rfl rfl rfl ?_
            intro w3 hm3 hu3
            rw [putV_put] at hm3
            have HT := Lib.hid (HT.out.markPut hm3 hu3)
            clear hm3 hu3
            refine hK.out _ _ ?_
            try simp only [List.setIfInBounds_toArray, List.set_cons_zero, List.set_cons_succ]
            refine wpAnyL_done (by kernel_rfl) ?_ _
            go_wp2_with fail
            go_meet
            exact ⟨_, _, _, _, HG1.out, HLI1.out, by omega, HT.out.sw.d3.d3⟩
    have p3 : (xk == 3) = false := by simpa using hk3
    clear hk3
    go_wp2_with fail
    go_meet
    exact ⟨_, L, q, f, HGD.out, HLI.out, by omega, HT.out.r3.sw.d3.d3⟩
  case rest =>
    clear HT HGD HLI HN
    obtain ⟨la, L, q, f, hgood, hli, hq2, hs⟩ := hcut
    have HGD := Lib.hid hgood
    have HLI := Lib.hid hli
    obtain ⟨n, hn⟩ : ∃ n, L.length = n := ⟨_, rfl⟩
    have hn3 : n ≤ 300 := by rw [← hn]; exact hgood.1
    have HN := Lib.hid hn
    have HS := Lib.hid hs
    clear hgood hli hn hs
    have hmm := @run_makeMap Try.prog
    have HT := Lib.hid (HS.out.newMap tL (b := _) rfl)
    go_upto_region 30 with fail
    clear hmm HS
    generalize wc.alloc (.map #[] 0) = w5 at *
    generalize wc.heap.size = bn at *
    go_wp2_with (go_at_call 18; refine (all_sep HT.out.sw HGD.out.1).mono ?_; rw [HN.out]; rintro e1 w6 ⟨A6, c6, rfl, hS⟩; have HT := Lib.hid hS.r3; clear hS)
    go_loopg [139] n (fun gk s139 wr => ∃ (j q9 : Nat), s139 = .int .i64 (j : Int) ∧ j ≤ n ∧ gk = n - j ∧ q9 ≤ 2 * j ∧ Sep w wr [tMapV tL bn q9 (gV (L.take j)), tOwn tL 3 (.slice A6 n c6) n (eLet.fl L), tN ba la L, tMapV tL bm q f])
    case atStart => exact ⟨0, 0, rfl, by omega, by omega, by omega, by rw [List.take_zero, gV_nil]; exact HT.out⟩
    case round =>
    clear HT
    obtain ⟨j, q9, rfl, hj, hgj, hq9, hs⟩ := hrel
    have HT := Lib.hid hs
    clear hs
    by_cases hjn : j < n
    · as_aux_lemma =>
        have j1 : (j : Int) < (n : Int) := by omega
        have j0 : (0 : Int) ≤ (j : Int) := by omega
        have hw9 : IntKind.i64.wrap ((j : Int) + 1) = (j : Int) + 1 := IntWalk.i64_in _ (by omega)
        have HX5 := Lib.hid (List.getElem?_eq_getElem (l := L) (i := j) (by rw [HN.out]; exact hjn))
        generalize L[j]'(by rw [HN.out]; exact hjn) = x at *
        have hmem := List.mem_of_getElem? HX5.out
        have HKEY := Lib.hid (HGD.out.key hmem)
        obtain ⟨gb, go, rfl, u0, u1, u2⟩ := (show Own wr tL 3 (.slice A6 n c6) n (eLet.fl L) from HT.out.h2).rd.let3 j x HX5.out
        obtain ⟨zf, zt, zd⟩ := x
        simp only at u0 u1 u2
        obtain ⟨cc, hcc⟩ : ∃ c, cntV (L.take j) (Letter.agg ⟨zf, zt, zd⟩) = c := ⟨_, rfl⟩
        have hc3 : cc ≤ 300 := by have := cntV_le (Letter.agg ⟨zf, zt, zd⟩) (L.take j); rw [hcc, List.length_take] at this; omega
        have HCC := Lib.hid (show (gV (L.take j) (.agg #[.int .i64 zf, .int .i64 zt, .string zd])).getD (.int .i64 0) = iV (cc : Int) by rw [← hcc]; exact gV_get _ _)
        have hw1 : IntKind.i64.wrap ((cc : Int) + 1) = (cc : Int) + 1 := IntWalk.i64_in _ (by omega)
        have HT := Lib.hid ((HT.out.newBlk #[.int .i64 zf, .int .i64 zt, .string zd] tL (g := wr.heap.size) rfl).sw)
        clear hmem
        go_upto_region 33 with fail
        clear u0 u1 u2
        generalize wr.alloc (.cells #[.int .i64 zf, .int .i64 zt, .string zd] tL) = w8 at *
        generalize wr.heap.size = g9 at *
        have hcc := hcc
        have HT := Lib.hid HT.out.drew
        have HC : Hid (∀ w' (t : Th), Sep w w' (t :: [tBlk g9 #[.int .i64 zf, .int .i64 zt, .string zd] tL, tOwn tL 3 (.slice (some ⟨gb, go, none⟩) n c6) n (eLet.fl L), tN ba la L, tMapV tL bm q f]) → (w'.cell? ⟨g9, 0, none⟩ = some (.int .i64 zf) ∧ w'.cell? ⟨g9, 1, none⟩ = some (.int .i64 zt) ∧ w'.cell? ⟨g9, 2, none⟩ = some (.string zd))) := Lib.hid (fun w' t h => ⟨(show Blk w' g9 _ tL from h.h2).cell 0, (show Blk w' g9 _ tL from h.h2).cell 1, (show Blk w' g9 _ tL from h.h2).cell 2⟩)
        refine wp_region_L (fun w' => w'.cell? ⟨g9, 0, none⟩ = some (.int .i64 zf) ∧ w'.cell? ⟨g9, 1, none⟩ = some (.int .i64 zt) ∧ w'.cell? ⟨g9, 2, none⟩ = some (.string zd)) 6 (by kernel_rfl) (HC.out _ _ HT.out) (fun hHeld => ?_)
        refine reg_take (i := 0) (d := 143) (v := ?_) [] rfl rfl (by kernel_rfl) (by kernel_rfl) (fun _ _ _ h => h) (Or.inl ⟨by rfl, ?_⟩) (by assumption) ?_
        rotate_left
        · (intro w hSw; (try dsimp only at hSw); go_simp; first | done | with_reducible rfl)
        try simp only [List.setIfInBounds_toArray, List.set_cons_zero, List.set_cons_succ]
        refine reg_take (i := 1) (d := 144) (v := ?_) [] rfl rfl (by kernel_rfl) (by kernel_rfl) (fun _ _ _ h => h) (Or.inl ⟨by rfl, ?_⟩) (by assumption) ?_
        rotate_left
        · (intro w hSw; (try dsimp only at hSw); go_simp; first | done | with_reducible rfl)
        try simp only [List.setIfInBounds_toArray, List.set_cons_zero, List.set_cons_succ]
        refine wpAnyL_ready (rs := [2, 4]) (by kernel_rfl) rfl ?_
        refine (AllL.cons rfl (fun K hK => ?_) (AllL.cons rfl (fun K hK => ?_) AllL.nil))
        · refine stepv_look (HT.out.hd) lawL Try.underlying45 rfl (.tmp 143) (.tmp 144) rfl (zeroI _) (.agg #[.int .i64 zf, .int .i64 zt, .string zd]) HKEY.out rfl rfl (iV (cc : Int)) HCC.out ?_
          refine hK.out _ _ (HC.out _ _ HT.out) (fun hHeld => ?_)
          try simp only [List.setIfInBounds_toArray, List.set_cons_zero, List.set_cons_succ]
          refine reg_take (i := 3) (d := 146) (v := ?_) [] rfl rfl (by kernel_rfl) (by kernel_rfl) (fun _ _ _ h => h) (Or.inl ⟨by rfl, ?_⟩) (by assumption) ?_
          rotate_left
          · (intro w hSw; (try dsimp only at hSw); go_simp; first | done | with_reducible rfl)
          try simp only [List.setIfInBounds_toArray, List.set_cons_zero, List.set_cons_succ]
          refine wpAnyL_ready (rs := [4]) (by kernel_rfl) rfl ?_
          refine (AllL.cons rfl (fun K hK => ?_) AllL.nil)
          refine stepv_entry (HT.out.hd) lawL Try.underlying45 rfl (.tmp 143) (.tmp 144) rfl (by unfold maxLen; omega) (zeroI _) (.agg #[.int .i64 zf, .int .i64 zt, .string zd]) HKEY.out rfl rfl (iV (cc : Int)) HCC.out ?_
          intro st w2 he hu2
          have HT := Lib.hid (HT.out.mapMark he hu2)
          clear he hu2
          refine hK.out _ _ (HC.out _ _ HT.out) (fun hHeld => ?_)
          try simp only [List.setIfInBounds_toArray, List.set_cons_zero, List.set_cons_succ]
          refine reg_take (i := 5) (d := 148) (v := ?_) [] rfl rfl (by kernel_rfl) (by kernel_rfl) (fun _ _ _ h => h) (Or.inl ⟨by rfl, ?_⟩) (by assumption) ?_
          rotate_left
          · (intro w hSw; (try dsimp only at hSw); go_simp; first | done | with_reducible rfl)
          try simp only [List.setIfInBounds_toArray, List.set_cons_zero, List.set_cons_succ]
          refine wpAnyL_ready (rs := [6]) (by kernel_rfl) rfl ?_
          refine (AllL.consJ rfl (by kernel_rfl) (fun K hK => ?_) AllL.nil)
          refine stepv_estore (HT.out.hd) lawL Try.underlying45 rfl (.tmp 143) (.tmp 148) (.tmp 146) rfl (by unfold maxLen; omega) _ HKEY.out rfl rfl rfl ?_
          intro w3 hm3 hu3
          rw [putV_put] at hm3
          have HT := Lib.hid (HT.out.markPut hm3 hu3)
          clear hm3 hu3
          refine hK.out _ _ ?_
          try simp only [List.setIfInBounds_toArray, List.set_cons_zero, List.set_cons_succ]
          refine wpAnyL_done (by kernel_rfl) ?_ _
          go_wp2_with fail
          go_roundg (n - (j + 1))
          case measure => omega
          case rel =>
            have hs := HT.out.d2
            refine ⟨j + 1, q9 + 1 + 1, by push_cast; rfl, by omega, rfl, by omega, ?_⟩
            rw [take_snoc HX5.out, gV_add (L.take j) ⟨zf, zt, zd⟩ hcc]
            exact hs
        · refine stepv_entry (HT.out.hd) lawL Try.underlying45 rfl (.tmp 143) (.tmp 144) rfl (by unfold maxLen; omega) (zeroI _) (.agg #[.int .i64 zf, .int .i64 zt, .string zd]) HKEY.out rfl rfl (iV (cc : Int)) HCC.out ?_
          intro st w2 he hu2
          have HT := Lib.hid (HT.out.mapMark he hu2)
          clear he hu2
          refine hK.out _ _ (HC.out _ _ HT.out) (fun hHeld => ?_)
          try simp only [List.setIfInBounds_toArray, List.set_cons_zero, List.set_cons_succ]
          refine reg_take (i := 5) (d := 148) (v := ?_) [] rfl rfl (by kernel_rfl) (by kernel_rfl) (fun _ _ _ h => h) (Or.inl ⟨by rfl, ?_⟩) (by assumption) ?_
          rotate_left
          · (intro w hSw; (try dsimp only at hSw); go_simp; first | done | with_reducible rfl)
          try simp only [List.setIfInBounds_toArray, List.set_cons_zero, List.set_cons_succ]
          refine wpAnyL_ready (rs := [2]) (by kernel_rfl) rfl ?_
          refine (AllL.cons rfl (fun K hK => ?_) AllL.nil)
          refine stepv_look (HT.out.hd).1 lawL Try.underlying45 rfl (.tmp 143) (.tmp 144) rfl (zeroI _) (.agg #[.int .i64 zf, .int .i64 zt, .string zd]) HKEY.out rfl rfl (iV (cc : Int)) (by rw [putV_same]; rfl) ?_
          refine hK.out _ _ (HC.out _ _ HT.out) (fun hHeld => ?_)
          try simp only [List.setIfInBounds_toArray, List.set_cons_zero, List.set_cons_succ]
          refine reg_take (i := 3) (d := 146) (v := ?_) [] rfl rfl (by kernel_rfl) (by kernel_rfl) (fun _ _ _ h => h) (Or.inl ⟨by rfl, ?_⟩) (by assumption) ?_
          rotate_left
          · (intro w hSw; (try dsimp only at hSw); go_simp; first | done | with_reducible rfl)
          try simp only [List.setIfInBounds_toArray, List.set_cons_zero, List.set_cons_succ]
          refine wpAnyL_ready (rs := [6]) (by kernel_rfl) rfl ?_
          refine (AllL.consJ rfl (by kernel_rfl) (fun K hK => ?_) AllL.nil)
          refine stepv_estore (HT.out.hd) lawL Try.underlying45 rfl (.tmp 143) (.tmp 148) (.tmp 146) rfl (by unfold maxLen; omega) _ HKEY.out rfl rfl rfl ?_
          intro w3 hm3 hu3
          rw [putV_put] at hm3
          have HT := Lib.hid (HT.out.markPut hm3 hu3)
          clear hm3 hu3
          refine hK.out _ _ ?_
          try simp only [List.setIfInBounds_toArray, List.set_cons_zero, List.set_cons_succ]
          refine wpAnyL_done (by kernel_rfl) ?_ _
          go_wp2_with fail
          go_roundg (n - (j + 1))
          case measure => omega
          case rel =>
            have hs := HT.out.d2
            refine ⟨j + 1, q9 + 1 + 1, by push_cast; rfl, by omega, rfl, by omega, ?_⟩
            rw [take_snoc HX5.out, gV_add (L.take j) ⟨zf, zt, zd⟩ hcc]
            exact hs
    · have j1 : ¬ (j : Int) < (n : Int) := by omega
      have j2 : decide ((j : Int) < (n : Int)) = false := by simp; omega
      have hjn : j = n := by omega
      subst hjn
      have HT := Lib.hid (show Sep w wr [tMapV tL bm q f, tMapV tL bn q9 (gV L), tOwn tL 3 (.slice A6 j c6) j (eLet.fl L), tN ba la L] by
        have := HT.out.r4
        rwa [show L.take j = L by rw [← HN.out, List.take_length]] at this)
      go_upto_region 35 with fail
      refine wp_region_lit (l := [_, _]) ?_
      refine wpList_plain rfl fun _ hK => ?_
      go_simp
      refine hK _ _ ?_
      refine mapv_range (HT.out.hd) lawL Try.underlying45 rfl (.tmp 150) rfl (g := _) rfl rfl ?_
      intro w7 cn hr hcq hb
      have HT := Lib.hid (HT.out.mapRange hr rfl hb)
      clear hr hb
      generalize wr.heap.size = bi at *
      go_frame
      go_wp2_with fail
      go_loopg [] cn (fun gk wr => ∃ (todo : Value → Bool), Sep w wr [tRangeV tL bm bi q f todo gk, tMapV tL bn q9 (nowV L f todo), tOwn tL 3 (.slice A6 j c6) j (eLet.fl L), tN ba la L])
      case atStart => exact ⟨_, by rw [nowV_start]; exact HT.out⟩
      case round =>
      clear HT
      obtain ⟨todo, hs⟩ := hrel
      have HT := Lib.hid hs
      clear hs
      go_upto_region 36 with fail
      refine wp_region_lit (l := [_, _]) ?_
      refine mapv_next (HT.out.hd) lawL rfl (.tmp 151) rfl rfl ?_ ?_
      · intro hdone
        have HD := Lib.hid hdone
        clear hdone
        go_upto_region 41 with fail
        refine wp_region_lit (l := [_, _, _]) ?_
        refine wpList_plain rfl fun _ hK => ?_
        go_simp
        refine hK _ _ ?_
        refine mapv_len (HT.out.h2) lawL Try.underlying45 rfl (.tmp 164) rfl rfl ?_
        intro N hN1 hN2 hN3
        have hN0 : N = 0 := hN2 (fun key hk => nowV_end HLI.out (HD.out key hk))
        clear hN1 hN2 hN3
        subst hN0
        have hw9 : IntKind.i64.wrap ((k : Int) + 1) = (k : Int) + 1 := IntWalk.i64_in _ (by omega)
        go_wp2_with fail
        go_roundg (101 - (k + 1))
        case measure => omega
        case rel => exact ⟨k + 1, _, L, q, f, by push_cast; rfl, by omega, rfl, HGD.out, HLI.out, by omega, HT.out.rangeMap.r4.d3.d3⟩
      · intro key v w8 cnt' hkey htodo hf hat hlt hu
        obtain ⟨X, rfl⟩ := (HLI.out key).2 (by rw [hf]; simp)
        have hv := (HLI.out X.agg).1
        rw [hf] at hv
        have hv : v = iV (cntV L X.agg) := hv
        subst hv
        have HT := Lib.hid (HT.out.rangeNext hat.1 hu)
        have hen := hat.2
        have HF := Lib.hid hf
        have HTD := Lib.hid htodo
        have HKEY := Lib.hid hkey
        have HCC := Lib.hid (show (nowV L f todo X.agg).getD (.int .i64 0) = iV (cntV L X.agg) by rw [nowV_at htodo]; exact gV_get _ _)
        obtain ⟨zf, zt, zd⟩ := X
        clear hat hf htodo hkey hu
        generalize cntV L (Letter.agg ⟨zf, zt, zd⟩) = cc at *
        have HT := Lib.hid (HT.out.newBlk #[.int .i64 zf, .int .i64 zt, .string zd] tL (g := w8.heap.size) rfl)
        go_upto_region 38 with fail
        clear hen
        generalize w8.alloc (.cells #[.int .i64 zf, .int .i64 zt, .string zd] tL) = w9 at *
        generalize w8.heap.size = g9 at *
        refine wp_region_lit (l := [_, _, _, _, _]) ?_
        refine wpList_plain rfl fun _ hK => ?_
        go_simp
        refine hK _ _ ?_
        refine loadR _ (show Blk w9 g9 #[.int .i64 zf, .int .i64 zt, .string zd] tL from HT.out.hd) Try.underlying31 rfl infoL3x rfl (.tmp 16) rfl rfl ?_
        refine mapv_look (HT.out.h3) lawL Try.underlying45 rfl (.tmp 157) (.tmp 158) rfl (zeroI _) (.agg #[.int .i64 zf, .int .i64 zt, .string zd]) HKEY.out rfl rfl (iV (cc : Int)) HCC.out ?_
        have j5 : ((cc : Int) != (cc : Int)) = false := by simp
        go_upto_region 40 with fail
        refine wp_region_lit (l := [_, _, _]) ?_
        refine wpList_plain rfl fun _ hK => ?_
        go_simp
        refine hK _ _ ?_
        refine loadR _ (show Blk w9 g9 #[.int .i64 zf, .int .i64 zt, .string zd] tL from HT.out.hd) Try.underlying31 rfl infoL3x rfl (.tmp 16) rfl rfl ?_
        refine mapv_del (HT.out.h3) lawL Try.underlying45 rfl (.tmp 162) (.tmp 163) rfl (.agg #[.int .i64 zf, .int .i64 zt, .string zd]) HKEY.out rfl rfl ?_
        intro w10 hm10 hu10
        have hm11 := hm10
        rw [nowV_del HF.out] at hm11
        have HT := Lib.hid ((HT.out.tail.sw.mapPut hm11 hu10).sw)
        clear hm10 hm11 hu10
        go_wp2_with fail
        go_roundg cnt'
        case measure => exact hlt
        case rel => exact ⟨_, HT.out⟩
end Go.Proofs.Ytofljgnfbakhoaa
