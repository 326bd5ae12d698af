/- The walk of the law LinMoves: it returns true. No condition but the row's own. -/
import Derived.Test.YtkajkomljgdghaaLinL1
set_option linter.unusedVariables false
set_option linter.unusedSimpArgs false
namespace Go.Proofs.Ytkajkomljgdghaa
open Go.RowKit Go.Maps
def u8ok (x : Int) : Prop := 0 ≤ x ∧ x ≤ 255
theorem is_u8s {w : World} {A : Option Addr} {n c : Nat} (h : Sh.Is w (.slice 1 (.int .u8)) [.slice A n c]) : ∃ B : List Int, B.length = n ∧ Rd w A (eU8.fl B) ∧ ∀ x ∈ B, u8ok x := by
  obtain ⟨B, h1, _, _, _, h2, h3⟩ := Enc.of_slice (E := eU8) (p := u8ok) h (fun cs hc => by
    obtain ⟨x, rfl, hx⟩ := hc
    exact ⟨x, rfl, bd_u8 hx⟩)
  exact ⟨B, h1, h2, h3⟩
theorem Rd.u8 {w : World} {A : Option Addr} {l : List Int} (h : Rd w A (eU8.fl l)) (k : Nat) (x : Int) (hx : l[k]? = some x) :
    ∃ b o, A = some ⟨b, o, none⟩ ∧ w.cell? ⟨b, o + k, none⟩ = some (.int .u8 x) := by
  obtain ⟨hk, rfl⟩ := List.getElem?_eq_some_iff.1 hx
  obtain ⟨b, o, e, hc⟩ := h.elem k hk (by decide)
  refine ⟨b, o, e, ?_⟩
  have := hc 0 _ rfl
  simpa [eU8] using this
theorem zip_maps {α β : Type} : ∀ (L : List α) (M : List β), L.length = M.length → (L.zip M).map Prod.fst = L ∧ (L.zip M).map Prod.snd = M
  | [], [], _ => ⟨rfl, rfl⟩
  | x :: L, y :: M, h => by
    obtain ⟨h1, h2⟩ := zip_maps L M (by simpa using h)
    exact ⟨by simp [h1], by simp [h2]⟩
def AllWider (L M : List LOp) : Prop := ∀ (j : Nat) (x y : LOp), L[j]? = some x → M[j]? = some y → Wider x y
theorem moved {L M : List LOp} (hl : L.length = M.length) (h : AllWider L M) (hc : chkB L = true) : chkB M = true := by
  obtain ⟨h1, h2⟩ := zip_maps L M hl
  have := moves (f := Prod.fst) (g := Prod.snd) (L := L.zip M) (fun p hp => by
    obtain ⟨j, hj⟩ := List.mem_iff_getElem?.1 hp
    rw [List.getElem?_zip_eq_some] at hj
    exact h j _ _ hj.1 hj.2) (by rw [h1]; exact hc)
  rwa [h2] at this
theorem AllWider.set {L M : List LOp} (h : AllWider L M) {k : Nat} {y : LOp} (hy : ∀ x, L[k]? = some x → Wider x y) : AllWider L (M.set k y) := fun j x z hx hz => by
  by_cases e : k = j
  · subst e
    rw [List.getElem?_set_self' ] at hz
    cases hm : M[k]? with
    | none => rw [hm] at hz; cases hz
    | some u => rw [hm] at hz; cases hz; exact hy x hx
  · rw [List.getElem?_set_ne e] at hz
    exact h j x z hx hz
set_option maxRecDepth 100000 in
set_option maxHeartbeats 4000000 in
theorem w_LinMoves (a0 : Option Addr) (n0 c0 : Nat) (a1 : Option Addr) (n1 c1 : Nat) (w : World) (b0 : Sh.Is w (.slice 80 (.pair (.pair (.int .i64) (.pair (.int .i64) (.pair .str .unit))) (.pair (.int .i64) (.pair (.int .i64) (.pair .bool (.pair (.pair (.int .i64) (.pair .str .unit)) .unit)))))) [.slice a0 n0 c0]) (b1 : Sh.Is w (.slice 1 (.int .u8)) [.slice a1 n1 c1]) :
    Calls Try.prog 9 #[.slice a0 n0 c0, .slice a1 n1 c1] w fun e w' => e = .returned (.bool true) ∧ Below w.heap.size w w' := by
  obtain ⟨B, hb1, hb2, hb3⟩ := is_u8s b1
  have HBL := Lib.hid hb1; have HBO := Lib.hid hb3
  have HBR : Hid (∀ W' (l : List Th), Sep w W' l → Rd W' a1 (eU8.fl B)) := Lib.hid (fun W' l h => hb2.below h.bel)
  clear b1 hb1 hb2 hb3
  obtain ⟨L, hl, _, hnc, hz, hr, hok⟩ := Enc.of_slice (E := eOp) (p := LOp.ok) b0 (fun cs hc => is_lop hc)
  have HL := Lib.hid hl; have HOK := Lib.hid hok; have HZ := Lib.hid (show a0 = none → n0 = 0 ∧ c0 = 0 from fun h => ⟨by have := hz h; omega, hz h⟩)
  have HRD : Hid (∀ W' (l : List Th), Sep w W' l → Rd W' a0 (eOp.fl L)) := Lib.hid (fun W' l h => hr.below h.bel)
  clear b0 hl hok hr hz
  go_enter Try.func9, Try.ntmps9
  go_wp2_with fail
  refine (awake_any _).mono ?_
  rintro e w1 ⟨rfl, hB1⟩
  have HS := Lib.hid ((Sep.nil w).step hB1)
  clear hB1
  by_cases hn60 : 60 < n0
  · have q1 : decide ((60 : Int) < (n0 : Int)) = true := by simp; omega
    have q2 : (60 : Int) < (n0 : Int) := by omega
    go_wp2_with fail
    go_ret
    exact ⟨rfl, HS.out.bel⟩
  have q1 : decide ((60 : Int) < (n0 : Int)) = false := by simp; omega
  have q2 : ¬ (60 : Int) < (n0 : Int) := by omega
  cases hc : chkB L
  · have HC := Lib.hid hc
    clear hc
    go_wp2_with (go_at_call 15; refine (check_any L a0 n0 c0 HL.out (by omega) HOK.out (fun W' h => HRD.out W' _ h) HS.out).mono ?_; rw [HC.out]; rintro e w2 ⟨rfl, hS⟩; have HT := Lib.hid hS; clear hS)
    go_ret
    exact ⟨rfl, HT.out.bel⟩
  have HC := Lib.hid hc
  have HE := Lib.hid (chkB_iff.1 hc).1
  have HNB := Lib.hid (errs_zero.1 HE.out).1
  clear hc
  go_upto_region 8 with (go_at_call 15; refine (check_any L a0 n0 c0 HL.out (by omega) HOK.out (fun W' h => HRD.out W' _ h) HS.out).mono ?_; rw [HC.out, HE.out]; rintro e w2 ⟨rfl, hS⟩; have HT := Lib.hid hS; clear hS)
  have HT := Lib.hid (HT.out.newRow tOp 8 (g := w2.heap.size) rfl)
  have HBD := Lib.hid (show (0 + n0) * 80 ≤ 140737488355328 by omega)
  go_wp2_with (at_builtin; refine appendO 22 tOp (.agg #[.int .i64 0, .int .i64 0, .string ByteArray.empty, .int .i64 0, .int .i64 0, .bool false, .int .i64 0, .string ByteArray.empty]) 8 80 (eOp.fl L) n0 HT.out.own HBD.out Try.underlying22 Try.infoO rfl (by decide) (by decide) (by rw [Enc.length, HL.out]; rfl) (Enc.ones _) a0 c0 (HRD.out _ _ HT.out) HZ.out (.tmp 28) (.tmp 29) rfl rfl rfl rfl ?_; intro v1 w5 ho1 hg1 hat1; rw [Nat.zero_add, List.nil_append] at ho1; obtain ⟨A7, c7, rfl, _⟩ := ho1.form; have HT := Lib.hid (HT.out.app ho1 hg1 hat1); clear ho1 hg1 hat1)
  go_loopg [33] n0 (fun gk s33 wr => ∃ (k : Nat) (M : List LOp), s33 = .int .i64 (k : Int) ∧ k ≤ n0 ∧ gk = n0 - k ∧ M.length = n0 ∧ AllWider L M ∧ (∀ y ∈ M, y.ok) ∧ Sep w wr [tOwn tOp 8 (.slice A7 n0 c7) n0 (eOp.fl M)])
  case atStart => exact ⟨0, L, rfl, by omega, by omega, HL.out, fun j x y h1 h2 => (by rw [h1] at h2; cases h2; exact Wider.refl x), HOK.out, HT.out⟩
  case round =>
  clear HT
  obtain ⟨k, M, rfl, hk, hgk, hml, haw, hmo, hs⟩ := hrel
  have HT := Lib.hid hs
  have HML := Lib.hid hml
  have HAW := Lib.hid haw
  have HMO := Lib.hid hmo
  clear hs hml haw hmo
  have HCM := Lib.hid (moved (by rw [HL.out, HML.out]) HAW.out HC.out)
  have HEM := Lib.hid (chkB_iff.1 HCM.out).1
  by_cases hkn : k < n0
  case neg =>
    have j1 : decide ((k : Int) < (n0 : Int)) = false := by simp; omega
    have j2 : ¬ (k : Int) < (n0 : Int) := by omega
    go_wp2_with (go_at_call 15; refine (check_any M A7 n0 c7 HML.out (by omega) HMO.out (fun W' h => h.own.rd) HT.out).mono ?_; rw [HCM.out, HEM.out]; rintro e w9 ⟨rfl, hS⟩; have HT := Lib.hid hS; clear hS)
    go_ret
    exact ⟨rfl, HT.out.bel⟩
  have j1 : decide ((k : Int) < (n0 : Int)) = true := by simp; omega
  have j2 : (k : Int) < (n0 : Int) := by omega
  have j3 : (0 : Int) ≤ (k : Int) := by omega
  have hwk : IntKind.i64.wrap ((k : Int) + 1) = (k : Int) + 1 := IntWalk.i64_in _ (by omega)
  by_cases hn1 : n1 = 0
  · subst hn1
    go_wp2_with (go_at_call 15; refine (check_any M A7 n0 c7 HML.out (by omega) HMO.out (fun W' h => h.own.rd) HT.out).mono ?_; rw [HCM.out, HEM.out]; rintro e w9 ⟨rfl, hS⟩; have HT := Lib.hid hS; clear hS)
    go_ret
    exact ⟨rfl, HT.out.bel⟩
  have e1 : ((n1 : Int) == 0) = false := by simp; omega
  have e2 : ¬ (n1 : Int) = 0 := by omega
  have hkm : k < M.length := by rw [HML.out]; exact hkn
  obtain ⟨g7, c7', hv⟩ := HT.out.own.pos (by omega)
  simp only [Value.slice.injEq, true_and] at hv
  obtain ⟨rfl, rfl⟩ := hv
  have HY := Lib.hid (List.getElem?_eq_getElem hkm)
  have HGE : Hid (∀ j, j < 8 → (eOp.fl M)[k * 8 + j]? = (eOp.f M[k])[j]?) := Lib.hid (fun j hj => Enc.get (E := eOp) M k j hkm hj)
  have HSE : Hid (∀ (j : Nat) (v : Value) (y : LOp), j < 8 → (eOp.f M[k]).set j v = eOp.f y → (eOp.fl M).set (k * 8 + j) v = eOp.fl (M.set k y)) := Lib.hid (fun j v y hj h => Enc.set (E := eOp) M k j hkm v y hj h)
  generalize M[k] = y at *
  have HYO := Lib.hid (HMO.out y (List.mem_of_getElem? HY.out))
  obtain ⟨xo, xb, xd, xf, xt, xk, xe, xr⟩ := y
  have d4 : wr.cell? ⟨g7, k * 8 + 4, none⟩ = some (.int .i64 xt) := HT.out.own.cell _ _ (by rw [HGE.out 4 (by decide)]; rfl)
  by_cases hbig : 1152921504606846976 < xt
  · have f1 : decide ((1152921504606846976 : Int) < xt) = true := decide_eq_true hbig
    go_wp2_with (go_at_call 15; refine (check_any M (some ⟨g7, 0, none⟩) n0 c7 HML.out (by omega) HMO.out (fun W' h => h.own.rd) HT.out).mono ?_; rw [HCM.out, HEM.out]; rintro e w9 ⟨rfl, hS⟩; have HT := Lib.hid hS; clear hS)
    go_ret
    exact ⟨rfl, HT.out.bel⟩
  have f1 : decide ((1152921504606846976 : Int) < xt) = false := decide_eq_false hbig
  have hmod : (k : Int).tmod (n1 : Int) = ((k % n1 : Nat) : Int) := by rw [Int.tmod_eq_emod_of_nonneg (by omega)]; rfl
  have hmn : k % n1 < n1 := Nat.mod_lt _ (by omega)
  have HBX := Lib.hid (List.getElem?_eq_getElem (l := B) (i := k % n1) (by rw [HBL.out]; exact hmn))
  generalize B[k % n1]'(by rw [HBL.out]; exact hmn) = bv at *
  have hbv := HBO.out bv (List.mem_of_getElem? HBX.out)
  unfold u8ok at hbv
  obtain ⟨q, hq⟩ : ∃ q, k % n1 = q := ⟨_, rfl⟩
  have HQ := Lib.hid hq
  rw [hq] at hmod hmn HBX
  obtain ⟨gy, oy, rfl, hby⟩ := (HBR.out wr _ HT.out).u8 q bv HBX.out
  have q3 : (q : Int) < (n1 : Int) := by omega
  have q4 : (0 : Int) ≤ (q : Int) := by omega
  have e3 : ¬ n1 = 0 := hn1
  obtain ⟨x, hx⟩ : ∃ x, L[k]? = some x := ⟨_, List.getElem?_eq_getElem (by rw [HL.out]; exact hkn)⟩
  have hwd := HAW.out k _ _ hx HY.out
  have hx1 := (bad_false.1 (HNB.out x (List.mem_of_getElem? hx))).1
  have hxo := (HOK.out x (List.mem_of_getElem? hx)).fr
  have hf1 := hwd.fr1 hx1
  have hf2 := hwd.fr
  have ht2 := hwd.tt
  simp only at hf1 hf2 ht2
  have hto := HYO.out.tt
  simp only at hto
  have hwb : IntKind.i64.wrap bv = bv := IntWalk.i64_in _ (by omega)
  have hwt : IntKind.i64.wrap (xt + bv) = xt + bv := IntWalk.i64_in _ (by omega)
  have hwf : IntKind.i64.wrap (xf - bv) = xf - bv := IntWalk.i64_in _ (by omega)
  obtain ⟨nf, hnf⟩ : ∃ nf, max (xf - bv) 1 = nf := ⟨_, rfl⟩
  have hnf1 : 1 ≤ nf ∧ nf ≤ x.fr := by omega
  have HW2 := Lib.hid (show ∀ z, L[k]? = some z → Wider z ⟨xo, xb, xd, nf, xt + bv, xk, xe, xr⟩ from fun z hz => by
    rw [hx] at hz
    cases hz
    exact ⟨hwd.op, hwd.blk, hwd.data, hwd.back, hwd.e, hwd.rd, hnf1.2, fun _ => hnf1.1, by simp only; omega⟩)
  have HOK2 := Lib.hid (show (LOp.mk xo xb xd nf (xt + bv) xk xe xr).ok from ⟨HYO.out.op, HYO.out.blk, HYO.out.data, by simp only; omega, by simp only; omega, HYO.out.e, HYO.out.rd⟩)
  have HNF := Lib.hid hnf
  clear hx hwd hxo
  have t4 := HT.out.own.frozen (k * 8 + 4)
  have d3 : wr.cell? ⟨g7, k * 8 + 3, none⟩ = some (.int .i64 xf) := HT.out.own.cell _ _ (by rw [HGE.out 3 (by decide)]; rfl)
  have HSET := Lib.hid (show (((eOp.fl M).set (k * 8 + 4) (.int .i64 (xt + bv))).set (k * 8 + 3) (.int .i64 nf)) = eOp.fl (M.set k ⟨xo, xb, xd, nf, xt + bv, xk, xe, xr⟩) by
    rw [HSE.out 4 (.int .i64 (xt + bv)) ⟨xo, xb, xd, xf, xt + bv, xk, xe, xr⟩ (by decide) rfl]
    have hk2 : k < (M.set k ⟨xo, xb, xd, xf, xt + bv, xk, xe, xr⟩).length := by rw [List.length_set]; exact hkm
    have h := Enc.set (E := eOp) (M.set k ⟨xo, xb, xd, xf, xt + bv, xk, xe, xr⟩) k 3 hk2 (.int .i64 nf) ⟨xo, xb, xd, nf, xt + bv, xk, xe, xr⟩ (by decide) (by rw [List.getElem_set_self]; rfl)
    rw [List.set_set] at h
    exact h)
  go_upto_region 15 with fail
  have HT := Lib.hid (HT.out.ownSet (k * 8 + 4) (.int .i64 (xt + bv)))
  clear d3 d4 t4
  generalize wr.setCell ⟨g7, k * 8 + 4, none⟩ (.int .i64 (xt + bv)) = W2 at *
  have d3 : W2.cell? ⟨g7, k * 8 + 3, none⟩ = some (.int .i64 xf) := HT.out.own.cell _ _ (by rw [List.getElem?_set_ne (by omega), HGE.out 3 (by decide)]; rfl)
  have t3 := HT.out.own.frozen (k * 8 + 3)
  go_wp2_with fail
  all_goals (
    go_roundg (n0 - (k + 1))
    case measure => omega
    case rel =>
      refine ⟨k + 1, M.set k ⟨xo, xb, xd, nf, xt + bv, xk, xe, xr⟩, by push_cast; rfl, by omega, rfl, by rw [List.length_set]; exact HML.out, HAW.out.set HW2.out, ?_, ?_⟩
      · intro z hz
        rcases List.mem_or_eq_of_mem_set hz with h | h
        · exact HMO.out z h
        · rw [h]; exact HOK2.out
      · have hs := HT.out.ownSet (k * 8 + 3) (.int .i64 nf)
        rw [HSET.out] at hs
        first
          | exact hs
          | (have e : nf = xf - bv := by (have := HNF.out; omega)
             rw [e] at hs ⊢
             exact hs)
          | (have e : nf = 1 := by (have := HNF.out; omega)
             rw [e] at hs ⊢
             exact hs))
end Go.Proofs.Ytkajkomljgdghaa
