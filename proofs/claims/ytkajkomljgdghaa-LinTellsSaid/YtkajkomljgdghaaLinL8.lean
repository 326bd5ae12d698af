/- The walk of the law LinTells: it returns true. No condition but the row's own. -/
import Derived.Test.YtkajkomljgdghaaLinX
set_option linter.unusedVariables false
set_option linter.unusedSimpArgs false
namespace Go.Proofs.Ytkajkomljgdghaa
open Go.RowKit Go.Maps
theorem zeroI_ (w : World) : (zeroValue 3).run Try.prog w = .ok (.int .i64 0) w := by kernel_rfl
def SmallSays (n : Nat) (e : Ending) : Prop := e = .returned (.bool true) ∧ n ≤ 60 ∨ e = .returned (.bool false)
def Counted (k : Nat) (f : Value → Option Value) : Prop := ∀ u v, f u = some v → ∃ z : Nat, v = .int .i64 (z : Int) ∧ z ≤ k
theorem Counted.look {k : Nat} {f : Value → Option Value} (h : Counted k f) (u : Value) : ∃ z : Nat, (f u).getD (.int .i64 0) = .int .i64 (z : Int) ∧ z ≤ k := by
  cases hf : f u with
  | none => exact ⟨0, rfl, Nat.zero_le _⟩
  | some v =>
    obtain ⟨z, rfl, hz⟩ := h u v hf
    exact ⟨z, rfl, hz⟩
theorem Counted.put {k : Nat} {f : Value → Option Value} (h : Counted k f) (u : Value) {z : Nat} (hz : z ≤ k) : Counted (k + 1) (putV f u (.int .i64 ((z + 1 : Nat) : Int))) := fun x v hx => by
  by_cases e : x = u
  · subst e
    rw [putV_same] at hx
    exact ⟨z + 1, (Option.some.inj hx).symm, by omega⟩
  · rw [putV_other _ _ e] at hx
    obtain ⟨y, h1, h2⟩ := h x v hx
    exact ⟨y, h1, by omega⟩
set_option maxRecDepth 100000 in
set_option maxHeartbeats 8000000 in
theorem small_any (L : List LOp) (A : Option Addr) (n c : Nat) (hl : L.length = n) (hok : ∀ o ∈ L, o.ok) {w W : World} {l : List Th} (hrd : ∀ W' l, Sep w W' l → Rd W' A (eOp.fl L)) (hs : Sep w W l) :
    Calls Try.prog 12 #[.slice A n c] W fun e W' => SmallSays n e ∧ Sep w W' l := by
  have HL := Lib.hid hl
  have HOK := Lib.hid hok
  have HRD := Lib.hid hrd
  have HT := Lib.hid hs
  clear hl hok hrd hs
  go_enter Try.func12, Try.ntmps12
  by_cases hn : 60 < n
  · have q1 : decide ((60 : Int) < (n : Int)) = true := by simp; omega
    have q2 : (60 : Int) < (n : Int) := by omega
    go_wp2_with fail
    go_ret
    exact ⟨.inr rfl, HT.out⟩
  have q1 : decide ((60 : Int) < (n : Int)) = false := by simp; omega
  have q2 : ¬ (60 : Int) < (n : Int) := by omega
  have hmm := @run_makeMap Try.prog
  have HT := Lib.hid (HT.out.newMap tIn (b := W.heap.size) rfl)
  go_upto_region 4 with fail
  generalize W.alloc (.map #[] 0) = w3 at *
  generalize W.heap.size = bm at *
  clear q1 q2
  go_wp2_with fail
  go_loopg [11] n (fun gk s11 wr => ∃ (k q : Nat) (f : Value → Option Value), s11 = .int .i64 (k : Int) ∧ k ≤ n ∧ gk = n - k ∧ q ≤ k ∧ Counted k f ∧ Sep w wr (tMapV tIn bm q f :: l))
  case atStart => exact ⟨0, 0, _, rfl, by omega, by omega, Nat.le_refl _, fun u v h => (by cases h), HT.out⟩
  case round =>
  clear HT
  obtain ⟨k, q, f, rfl, hk, hgk, hq, hcf, hs⟩ := hrel
  have HT := Lib.hid hs
  have HCF := Lib.hid hcf
  clear hs hcf
  by_cases hkn : k < n
  case neg =>
    have q1 : decide ((k : Int) < (n : Int)) = false := by simp; omega
    have q2 : ¬ (k : Int) < (n : Int) := by omega
    go_wp2_with fail
    go_ret
    exact ⟨.inl ⟨rfl, by omega⟩, HT.out.tail⟩
  have q1 : decide ((k : Int) < (n : Int)) = true := by simp; omega
  have q2 : (k : Int) < (n : Int) := by omega
  have q3 : (0 : Int) ≤ (k : Int) := by omega
  have hwk : IntKind.i64.wrap ((k : Int) + 1) = (k : Int) + 1 := IntWalk.i64_in _ (by omega)
  have HX := Lib.hid (List.getElem?_eq_getElem (l := L) (i := k) (by rw [HL.out]; exact hkn))
  generalize L[k]'(by rw [HL.out]; exact hkn) = x at *
  have HKEY := Lib.hid (keyI (HOK.out x (List.mem_of_getElem? HX.out)).blk)
  obtain ⟨gb, go, rfl, hu⟩ := (HRD.out _ _ HT.out).op k x HX.out
  obtain ⟨xo, xb, xd, xf, xt, xk, xe, xr⟩ := x
  have v1 : wr.cell? ⟨gb, go + k * 8 + 1, none⟩ = some (.int .i64 xb) := hu 1 _ rfl
  clear hu
  have HV : Hid (∀ W' l, Sep w W' l → W'.cell? ⟨gb, go + k * 8 + 1, none⟩ = some (.int .i64 xb)) := Lib.hid (fun W' l h => by
    obtain ⟨b, o, e, hu⟩ := (HRD.out _ _ h).op k _ HX.out
    cases e
    exact hu 1 _ rfl)
  obtain ⟨z, hz, hzk⟩ := HCF.out.look (iV xb)
  have HZ := Lib.hid hz
  have HCP := Lib.hid (HCF.out.put (iV xb) hzk)
  have HQ := Lib.hid (show q < maxLen by unfold maxLen; omega)
  have hwz : IntKind.i64.wrap ((z : Int) + 1) = (z : Int) + 1 := IntWalk.i64_in _ (by omega)
  have HG : Hid ((putV f (iV xb) (.int .i64 ((z : Int) + 1)) (iV xb)).getD (.int .i64 0) = .int .i64 ((z : Int) + 1)) := Lib.hid (by rw [putV_same]; rfl)
  clear hz
  go_upto_region 7 with fail
  refine wp_region_lit (l := [_, _, _, _, _, _, _, _, _, _]) ?_
  iterate 7 (refine wpList_plain rfl fun _ hK => ?_; go_simp; refine hK _ _ ?_)
  refine mapv_look (HT.out.hd) lawI Try.underlying50 rfl (.tmp 14) (.tmp 20) rfl (zeroI_ _) (iV xb) HKEY.out rfl rfl (iV (z : Int)) HZ.out ?_
  refine wpList_plain rfl fun _ hK => ?_
  go_simp
  refine hK _ _ ?_
  refine mapv_put (HT.out.hd) lawI Try.underlying50 rfl (.tmp 14) (.tmp 20) (.tmp 22) rfl HQ.out (iV xb) (iV ((z : Int) + 1)) HKEY.out rfl rfl rfl ?_
  intro w5 hm5 hu5
  have HT := Lib.hid (HT.out.mapPut hm5 hu5)
  clear hm5 hu5 v1
  have v1 := HV.out _ _ HT.out
  go_upto_region 8 with fail
  refine wp_region_lit (l := [_, _, _, _, _, _, _, _, _]) ?_
  iterate 7 (refine wpList_plain rfl fun _ hK => ?_; go_simp; refine hK _ _ ?_)
  refine mapv_look (HT.out.hd) lawI Try.underlying50 rfl (.tmp 23) (.tmp 29) rfl (zeroI_ _) (iV xb) HKEY.out rfl rfl (iV ((z : Int) + 1)) HG.out ?_
  by_cases h6 : 6 < z + 1
  · have g1 : decide ((6 : Int) < (z : Int) + 1) = true := by simp; omega
    have g2 : (6 : Int) < (z : Int) + 1 := by omega
    refine wpList_plain rfl fun _ hK => ?_
    go_simp
    refine hK _ _ ?_
    go_wp2_with fail
    go_ret
    exact ⟨.inr rfl, HT.out.tail⟩
  · have g1 : decide ((6 : Int) < (z : Int) + 1) = false := by simp; omega
    have g2 : ¬ (6 : Int) < (z : Int) + 1 := by omega
    refine wpList_plain rfl fun _ hK => ?_
    go_simp
    refine hK _ _ ?_
    go_wp2_with fail
    go_roundg (n - (k + 1))
    case measure => omega
    case rel => exact ⟨k + 1, q + 1, _, by push_cast; rfl, by omega, rfl, by omega, by have := HCP.out; push_cast at this; exact this, HT.out⟩
set_option maxRecDepth 100000 in
set_option maxHeartbeats 8000000 in
theorem w_LinTells (a0 : Option Addr) (n0 c0 : Nat) (w : World) (b0 : Sh.Is w (.slice 80 (.pair (.pair (.int .i64) (.pair (.int .i64) (.pair .str .unit))) (.pair (.int .i64) (.pair (.int .i64) (.pair .bool (.pair (.pair (.int .i64) (.pair .str .unit)) .unit)))))) [.slice a0 n0 c0]) :
    Calls Try.prog 3 #[.slice a0 n0 c0] w fun e w' => e = .returned (.bool true) ∧ Below w.heap.size w w' := by
  obtain ⟨L, hl, _, hnc, hz, hr, hok⟩ := Enc.of_slice (E := eOp) (p := LOp.ok) b0 (fun cs hc => is_lop hc)
  have HL := Lib.hid hl; have HOK := Lib.hid hok; have HNC := Lib.hid hnc; have HZ := Lib.hid (show a0 = none → n0 = 0 ∧ c0 = 0 from fun h => ⟨by have := hz h; omega, hz h⟩)
  have HRD : Hid (∀ W' (l : List Th), Sep w W' l → Rd W' a0 (eOp.fl L)) := Lib.hid (fun W' l h => hr.below h.bel)
  clear b0 hl hok hr hz
  go_enter Try.func3, Try.ntmps3
  go_wp2_with fail
  refine (awake_any _).mono ?_
  rintro e w1 ⟨rfl, hB1⟩
  have HS := Lib.hid ((Sep.nil w).step hB1)
  clear hB1
  have HOWN := Lib.hid (fun (h60 : n0 ≤ 60) (W' : World) (l : List Th) (h : Sep w W' l) => own_any L a0 n0 c0 HL.out (by omega) (fun W' h' => HRD.out W' l h') h)
  have HCHK := Lib.hid (fun (h60 : n0 ≤ 60) (W' : World) (l : List Th) (h : Sep w W' l) => check_any L a0 n0 c0 HL.out (by omega) HOK.out (fun W' h' => HRD.out W' l h') h)
  have HWRG := Lib.hid (fun (h60 : n0 ≤ 60) (W' : World) (l : List Th) (h : Sep w W' l) => wrong_any L a0 n0 c0 HL.out (by omega) HOK.out (fun W' h' => HRD.out W' l h') h)
  have HER := Lib.hid (fun (h60 : n0 ≤ 60) (W' : World) (P : Option Addr) (c : Nat) (h : Rd W' P (eOp.fl L)) => errs_any L P n0 c W' HL.out (by omega) h)
  have HCR := Lib.hid (fun (h60 : n0 ≤ 60) (W' : World) (P : Option Addr) (c : Nat) (h : Rd W' P (eOp.fl L)) => checkR_any L P n0 c W' HL.out (by omega) h)
  have HWR := Lib.hid (fun (h60 : n0 ≤ 60) (W' : World) (P : Option Addr) (c : Nat) (h : Rd W' P (eOp.fl L)) => wrongR_any L P n0 c W' HL.out (by omega) h)
  go_upto_region 3 with fail
  have HSM := Lib.hid (small_any L a0 n0 c0 HL.out HOK.out HRD.out HS.out)
  have HCB := Lib.hid (show errs L ≠ 0 → chkB L = false ∧ wrong L = (0, false) from fun h => ⟨by unfold chkB; rw [decide_eq_false h]; rfl, by unfold wrong; rw [if_neg h]⟩)
  generalize errs L = ee at *
  generalize chkB L = cb at *
  generalize wrong L = p at *
  obtain ⟨pa, pb⟩ := p
  go_wp2_with fail
  refine HSM.out.mono ?_
  rintro e w2 ⟨hr, hs⟩
  rcases hr with ⟨rfl, h60⟩ | rfl
  · have HT := Lib.hid hs
    clear HS HSM hs
    go_wp2_with (first | (go_at_call 15; refine (HCHK.out h60 _ _ HT.out).mono ?_; rintro e w3 ⟨rfl, hs⟩; have HT := Lib.hid hs; clear hs) | (go_at_call 16; refine (HWRG.out h60 _ _ HT.out).mono ?_; rintro e w4 ⟨rfl, hs⟩; have HT := Lib.hid hs; clear hs) | (go_at_call 14; refine (HOWN.out h60 _ _ HT.out).mono ?_; rintro e w5 ⟨P, c', rfl, hs⟩; have HT := Lib.hid hs; clear hs) | (go_at_call 17; refine (HCR.out h60 _ _ _ HT.out.own.rd).mono ?_; rintro e w6 ⟨rfl, hB⟩; have HT := Lib.hid (HT.out.step hB).tail; clear hB) | (go_at_call 18; refine (HWR.out h60 _ _ _ HT.out.own.rd).mono ?_; rintro e w6 ⟨rfl, hB⟩; have HT := Lib.hid (HT.out.step hB).tail; clear hB))
    all_goals (
      go_ret
      exact ⟨rfl, HT.out.bel⟩)
  · have HT := Lib.hid hs
    clear HS HSM hs
    by_cases h60 : 60 < n0
    · have q1 : decide ((60 : Int) < (n0 : Int)) = true := by simp; omega
      have q2 : (60 : Int) < (n0 : Int) := by omega
      go_wp2_with fail
      go_ret
      exact ⟨rfl, HT.out.bel⟩
    have q1 : decide ((60 : Int) < (n0 : Int)) = false := by simp; omega
    have q2 : ¬ (60 : Int) < (n0 : Int) := by omega
    have h60 : n0 ≤ 60 := by omega
    by_cases h0 : ee = 0
    · subst h0
      go_wp2_with (first | (go_at_call 14; refine (HOWN.out h60 _ _ HT.out).mono ?_; rintro e w5 ⟨P, c', rfl, hs⟩; have HT := Lib.hid hs; clear hs) | (go_at_call 13; refine (HER.out h60 _ _ _ HT.out.own.rd).mono ?_; rintro e w6 ⟨rfl, hB⟩; have HT := Lib.hid (HT.out.step hB).tail; clear hB))
      go_ret
      exact ⟨rfl, HT.out.bel⟩
    · have g1 : (ee == 0) = false := beq_eq_false_iff_ne.2 h0
      obtain ⟨rfl, hp⟩ := HCB.out h0
      obtain ⟨rfl, rfl⟩ := Prod.mk.injEq .. ▸ hp
      clear HCB h0
      go_wp2_with (first | (go_at_call 15; refine (HCHK.out h60 _ _ HT.out).mono ?_; rintro e w3 ⟨rfl, hs⟩; have HT := Lib.hid hs; clear hs) | (go_at_call 16; refine (HWRG.out h60 _ _ HT.out).mono ?_; rintro e w4 ⟨rfl, hs⟩; have HT := Lib.hid hs; clear hs) | (go_at_call 14; refine (HOWN.out h60 _ _ HT.out).mono ?_; rintro e w5 ⟨P, c', rfl, hs⟩; have HT := Lib.hid hs; clear hs) | (go_at_call 13; refine (HER.out h60 _ _ _ HT.out.own.rd).mono ?_; rintro e w6 ⟨rfl, hB⟩; have HT := Lib.hid (HT.out.step hB).tail; clear hB))
      go_ret
      exact ⟨rfl, HT.out.bel⟩
end Go.Proofs.Ytkajkomljgdghaa
