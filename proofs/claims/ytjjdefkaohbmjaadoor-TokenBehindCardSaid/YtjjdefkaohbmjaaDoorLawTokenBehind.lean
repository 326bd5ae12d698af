/- The law TokenBehind returns true at every input, and leaves its arguments as they were: the row, out of the walk 'w_TokenBehind', and its card: utf8's two tables lie as the program's text lays them. No other condition. -/
import Derived.Test.YtjjdefkaohbmjaaDoorRows
import Derived.Test.YtjjdefkaohbmjaaDoorCards
import Derived.Test.YtjjdefkaohbmjaaDoorTie
import Derived.Test.YtjjdefkaohbmjaaDoorRow
import Derived.Test.YtjjdefkaohbmjaaDoorTokC
import Derived.Test.YtjjdefkaohbmjaaDoorTokL7
import Derived.WalkKit
import Derived.ProofKit
import Derived.OpenShut
import Derived.ShutString
import Derived.ChangeOld
import Derived.Below
import Derived.SizedLaws
import Derived.SevenTiedAt
namespace Go.Proofs.YtjjdefkaohbmjaaDoor.tokenBehind
open Go.Shelf Go.ChangeShapes Go.WideShapes Go.ChangeAt Go.RowKit Go.Lib
open Go.ChangeMaps (open_string shut_string)
set_option linter.unusedVariables false
set_option linter.unusedSimpArgs false
theorem witness_row (os : Os) {H : Type} (enc : TypeId × Value → H) :
    (OpenSpec.ofChange Rows.tokenBehindSpec).preRow enc Tryd.prog Tryd.f10 Rows.tokenBehindRow.domain false Rows.tokenBehindRow.laid ((laidWorld os).forCall (fun _ _ => 0) ⟨#[], #[.string ByteArray.empty, .string ByteArray.empty], []⟩).memory #[.string ByteArray.empty, .string ByteArray.empty] := by
  have hw : (DataW.whole enc Tryd.prog ((laidWorld os).forCall (fun _ _ => 0) ⟨#[], #[.string ByteArray.empty, .string ByteArray.empty], []⟩).memory Tryd.f10.params.toList (OpenSpec.ofChange Rows.tokenBehindSpec).vars false #[.string ByteArray.empty, .string ByteArray.empty].toList 8).map (fun x => (x.1, x.2.1)) =
      some ([.lit (.string []), .lit (.string [])], []) := by kernel_rfl
  obtain ⟨⟨x1, x2, x3⟩, hx, hx1⟩ := Option.map_eq_some_iff.1 hw
  simp only [Prod.mk.injEq] at hx1
  obtain ⟨rfl, rfl⟩ := hx1
  exact OpenSpec.preRow_of_cond 8 hx (by kernel_rfl) (fun k hk => by cases hk) (by kernel_rfl) (laid_met os _)
set_option maxRecDepth 100000 in
set_option maxHeartbeats 2000000 in
theorem lifted (os : Os) (started : os.Started) (H : Type) (enc : TypeId × Value → H) (F0 : Stop.Interp) :
    ReturnsInHanded {} Tryd.checked os 10 .any ((OpenSpec.ofChange Rows.tokenBehindSpec).preRow enc Tryd.prog Tryd.f10 Rows.tokenBehindRow.domain false Rows.tokenBehindRow.laid) (((OpenSpec.ofChange Rows.tokenBehindSpec).at F0).post enc Tryd.prog Tryd.f10 false true false false) := by
  refine returnsInHanded_of_row (C := Tryd.checked) (s := (OpenSpec.ofChange Rows.tokenBehindSpec)) own started (by kernel_rfl) Tryd.func10
    (witness_row_atRef (enc := enc) (C := Tryd.checked) false (laidWorld os) #[.string ByteArray.empty, .string ByteArray.empty] rfl (by kernel_rfl) (by kernel_rfl) (by kernel_rfl) (witness_row os enc)) ?_
  intro W base args ds gs before hval0 hW _ _ hsz0 hL _ _
  have hsz : (DataW.weightsEach Tryd.prog (Tryd.f10.params.toList ++ Rows.tokenBehindSpec.plain.varTypes Tryd.prog) (ds ++ gs)).all (· ≤ reachBytes) = true := hsz0
  have hval : ∀ (j : Nat) t v, Tryd.f10.params[j]? = some t → args[j]? = some v → Value.okWide Tryd.prog W .any base t v := hval0
  have hW' := hW
  obtain ⟨p, q, hA0, hV, rfl, hfz, hnd⟩ := hW
  have hA : DataW.TrodAll enc Tryd.prog W 0 (fun _ => true) true Tryd.f10.params.toList args.toList ds p := hA0
  rw [Tryd.params10] at hA hval hsz
  obtain ⟨v0, vs0, d0, ds0, p0, q0, hargs, rfl, rfl, h0, r0⟩ := trodAll_cons hA
  obtain ⟨v1, vs1, d1, ds1, p1, q1, rfl, rfl, rfl, h1, r1⟩ := trodAll_cons r0
  obtain ⟨rfl, rfl, rfl⟩ := trodAll_nil r1
  obtain rfl : args = #[v0, v1] := by cases args; simp_all
  obtain ⟨rfl, rfl⟩ := trodVars_none hV
  have k0 := h0
  have lt0 : ∀ x ∈ p0, x.block < W.heap.size := by obtain ⟨m, hm⟩ := k0; exact DataW.trod_lt m _ _ _ hm
  obtain ⟨a0, rfl⟩ := okWide_string Tryd.underlying9 (hval 0 9 v0 rfl rfl)
  have s0 : Sh.str.Is W [.string a0] := by
    obtain ⟨fuel, hf⟩ := h0
    exact is_of_trod (fun _ => rfl) 8 9 _ (by kernel_rfl) fuel _ _ hf (fun m hm => of_decide_eq_true (List.all_eq_true.1 hsz m (DataW.weights_mem_each (j := 0) (t := 9) rfl rfl m hm)))
  have w0 : a0.size ≤ 140737488351232 := by
    obtain ⟨s, hs, hw⟩ := s0
    simp only [List.cons.injEq, Value.string.injEq, and_true] at hs
    rw [hs]; exact hw
  have k1 := h1
  have lt1 : ∀ x ∈ p1, x.block < W.heap.size := by obtain ⟨m, hm⟩ := k1; exact DataW.trod_lt m _ _ _ hm
  obtain ⟨a1, rfl⟩ := okWide_string Tryd.underlying9 (hval 1 9 v1 rfl rfl)
  have s1 : Sh.str.Is W [.string a1] := by
    obtain ⟨fuel, hf⟩ := h1
    exact is_of_trod (fun _ => rfl) 8 9 _ (by kernel_rfl) fuel _ _ hf (fun m hm => of_decide_eq_true (List.all_eq_true.1 hsz m (DataW.weights_mem_each (j := 1) (t := 9) rfl rfl m hm)))
  have w1 : a1.size ≤ 140737488351232 := by
    obtain ⟨s, hs, hw⟩ := s1
    simp only [List.cons.injEq, Value.string.injEq, and_true] at hs
    rw [hs]; exact hw
  have htab : Tabs W := tabs_of hL
  clear hA0 hval0 hsz0 hsz
  refine (w_TokenBehind a0 a1 W w0 w1 htab).mono fun e W' ⟨he, bel⟩ => ?_
  subst he
  exact ⟨_, rfl, _, _, _, [], _, [], hW', trodAll_mk1 (shut_bool Tryd.underlying4 _), (trodAll_cons_mk (Below.trod laidOut (by kernel_rfl) (of_decide_eq_true (by kernel_rfl)) k0 bel lt0) (trodAll_cons_mk (Below.trod laidOut (by kernel_rfl) (of_decide_eq_true (by kernel_rfl)) k1 bel lt1) trodAll_mk0)), rfl, bel.frame _, fun h => by cases h⟩
theorem over : Rows.tokenBehindRow.holds Tryd.pinned (OpenSpec.ofChange Rows.tokenBehindSpec) :=
  OpenClaim.holds_of_cond 10 Tryd.f10 rfl rfl rfl rfl rfl rfl rfl ⟨rfl, rfl, rfl, rfl, rfl⟩ rfl rfl rfl rfl rfl (by kernel_rfl) Tryd.func10 (by kernel_rfl)
    (of_decide_eq_true (by kernel_rfl)) (by unfold Func.isWrapper; rw [if_neg (of_decide_eq_false (by kernel_rfl))]; exact ⟨rfl, rfl⟩)
    (fun os started H enc _ F0 => by rw [OpenClaim.pre_eq_preRow]; exact lifted os started H enc F0)
theorem card : Rows.TokenBehindCardSaid :=
  Claim7.holds_tied_plain_at .later [] [.data, .pinned] true (true, "c13cc54bf5e29880b33843042215b8e7f8f0c37227c26741350c1eff68acf83b") false
    over (fun _ h => by cases h) (by kernel_rfl) (fun _ h => by cases h) tokenBehind_row_tie rfl ⟨rfl, rfl⟩ (by kernel_rfl) rfl
    (fun f fn hf hfn => by
      obtain rfl : f = 10 := Option.some.inj ((show Tryd.prog.funcNamed "seisin/seisinlaw03.TokenBehind" = some 10 by kernel_rfl).symm.trans hf) |>.symm
      obtain rfl : fn = Tryd.f10 := (Option.some.inj (Tryd.func10.symm.trans hfn)).symm
      exact ⟨by kernel_rfl, fun j t ht => by
        rw [Tryd.params10] at ht
        have h3 : t = 9 ∨ t = 9 := by
          rcases j with _ | j
          · simp at ht; subst ht; simp
          rcases j with _ | j
          · simp at ht; subst ht; simp
          simp at ht
        rcases h3 with rfl | rfl
        · exact (show Tryd.prog.wantsStandIn 9 = false by kernel_rfl)
        · exact (show Tryd.prog.wantsStandIn 9 = false by kernel_rfl)⟩)
    (by kernel_rfl)
end Go.Proofs.YtjjdefkaohbmjaaDoor.tokenBehind
namespace Go.Proofs.YtjjdefkaohbmjaaDoor
/-- The card, under a short name, for the claim. -/
theorem tokenBehind_holds : Rows.TokenBehindCardSaid := tokenBehind.card
#print axioms tokenBehind_holds
end Go.Proofs.YtjjdefkaohbmjaaDoor
