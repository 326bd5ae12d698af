/- The law TokenMany returns true at every input, and leaves its arguments as they were: the row, out of the walk 'w_TokenMany', and its card: utf8's two tables lie as the program's text lays them. No other condition. -/
import Derived.Test.YtjjdefkaohbmjaaDoorRows
import Derived.Test.YtjjdefkaohbmjaaDoorCards
import Derived.Test.YtjjdefkaohbmjaaDoorTie
import Derived.Test.YtjjdefkaohbmjaaDoorRow
import Derived.Test.YtjjdefkaohbmjaaDoorTokC
import Derived.Test.YtjjdefkaohbmjaaDoorTokL4
import Derived.WalkKit
import Derived.ProofKit
import Derived.OpenShut
import Derived.ShutString
import Derived.ChangeOld
import Derived.Below
import Derived.SizedLaws
import Derived.SevenTiedAt
namespace Go.Proofs.YtjjdefkaohbmjaaDoor.tokenMany
open Go.Shelf Go.ChangeShapes Go.WideShapes Go.ChangeAt Go.RowKit Go.Lib
open Go.ChangeMaps (open_string shut_string)
set_option linter.unusedVariables false
set_option linter.unusedSimpArgs false
theorem witness_row (os : Os) {H : Type} (enc : TypeId × Value → H) :
    (OpenSpec.ofChange Rows.tokenManySpec).preRow enc Tryd.prog Tryd.f4 Rows.tokenManyRow.domain false Rows.tokenManyRow.laid ((laidWorld os).forCall (fun _ _ => 0) ⟨#[], #[.int .u8 0, .string ByteArray.empty], []⟩).memory #[.int .u8 0, .string ByteArray.empty] := by
  have hw : (DataW.whole enc Tryd.prog ((laidWorld os).forCall (fun _ _ => 0) ⟨#[], #[.int .u8 0, .string ByteArray.empty], []⟩).memory Tryd.f4.params.toList (OpenSpec.ofChange Rows.tokenManySpec).vars false #[.int .u8 0, .string ByteArray.empty].toList 8).map (fun x => (x.1, x.2.1)) =
      some ([.lit (.int .u8 0), .lit (.string [])], []) := by kernel_rfl
  obtain ⟨⟨x1, x2, x3⟩, hx, hx1⟩ := Option.map_eq_some_iff.1 hw
  simp only [Prod.mk.injEq] at hx1
  obtain ⟨rfl, rfl⟩ := hx1
  exact OpenSpec.preRow_of_cond 8 hx (by kernel_rfl) (fun k hk => by cases hk) (by kernel_rfl) (laid_met os _)
set_option maxRecDepth 100000 in
set_option maxHeartbeats 2000000 in
theorem lifted (os : Os) (started : os.Started) (H : Type) (enc : TypeId × Value → H) (F0 : Stop.Interp) :
    ReturnsInHanded {} Tryd.checked os 4 .any ((OpenSpec.ofChange Rows.tokenManySpec).preRow enc Tryd.prog Tryd.f4 Rows.tokenManyRow.domain false Rows.tokenManyRow.laid) (((OpenSpec.ofChange Rows.tokenManySpec).at F0).post enc Tryd.prog Tryd.f4 false true false false) := by
  refine returnsInHanded_of_row (C := Tryd.checked) (s := (OpenSpec.ofChange Rows.tokenManySpec)) own started (by kernel_rfl) Tryd.func4
    (witness_row_atRef (enc := enc) (C := Tryd.checked) false (laidWorld os) #[.int .u8 0, .string ByteArray.empty] rfl (by kernel_rfl) (by kernel_rfl) (by kernel_rfl) (witness_row os enc)) ?_
  intro W base args ds gs before hval0 hW _ _ hsz0 hL _ _
  have hsz : (DataW.weightsEach Tryd.prog (Tryd.f4.params.toList ++ Rows.tokenManySpec.plain.varTypes Tryd.prog) (ds ++ gs)).all (· ≤ reachBytes) = true := hsz0
  have hval : ∀ (j : Nat) t v, Tryd.f4.params[j]? = some t → args[j]? = some v → Value.okWide Tryd.prog W .any base t v := hval0
  have hW' := hW
  obtain ⟨p, q, hA0, hV, rfl, hfz, hnd⟩ := hW
  have hA : DataW.TrodAll enc Tryd.prog W 0 (fun _ => true) true Tryd.f4.params.toList args.toList ds p := hA0
  rw [Tryd.params4] at hA hval hsz
  obtain ⟨v0, vs0, d0, ds0, p0, q0, hargs, rfl, rfl, h0, r0⟩ := trodAll_cons hA
  obtain ⟨v1, vs1, d1, ds1, p1, q1, rfl, rfl, rfl, h1, r1⟩ := trodAll_cons r0
  obtain ⟨rfl, rfl, rfl⟩ := trodAll_nil r1
  obtain rfl : args = #[v0, v1] := by cases args; simp_all
  obtain ⟨rfl, rfl⟩ := trodVars_none hV
  have k0 := h0
  have lt0 : ∀ x ∈ p0, x.block < W.heap.size := by obtain ⟨m, hm⟩ := k0; exact DataW.trod_lt m _ _ _ hm
  obtain ⟨a0, rfl⟩ := okWide_int Tryd.underlying5 (hval 0 5 v0 rfl rfl)
  have s0 : (Sh.int .u8).Is W [.int .u8 a0] := by
    obtain ⟨fuel, hf⟩ := h0
    exact is_of_trod (fun _ => rfl) 8 5 _ (by kernel_rfl) fuel _ _ hf (fun m hm => of_decide_eq_true (List.all_eq_true.1 hsz m (DataW.weights_mem_each (j := 0) (t := 5) rfl rfl m hm)))
  have w0 : (Lit.int .u8 a0).wf = true := by
    obtain ⟨n, hn, hw⟩ := s0
    simp only [List.cons.injEq, Value.int.injEq, and_true, true_and] at hn
    rw [hn]; exact hw
  have k1 := h1
  have lt1 : ∀ x ∈ p1, x.block < W.heap.size := by obtain ⟨m, hm⟩ := k1; exact DataW.trod_lt m _ _ _ hm
  obtain ⟨a1, rfl⟩ := okWide_string Tryd.underlying9 (hval 1 9 v1 rfl rfl)
  have s1 : Sh.str.Is W [.string a1] := by
    obtain ⟨fuel, hf⟩ := h1
    exact is_of_trod (fun _ => rfl) 8 9 _ (by kernel_rfl) fuel _ _ hf (fun m hm => of_decide_eq_true (List.all_eq_true.1 hsz m (DataW.weights_mem_each (j := 1) (t := 9) rfl rfl m hm)))
  have w1 : a1.size ≤ 140737488351232 := by
    obtain ⟨s, hs, hw⟩ := s1
    simp only [List.cons.injEq, Value.string.injEq, and_true] at hs
    rw [hs]; exact hw
  have htab : Tabs W := tabs_of hL
  clear hA0 hval0 hsz0 hsz
  refine (w_TokenMany a0 a1 W (bd_u8 w0) w1 htab).mono fun e W' ⟨he, bel⟩ => ?_
  subst he
  exact ⟨_, rfl, _, _, _, [], _, [], hW', trodAll_mk1 (shut_bool Tryd.underlying4 _), (trodAll_cons_mk (Below.trod laidOut (by kernel_rfl) (of_decide_eq_true (by kernel_rfl)) k0 bel lt0) (trodAll_cons_mk (Below.trod laidOut (by kernel_rfl) (of_decide_eq_true (by kernel_rfl)) k1 bel lt1) trodAll_mk0)), rfl, bel.frame _, fun h => by cases h⟩
theorem over : Rows.tokenManyRow.holds Tryd.pinned (OpenSpec.ofChange Rows.tokenManySpec) :=
  OpenClaim.holds_of_cond 4 Tryd.f4 rfl rfl rfl rfl rfl rfl rfl ⟨rfl, rfl, rfl, rfl, rfl⟩ rfl rfl rfl rfl rfl (by kernel_rfl) Tryd.func4 (by kernel_rfl)
    (of_decide_eq_true (by kernel_rfl)) (by unfold Func.isWrapper; rw [if_neg (of_decide_eq_false (by kernel_rfl))]; exact ⟨rfl, rfl⟩)
    (fun os started H enc _ F0 => by rw [OpenClaim.pre_eq_preRow]; exact lifted os started H enc F0)
theorem card : Rows.TokenManyCardSaid :=
  Claim7.holds_tied_plain_at .later [] [.data, .pinned] true (true, "c13cc54bf5e29880b33843042215b8e7f8f0c37227c26741350c1eff68acf83b") false
    over (fun _ h => by cases h) (by kernel_rfl) (fun _ h => by cases h) tokenMany_row_tie rfl ⟨rfl, rfl⟩ (by kernel_rfl) rfl
    (fun f fn hf hfn => by
      obtain rfl : f = 4 := Option.some.inj ((show Tryd.prog.funcNamed "seisin/seisinlaw03.TokenMany" = some 4 by kernel_rfl).symm.trans hf) |>.symm
      obtain rfl : fn = Tryd.f4 := (Option.some.inj (Tryd.func4.symm.trans hfn)).symm
      exact ⟨by kernel_rfl, fun j t ht => by
        rw [Tryd.params4] at ht
        have h3 : t = 5 ∨ t = 9 := by
          rcases j with _ | j
          · simp at ht; subst ht; simp
          rcases j with _ | j
          · simp at ht; subst ht; simp
          simp at ht
        rcases h3 with rfl | rfl
        · exact (show Tryd.prog.wantsStandIn 5 = false by kernel_rfl)
        · exact (show Tryd.prog.wantsStandIn 9 = false by kernel_rfl)⟩)
    (by kernel_rfl)
end Go.Proofs.YtjjdefkaohbmjaaDoor.tokenMany
namespace Go.Proofs.YtjjdefkaohbmjaaDoor
/-- The card, under a short name, for the claim. -/
theorem tokenMany_holds : Rows.TokenManyCardSaid := tokenMany.card
#print axioms tokenMany_holds
end Go.Proofs.YtjjdefkaohbmjaaDoor
