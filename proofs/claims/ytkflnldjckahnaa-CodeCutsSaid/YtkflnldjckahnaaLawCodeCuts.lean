/- The law CodeCuts returns true at every input, and leaves its arguments as they were: the row, out of the walk 'w_CodeCuts'. No condition. -/
import Derived.Test.YtkflnldjckahnaaRows
import Derived.Test.YtkflnldjckahnaaRow
import Derived.Test.YtkflnldjckahnaaCodL7
import Derived.WalkKit
import Derived.ProofKit
import Derived.OpenShut
import Derived.ShutString
import Derived.ChangeOld
import Derived.Below
import Derived.SizedLaws
namespace Go.Proofs.Ytkflnldjckahnaa.codeCuts
open Go.ChangeShapes Go.WideShapes Go.ChangeAt Go.RowKit
open Go.ChangeMaps (open_string shut_string)
set_option linter.unusedVariables false
set_option linter.unusedSimpArgs false
theorem own : ownKnob Try.prog.godebug = none := by kernel_rfl
theorem laidOut : laidOutB Try.prog = true := by kernel_rfl
set_option maxRecDepth 100000 in
set_option maxHeartbeats 1000000 in
theorem lifted (os : Os) (started : os.Started) (H : Type) (enc : TypeId × Value → H) :
    ReturnsInHanded {} Try.checked os 7 .any (Rows.codeCutsSpec.pre6 enc Try.prog Try.f7 Rows.codeCutsRow.domain false) (Rows.codeCutsSpec.post enc Try.prog Try.f7 false true false false) := by
  refine returnsInHanded_of_change_sized (C := Try.checked) own started (by kernel_rfl) Try.func7
    (ChangeSpec.witness6 (enc := enc) (C := Try.checked) false ⟨#[], #[.agg #[.int .i64 0, .slice none 0 0, .slice none 0 0], .int .u16 0, .slice none 0 0], []⟩ 8 (by kernel_rfl) (by kernel_rfl) (by kernel_rfl) (by kernel_rfl)) ?_
  intro W base args ds gs before hval0 hW hcnd hsz0 _
  have hsz : (DataW.weightsEach Try.prog (Try.f7.params.toList ++ Rows.codeCutsSpec.plain.varTypes Try.prog) (ds ++ gs)).all (· ≤ reachBytes) = true := hsz0
  have hval : ∀ (j : Nat) t v, Try.f7.params[j]? = some t → args[j]? = some v → Value.okWide Try.prog W .any base t v := hval0
  have hW' := hW
  obtain ⟨p, q, hA0, hV, rfl, hfz, hnd⟩ := hW
  have hA : DataW.TrodAll enc Try.prog W 0 (fun _ => true) true Try.f7.params.toList args.toList ds p := hA0
  rw [Try.params7] at hA hval hsz
  obtain ⟨v0, vs0, d0, ds0, p0, q0, hargs, rfl, rfl, h0, r0⟩ := trodAll_cons hA
  obtain ⟨v1, vs1, d1, ds1, p1, q1, rfl, rfl, rfl, h1, r1⟩ := trodAll_cons r0
  obtain ⟨v2, vs2, d2, ds2, p2, q2, rfl, rfl, rfl, h2, r2⟩ := trodAll_cons r1
  obtain ⟨rfl, rfl, rfl⟩ := trodAll_nil r2
  obtain rfl : args = #[v0, v1, v2] := by cases args; simp_all
  obtain ⟨rfl, rfl⟩ := trodVars_none hV
  have k0 := h0
  have lt0 : ∀ x ∈ p0, x.block < W.heap.size := by obtain ⟨m, hm⟩ := k0; exact DataW.trod_lt m _ _ _ hm
  obtain ⟨a0, rfl, _⟩ := okWide_struct Try.underlying25 (hval 0 25 v0 rfl rfl)
  have s0 : Sh.Is W (.pair (.int .i64) (.pair (.slice 8 (.int .i64)) (.pair (.slice 16 .str) .unit))) a0.toList := by
    obtain ⟨fuel, hf⟩ := h0
    exact is_of_trod (fun _ => rfl) 8 25 _ (by kernel_rfl) fuel _ _ hf (fun m hm => of_decide_eq_true (List.all_eq_true.1 hsz m (DataW.weights_mem_each (j := 0) (t := 25) rfl rfl m hm)))
  have k1 := h1
  have lt1 : ∀ x ∈ p1, x.block < W.heap.size := by obtain ⟨m, hm⟩ := k1; exact DataW.trod_lt m _ _ _ hm
  obtain ⟨a1, rfl⟩ := okWide_int Try.underlying40 (hval 1 40 v1 rfl rfl)
  have s1 : (Sh.int .u16).Is W [.int .u16 a1] := by
    obtain ⟨fuel, hf⟩ := h1
    exact is_of_trod (fun _ => rfl) 8 40 _ (by kernel_rfl) fuel _ _ hf (fun m hm => of_decide_eq_true (List.all_eq_true.1 hsz m (DataW.weights_mem_each (j := 1) (t := 40) rfl rfl m hm)))
  have w1 : (Lit.int .u16 a1).wf = true := by
    obtain ⟨n, hn, hw⟩ := s1
    simp only [List.cons.injEq, Value.int.injEq, and_true, true_and] at hn
    rw [hn]; exact hw
  have k2 := h2
  have lt2 : ∀ x ∈ p2, x.block < W.heap.size := by obtain ⟨m, hm⟩ := k2; exact DataW.trod_lt m _ _ _ hm
  obtain ⟨a2, n2, c2, rfl⟩ := okWide_slice Try.underlying28 (hval 2 28 v2 rfl rfl)
  have s2 : Sh.Is W (.slice 1 (.int .u8)) [.slice a2 n2 c2] := by
    obtain ⟨fuel, hf⟩ := h2
    exact is_of_trod (fun _ => rfl) 8 28 _ (by kernel_rfl) fuel _ _ hf (fun m hm => of_decide_eq_true (List.all_eq_true.1 hsz m (DataW.weights_mem_each (j := 2) (t := 28) rfl rfl m hm)))
  clear hA0 hval0 hsz0 hsz
  refine (w_CodeCuts a0 a1 a2 n2 c2 W s0 (bd_u16 w1) s2).mono fun e W' ⟨he, bel⟩ => ?_
  subst he
  exact ⟨_, rfl, _, _, _, [], _, [], hW', trodAll_mk1 (shut_bool Try.underlying4 _), (trodAll_cons_mk (Below.trod laidOut (by kernel_rfl) (of_decide_eq_true (by kernel_rfl)) k0 bel lt0) (trodAll_cons_mk (Below.trod laidOut (by kernel_rfl) (of_decide_eq_true (by kernel_rfl)) k1 bel lt1) (trodAll_cons_mk (Below.trod laidOut (by kernel_rfl) (of_decide_eq_true (by kernel_rfl)) k2 bel lt2) trodAll_mk0))), rfl, bel.frame _, fun h => by cases h⟩
theorem over : Rows.codeCutsRow.holds Try.pinned (OpenSpec.ofChange Rows.codeCutsSpec) :=
  OpenClaim.holds_of_wide 7 Try.f7 rfl rfl rfl rfl rfl rfl rfl ⟨rfl, rfl, rfl, rfl, rfl⟩ rfl rfl rfl rfl rfl (by kernel_rfl) Try.func7 (by kernel_rfl)
    (of_decide_eq_true (by kernel_rfl)) (by unfold Func.isWrapper; first | (rw [if_pos (by decide +kernel)]; kernel_rfl) | (rw [if_neg (by decide +kernel)]; exact ⟨rfl, rfl⟩))
    (fun os started H enc _ => lifted os started H enc)
theorem proved : Rows.CodeCutsSaid := over
end Go.Proofs.Ytkflnldjckahnaa.codeCuts
namespace Go.Proofs.Ytkflnldjckahnaa
/-- The row, under a short name, for the claim. -/
theorem codeCuts_holds : Rows.CodeCutsSaid := codeCuts.proved
#print axioms codeCuts_holds
end Go.Proofs.Ytkflnldjckahnaa
