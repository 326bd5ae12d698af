/- The walks of the document's New, Set, Or. No condition but sizes. -/
import Derived.Test.YtlgmomjofhbggaaBitR
import Derived.Laws.Tables
set_option linter.unusedVariables false
set_option linter.unusedSimpArgs false
namespace Go.Proofs.Ytlgmomjofhbggaa
open Go.RowKit

theorem zero65 : (Try.prog.info? rT).map (·.zero) = some (some (.agg (rf 0 0).toArray)) := by kernel_rfl
theorem run_zero65 (w : World) : (zeroValue rT).run Try.prog w = .ok (.agg (rf 0 0).toArray) w := by
  obtain ⟨i, hi, hz⟩ := Option.map_eq_some_iff.1 zero65
  simp [zeroValue, typeInfo, hi, hz]
theorem run_build0 (w : World) : (Instr.build rT #[]).run Try.prog w = .ok (.agg (rf 0 0).toArray) w := run_build w rT #[] _ (by kernel_rfl)
theorem run_buildn (w : World) (n : Nat) : (Instr.build rT #[(0, Value.int .i64 (n : Int))]).run Try.prog w = .ok (.agg (rf n 0).toArray) w := run_build w rT _ _ (by kernel_rfl)
theorem RB.store {W : World} {g n b : Nat} (h : RB W g n b) (n' b' : Nat) : (storeCells ⟨g, 0, none⟩ (rf n' b') 0).run Try.prog W = .ok () (W.setCells g 0 (rf n' b')) :=
  run_storeCells_cells g 0 (rf n' b') 0 W (fun j hj => by
    have : j < (rf n b).toArray.size := by rw [List.size_toArray, rf_len]; rw [rf_len] at hj; exact hj
    rw [Nat.zero_add, h.cell j]; simpa using this) (fun j _ => by rw [Nat.zero_add]; exact h.frozen j) (rf_one n' b')

theorem Blk.setCells {T : TypeId} {b : Nat} : ∀ (vs : List Value) (o : Nat) (w : World) (cs : Array Value), Blk w b cs T →
    ∃ cs', Blk (w.setCells b o vs) b cs' T ∧ cs'.size = cs.size ∧ ∀ j, j < cs.size → cs'[j]? = if o ≤ j ∧ j < o + vs.length then vs[j - o]? else cs[j]?
  | [], o, w, cs, h => ⟨cs, h, rfl, fun j hj => by rw [if_neg (by simp)]⟩
  | v :: r, o, w, cs, h => by
    obtain ⟨cs', h1, h2, h3⟩ := Blk.setCells r (o + 1) _ _ (h.set o v)
    refine ⟨cs', h1, by simpa using h2, fun j hj => ?_⟩
    rw [h3 j (by simpa using hj)]
    by_cases hjo : j = o
    · subst hjo
      rw [if_neg (by omega), if_pos (by simp)]
      simp [hj]
    · rw [Array.getElem?_setIfInBounds_ne (by omega)]
      by_cases hr : o + 1 ≤ j ∧ j < o + 1 + r.length
      · rw [if_pos hr, if_pos (by simp; omega)]
        rw [show j - o = (j - (o + 1)) + 1 by omega, List.getElem?_cons_succ]
      · rw [if_neg hr, if_neg (by simp; omega)]
theorem Blk.fill {T : TypeId} {b : Nat} {w : World} {cs : Array Value} {vs : List Value} (h : Blk w b cs T) (hl : vs.length = cs.size) : Blk (w.setCells b 0 vs) b vs.toArray T := by
  obtain ⟨cs', h1, h2, h3⟩ := Blk.setCells vs 0 w cs h
  have : cs' = vs.toArray := by
    apply Array.ext_getElem?
    intro j
    by_cases hj : j < cs.size
    · rw [h3 j hj, if_pos (by omega)]; simp
    · rw [Array.getElem?_eq_none (by omega), Array.getElem?_eq_none (by simp; omega)]
  rwa [this] at h1
theorem Upd.setCells {S : Nat → Prop} {b : Nat} : ∀ (vs : List Value) (o : Nat) {a w : World}, Upd S a w → (a.heap.size ≤ b ∨ S b) → Upd S a (w.setCells b o vs)
  | [], o, a, w, h, _ => h
  | v :: r, o, a, w, h, hp => Upd.setCells r (o + 1) (h.setCell (p := ⟨b, o, none⟩) hp v) hp

section
variable {ops : Array Oper} {rest : List Oper} {o : Oper} {a : Act} {W : World} {Q : Exit → Act → World → Prop}
/-- A whole row is stored. -/
theorem store_rf {g n b : Nat} (n' b' : Nat) (hb : RB W g n b) (hgd : o.guard = none) (x y : Operand) (ho : o.op = .store rT x y) (hx : a.eval x = .pointer (some ⟨g, 0, none⟩)) (hy : a.eval y = .agg (rf n' b').toArray)
    (h : ∀ w', RB w' g n' b' → Upd (fun k => k = g) W w' → wpList Try.prog ops Q rest (a.put o.dst undef) w') : wpList Try.prog ops Q (o :: rest) a W := by
  refine wpList_store_mid hgd rT x y ho g 0 (rf n' b').toArray hx hy ?_ (by rw [info65]; simp [rf]) (all_oneCell_toArray (rf_one n' b')) ?_
  · intro j hj
    have hj' : j < (rf n b).toArray.size := by rw [List.size_toArray, rf_len] at hj ⊢; exact hj
    rw [Nat.zero_add]
    exact ⟨by rw [hb.cell j]; simpa using hj', hb.frozen j⟩
  · rw [List.toList_toArray]
    exact h _ (hb.fill (by rw [rf_len, List.size_toArray, rf_len])) (Upd.setCells _ 0 (Upd.refl _ _) (.inr rfl))
/-- A whole row is loaded. -/
theorem load_rf {g n b : Nat} (hb : RB W g n b) (hgd : o.guard = none) (x : Operand) (ho : o.op = .load rT x) (hx : a.eval x = .pointer (some ⟨g, 0, none⟩))
    (h : wpList Try.prog ops Q rest (a.put o.dst (.agg (rf n b).toArray)) W) : wpList Try.prog ops Q (o :: rest) a W :=
  wpList_load_row hgd rT x ho g hx rT (rf n b).toArray (0, 0) _ hb Try.underlying30 rfl (by rw [info65]; simp [rf]) h
theorem build_rf (cs : Array Value) (parts : Array (Nat × Operand)) (hg : o.guard = none) (ho : o.op = .build rT parts) (hf : Try.prog.built rT (parts.map fun (i, x) => (i, a.eval x)).toList = some cs)
    (h : wpList Try.prog ops Q rest (a.put o.dst (.agg cs)) W) : wpList Try.prog ops Q (o :: rest) a W :=
  wpList_build hg rT parts ho (by rw [hf]; rfl) (by rw [hf]; exact h)
end
theorem built0 : Try.prog.built rT [] = some (rf 0 0).toArray := by kernel_rfl
theorem builtn (n : Nat) : Try.prog.built rT [(0, Value.int .i64 (n : Int))] = some (rf n 0).toArray := by kernel_rfl

set_option maxRecDepth 100000 in
set_option maxHeartbeats 2000000 in
theorem rnew_any (n : Int) (w : World) :
    Calls Try.prog 12 #[.int .i64 n] w fun e w' => e = .returned (.agg (rf (newOf n) 0).toArray) ∧ Below w.heap.size w w' := by
  have hz := run_zero65
  have HR : Hid (RB (w.alloc (.cells (rf 0 0).toArray rT)) w.heap.size 0 0) := Lib.hid (Blk.new w _ _)
  have HB : Hid (Below w.heap.size w (w.alloc (.cells (rf 0 0).toArray rT))) := Lib.hid ((Below.refl _ _).alloc (Nat.le_refl _) _)
  by_cases h0 : n < 0
  · have k0 : decide (n < 0) = true := decide_eq_true h0
    have e : newOf n = 0 := by unfold newOf; rw [if_pos (.inl h0)]
    rw [e]
    go_enter Try.func12, Try.ntmps12
    go_upto_region 2 with fail
    refine wp_region_lit (l := [_, _]) ?_
    refine build_rf (rf 0 0).toArray #[] rfl rfl (by kernel_rfl) ?_
    refine store_rf 0 0 HR.out rfl (.tmp 2) (.tmp 9) rfl rfl rfl ?_
    intro w2 hr2 hu2
    have HR2 := Lib.hid hr2; have HU2 := Lib.hid hu2
    clear hr2 hu2
    go_wp2
    refine ret_cell (k := 2) (by kernel_rfl) rfl rfl HR2.out (by kernel_rfl) (by rw [info65]; simp [rf]) ⟨rfl, HB.out.trans (HU2.out.below HB.out.size (fun k hk => by rw [hk]; exact Nat.le_refl _))⟩
  have k0 : decide (n < 0) = false := decide_eq_false h0
  by_cases h1 : 64 < n
  · have k1 : decide (64 < n) = true := decide_eq_true h1
    have e : newOf n = 0 := by unfold newOf; rw [if_pos (.inr h1)]
    rw [e]
    go_enter Try.func12, Try.ntmps12
    go_upto_region 2 with fail
    refine wp_region_lit (l := [_, _]) ?_
    refine build_rf (rf 0 0).toArray #[] rfl rfl (by kernel_rfl) ?_
    refine store_rf 0 0 HR.out rfl (.tmp 2) (.tmp 9) rfl rfl rfl ?_
    intro w2 hr2 hu2
    have HR2 := Lib.hid hr2; have HU2 := Lib.hid hu2
    clear hr2 hu2
    go_wp2
    refine ret_cell (k := 2) (by kernel_rfl) rfl rfl HR2.out (by kernel_rfl) (by rw [info65]; simp [rf]) ⟨rfl, HB.out.trans (HU2.out.below HB.out.size (fun k hk => by rw [hk]; exact Nat.le_refl _))⟩
  · have k1 : decide (64 < n) = false := decide_eq_false h1
    obtain ⟨m, rfl⟩ : ∃ m : Nat, n = m := ⟨n.toNat, by omega⟩
    have e : newOf (m : Int) = m := by unfold newOf; rw [if_neg (by omega)]; omega
    rw [e]
    go_enter Try.func12, Try.ntmps12
    go_upto_region 3 with fail
    refine wp_region_lit (l := [_, _, _]) ?_
    refine wpList_plain rfl fun _ hK => ?_
    go_simp
    refine hK _ _ ?_
    refine build_rf (rf m 0).toArray #[(0, .tmp 10)] rfl rfl (by kernel_rfl) ?_
    refine store_rf m 0 HR.out rfl (.tmp 2) (.tmp 11) rfl rfl rfl ?_
    intro w2 hr2 hu2
    have HR2 := Lib.hid hr2; have HU2 := Lib.hid hu2
    clear hr2 hu2
    go_wp2
    refine ret_cell (k := 2) (by kernel_rfl) rfl rfl HR2.out (by kernel_rfl) (by rw [info65]; simp [rf]) ⟨rfl, HB.out.trans (HU2.out.below HB.out.size (fun k hk => by rw [hk]; exact Nat.le_refl _))⟩

end Go.Proofs.Ytlgmomjofhbggaa
