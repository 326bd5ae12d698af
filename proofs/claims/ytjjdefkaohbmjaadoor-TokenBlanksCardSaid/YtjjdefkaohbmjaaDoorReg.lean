/- A region that draws its order, walked in few ways: what only reads is taken first, also where the operation that is behind all of that writes what was read. No condition. -/
import Derived.Deep.RegionHeld3
set_option linter.unusedVariables false
set_option linter.unusedSimpArgs false
namespace Go.Proofs.YtjjdefkaohbmjaaDoor

section
variable {P : Program} {ops : Array Oper} {Q : Exit → Act → World → Prop} {md : Region.Mode} {S : World → Prop} {j0 : Nat}

/-- Operation j waits for i. -/
def waits (md : Region.Mode) (ops : Array Oper) (j i : Nat) : Bool := ((ops[j]?).map fun o => o.after.any fun e => Region.binds md e && e.on == i).getD false
/-- Operation j waits for i over those of a list. -/
def reach (md : Region.Mode) (ops : Array Oper) : List Nat → Nat → Nat → Bool
  | [], j, i => waits md ops j i
  | k :: p, j, i => waits md ops j k && reach md ops p k i
/-- Whatever has come up, what it waited for has, too. -/
def Closed (md : Region.Mode) (ops : Array Oper) (listed : Array Bool) : Prop :=
  ∀ j o, ops[j]? = some o → listed.getD j true = true → ∀ e ∈ o.after, Region.binds md e = true → listed.getD e.on false = true
def closedB (md : Region.Mode) (ops : Array Oper) (listed : Array Bool) : Bool :=
  (List.range ops.size).all fun j => match ops[j]? with
    | some o => !listed.getD j true || o.after.all fun e => !Region.binds md e || listed.getD e.on false
    | none => true
theorem closedB_spec {listed : Array Bool} (h : closedB md ops listed = true) : Closed md ops listed := by
  intro j o ho hj e he hb
  simp only [closedB, List.all_eq_true, List.mem_range] at h
  have h1 := h j (Array.getElem?_eq_some_iff.1 ho).1
  rw [ho] at h1
  simp only [hj, Bool.not_true, Bool.false_or, Array.all_eq_true_iff_forall_mem] at h1
  have := h1 e he
  simpa [hb] using this
theorem Closed.set {listed : Array Bool} (h : Closed md ops listed) {j : Nat} (hj : j ∈ Region.ready md ops listed) : Closed md ops (listed.setIfInBounds j true) := by
  intro k o ho hk e he hb
  by_cases hjk : j = k
  · subst hjk
    obtain ⟨_, o', ho', hall⟩ := mem_ready.1 hj
    rw [ho] at ho'
    cases ho'
    exact getD_set_true (hall e he hb)
  · rw [getD_set_ne true hjk] at hk
    exact getD_set_true (h k o ho hk e he hb)
theorem getD_tf {listed : Array Bool} {j : Nat} (h : listed.getD j true = false) : listed.getD j false = false := by
  rcases Nat.lt_or_ge j listed.size with h' | h'
  · simp [h'] at h ⊢; exact h
  · simp [Array.getElem?_eq_none h'] at h
theorem waits_un {listed : Array Bool} {j i : Nat} (hc : Closed md ops listed) (hw : waits md ops j i = true) (hi : listed.getD i false = false) : listed.getD j true = false ∧ j ∉ Region.ready md ops listed := by
  unfold waits at hw
  cases ho : ops[j]? with
  | none => rw [ho] at hw; cases hw
  | some o =>
    rw [ho] at hw
    simp only [Option.map_some, Option.getD_some] at hw
    obtain ⟨e, he, hb⟩ := Array.any_eq_true'.1 hw
    simp only [Bool.and_eq_true, beq_iff_eq] at hb
    refine ⟨?_, fun hr => ?_⟩
    · cases hl : listed.getD j true with
      | false => rfl
      | true =>
        have := hc j o ho hl e he hb.1
        rw [hb.2, hi] at this
        cases this
    · obtain ⟨_, o', ho', hall⟩ := mem_ready.1 hr
      rw [ho] at ho'
      cases ho'
      have := hall e he hb.1
      rw [hb.2, hi] at this
      cases this
theorem reach_un {listed : Array Bool} (hc : Closed md ops listed) {i : Nat} (hi : listed.getD i false = false) : ∀ (p : List Nat) (j : Nat), reach md ops p j i = true → listed.getD j true = false ∧ j ∉ Region.ready md ops listed
  | [], j, h => waits_un hc h hi
  | k :: p, j, h => by
    simp only [reach, Bool.and_eq_true] at h
    exact waits_un hc h.1 (getD_tf (reach_un hc hi p k h.2).1)

/-- Whatever order is picked from here on; S holds behind each operation till j0 has come up. -/
def wpAnyL (P : Program) (md : Region.Mode) (ops : Array Oper) (Q : Exit → Act → World → Prop) (S : World → Prop) (j0 : Nat) : Nat → Array Bool → Act → World → Prop
  | 0, listed, a, w => Region.ready md ops listed = [] ∧ Q .normal a w
  | fuel + 1, listed, a, w =>
    (Region.ready md ops listed = [] → Q .normal a w) ∧
    ∀ i ∈ Region.ready md ops listed, wpOp P ops Q i (fun a' w' => (i ≠ j0 → listed.getD j0 false = false → S w') ∧ wpAnyL P md ops Q S j0 fuel (listed.setIfInBounds i true) a' w') a w

theorem wpAny_of_L : ∀ (fuel : Nat) (listed : Array Bool) (a : Act) (w : World), wpAnyL P md ops Q S j0 fuel listed a w → wpAny P md ops Q fuel listed a w
  | 0, _, _, _, h => h
  | fuel + 1, _, _, _, h => ⟨h.1, fun i hi => wpOp_mono (fun a' w' h' => wpAny_of_L fuel _ a' w' h'.2) (h.2 i hi)⟩

theorem wpAnyL_first {i : Nat} {oi : Oper} {v : Value} (hi : ops[i]? = some oi) (hsel : ∀ (j : Nat) (o : Oper) cs b, ops[j]? = some o → o.op ≠ .select cs b)
    (hQ : ∀ c a w, Q (.panic c) (a.put oi.dst v) w → Q (.panic c) a w) (h0 : ops.size ≤ j0 ∨ ∃ p, reach md ops p j0 i = true) :
    ∀ (fuel : Nat) (listed : Array Bool) (a : Act) (w : World),
      (∀ j oj, ops[j]? = some oj → j ≠ i → listed.getD j true = false → (∀ e ∈ oj.after, Region.binds md e = true → e.on ≠ i) → oi.apart ops oj = true) →
      Closed md ops listed → listed.getD j0 false = false → i ∈ Region.ready md ops listed → YieldsIf P ops S oi v a → S w →
      wpAnyL P md ops Q S j0 fuel (listed.setIfInBounds i true) (a.put oi.dst v) w → wpAnyL P md ops Q S j0 (fuel + 1) listed a w := by
  have key : ∀ (listed : Array Bool) (j : Nat), Closed md ops listed → i ∈ Region.ready md ops listed → j ∈ Region.ready md ops listed → j ≠ j0 := by
    intro listed j hc hr hj e
    subst e
    rcases h0 with h0 | ⟨p, h0⟩
    · obtain ⟨_, o, ho, _⟩ := mem_ready.1 hj
      have := (Array.getElem?_eq_some_iff.1 ho).1
      omega
    · exact (reach_un hc (getD_tf (mem_ready.1 hr).1) p j h0).2 hj
  intro fuel
  induction fuel with
  | zero =>
    intro listed a w _ hc hl hr hy hS H
    refine ⟨fun h => (by rw [h] at hr; cases hr), fun j hj => ?_⟩
    by_cases hji : j = i
    · subst hji; exact hy.wpOp hi hS ⟨fun _ _ => hS, H⟩
    · have := ready_mono hj hji
      rw [H.1] at this
      cases this
  | succ fuel ih =>
    intro listed a w hfree hc hl hr hy hS H
    refine ⟨fun h => (by rw [h] at hr; cases hr), fun j hj => ?_⟩
    by_cases hji : j = i
    · subst hji; exact hy.wpOp hi hS ⟨fun _ _ => hS, H⟩
    · have h1 := H.2 j (ready_mono hj hji)
      obtain ⟨hjun, oj, hoj, hall⟩ := mem_ready.1 hj
      have hij0 := key listed i hc hr hr
      have hjj0 := key listed j hc hr hj
      have hnot : ∀ e ∈ oj.after, Region.binds md e = true → e.on ≠ i := fun e he hb heq => by
        have h1 := hall e he hb
        rw [heq, getD_tf (mem_ready.1 hr).1] at h1
        cases h1
      have h2 := wpOp_putIf hoj (hfree j oj hoj hji hjun hnot) (fun cs b => hsel i oi cs b hi) (fun cs b => hsel j oj cs b hoj) hQ hy h1
      have hfree' : ∀ k ok, ops[k]? = some ok → k ≠ i → (listed.setIfInBounds j true).getD k true = false →
          (∀ e ∈ ok.after, Region.binds md e = true → e.on ≠ i) → oi.apart ops ok = true := fun k ok hk hki hun hno => by
        refine hfree k ok hk hki ?_ hno
        by_cases hjk : j = k
        · subst hjk; exact hjun
        · rw [getD_set_ne true hjk] at hun; exact hun
      refine wpOp_mono (fun a' w' h3 => ?_) h2
      have hS' : S w' := h3.2.1 hjj0 (by rw [getD_set_ne false hij0]; exact hl)
      refine ⟨fun _ _ => hS', ih (listed.setIfInBounds j true) a' w' hfree' (hc.set hj) (by rw [getD_set_ne false hjj0]; exact hl) (ready_mono hr (Ne.symm hji)) h3.1 hS' ?_⟩
      rw [Array.setIfInBounds_comm _ _ hji]
      exact h3.2.2

/-- The next of the drawn choices is the slot with number d. -/
theorem reg_take {i d : Nat} {oi : Oper} {v : Value} {fuel : Nat} {listed : Array Bool} {ts : Array Value} {ds : List Deferred} {w : World} (p : List Nat) (hi : ops[i]? = some oi) (hd : oi.dst = some d)
    (hs : Region.noSelect ops = true) (hf : (Region.free md ops listed i && (Region.ready md ops listed).contains i && closedB md ops listed && !listed.getD j0 false && (decide (ops.size ≤ j0) || reach md ops p j0 i)) = true)
    (hQ : ∀ c a w, Q (.panic c) (a.put oi.dst v) w → Q (.panic c) a w) (hy : YieldsIf P ops S oi v ⟨ts, ds⟩) (hS : S w)
    (h : wpAnyL P md ops Q S j0 fuel (listed.setIfInBounds i true) ⟨ts.setIfInBounds d v, ds⟩ w) : wpAnyL P md ops Q S j0 (fuel + 1) listed ⟨ts, ds⟩ w := by
  simp only [Bool.and_eq_true, Bool.or_eq_true, decide_eq_true_eq, Bool.not_eq_true'] at hf
  obtain ⟨⟨⟨⟨h1, h2⟩, h3⟩, h4⟩, h5⟩ := hf
  exact wpAnyL_first hi (Region.noSelect_spec hs) hQ (h5.imp id fun h => ⟨p, h⟩) fuel listed _ w (Region.free_spec hi h1) (closedB_spec h3) h4 (by simpa using h2) hy hS (by rw [hd]; exact h)

/-- Each of the operations rs comes up next. -/
def AllL (P : Program) (md : Region.Mode) (ops : Array Oper) (Q : Exit → Act → World → Prop) (S : World → Prop) (j0 : Nat) (fuel : Nat) (listed : Array Bool) (a : Act) (w : World) (rs : List Nat) : Prop :=
  ∀ i ∈ rs, wpOp P ops Q i (fun a' w' => (i ≠ j0 → listed.getD j0 false = false → S w') ∧ wpAnyL P md ops Q S j0 fuel (listed.setIfInBounds i true) a' w') a w
theorem AllL.nil {fuel : Nat} {listed : Array Bool} {a : Act} {w : World} : AllL P md ops Q S j0 fuel listed a w [] := fun _ h => by cases h
/-- One that is not j0: behind it S is shown anew. -/
theorem AllL.cons {fuel : Nat} {listed : Array Bool} {a : Act} {w : World} {i : Nat} {o : Oper} {rs : List Nat} (ho : ops[i]? = some o)
    (h : ∀ K' : Act → World → Prop, Shut (∀ a w, S w → (S w → wpAnyL P md ops Q S j0 fuel (listed.setIfInBounds i true) a w) → K' a w) → if Region.wanted o (yielded ops a.tmps) = true then Oper.wp P o a w K' Q else K' (a.put o.dst undef) w)
    (hs : AllL P md ops Q S j0 fuel listed a w rs) : AllL P md ops Q S j0 fuel listed a w (i :: rs) := fun j hj => by
  rcases List.mem_cons.1 hj with rfl | hj
  · exact wpOp_step ho (fun K' hK => h K' (fun a w hS hW => hK a w ⟨fun _ _ => hS, hW hS⟩))
  · exact hs j hj
/-- j0, or one behind it. -/
theorem AllL.consJ {fuel : Nat} {listed : Array Bool} {a : Act} {w : World} {i : Nat} {o : Oper} {rs : List Nat} (ho : ops[i]? = some o) (hj0 : (i == j0 || listed.getD j0 false) = true)
    (h : ∀ K' : Act → World → Prop, Shut (∀ a w, wpAnyL P md ops Q S j0 fuel (listed.setIfInBounds i true) a w → K' a w) → if Region.wanted o (yielded ops a.tmps) = true then Oper.wp P o a w K' Q else K' (a.put o.dst undef) w)
    (hs : AllL P md ops Q S j0 fuel listed a w rs) : AllL P md ops Q S j0 fuel listed a w (i :: rs) := fun j hj => by
  rcases List.mem_cons.1 hj with rfl | hj
  · refine wpOp_step ho (fun K' hK => h K' (fun a w hW => hK a w ⟨fun h1 h2 => ?_, hW⟩))
    rw [h2] at hj0
    simp at hj0
    exact absurd hj0 h1
  · exact hs j hj
theorem wpAnyL_ready {rs : List Nat} {fuel : Nat} {listed : Array Bool} {a : Act} {w : World} (hr : Region.ready md ops listed = rs) (hne : rs.isEmpty = false)
    (h : AllL P md ops Q S j0 fuel listed a w rs) : wpAnyL P md ops Q S j0 (fuel + 1) listed a w :=
  ⟨fun h0 => by (rw [h0] at hr; subst hr; cases hne), hr ▸ h⟩
theorem wpAnyL_done {listed : Array Bool} {a : Act} {w : World} (hr : Region.ready md ops listed = []) (h : Q .normal a w) :
    ∀ fuel, wpAnyL P md ops Q S j0 fuel listed a w
  | 0 => ⟨hr, h⟩
  | _ + 1 => ⟨fun _ => h, by rw [hr]; simp⟩
/-- The beginning. -/
theorem wp_region_L {id : Nat} {a : Act} {w : World} (S : World → Prop) (j0 : Nat) (hm : P.follows .mixedOrders = true) (hS : S w.drew)
    (h : S w.drew → wpAnyL P .any ops Q S j0 ops.size (Array.replicate ops.size false) a w.drew) : (Code.region id ops true).wp P Q a w :=
  wp_region_any hm (wpAny_of_L _ _ _ _ (h hS))
end
end Go.Proofs.YtjjdefkaohbmjaaDoor
