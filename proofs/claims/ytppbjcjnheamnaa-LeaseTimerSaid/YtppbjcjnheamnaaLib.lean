/- Shared words for this seat's walks: what a slice's cells read as, and small laws on them. No condition. -/
import Derived.WalkKit
import Derived.Below
import Derived.Lib.Hide
set_option linter.unusedVariables false
set_option linter.unusedSimpArgs false
namespace Go.Proofs.Ytppbjcjnheamnaa
open Go.RowKit

theorem ret_bool {a b : Bool} (h : a = b) : Ending.returned (.bool a) = .returned (.bool b) := by rw [h]
theorem ret_int {k : IntKind} {a b : Int} (h : a = b) : Ending.returned (.int k a) = .returned (.int k b) := by rw [h]
theorem setc {w : World} {a : Addr} {k : IntKind} {x y : Int} (h : x = y) : w.setCell a (.int k x) = w.setCell a (.int k y) := by rw [h]

/-- From address A on the cells hold cs, one by one. -/
def Rd (w : World) (A : Option Addr) (cs : List Value) : Prop :=
  cs ≠ [] → ∃ b o, A = some ⟨b, o, none⟩ ∧ ∀ j v, cs[j]? = some v → w.cell? ⟨b, o + j, none⟩ = some v

theorem Rd.nil (w : World) (A : Option Addr) : Rd w A [] := fun h => absurd rfl h

theorem Rd.below {w w' : World} {A : Option Addr} {cs : List Value} (h : Rd w A cs) (hb : Below w.heap.size w w') : Rd w' A cs := by
  intro hne
  obtain ⟨b, o, e, hc⟩ := h hne
  refine ⟨b, o, e, fun j v hv => ?_⟩
  have := hc j v hv
  rw [hb.cell (World.block_lt_of_cell? w _ this)]
  exact this

theorem set_same {w : World} {a : Addr} {u : Value} (h : w.cell? a = some u) (v : Value) : (w.setCell a v).cell? a = some v :=
  World.cell?_setCell_same' w a v (by rw [h]; rfl)
theorem set_far {w : World} {a b : Addr} (h : a.block ≠ b.block) (v : Value) : (w.setCell a v).cell? b = w.cell? b :=
  World.cell?_setCell_other _ _ _ _ (fun e => h (by rw [e]))
theorem Rd.at_ {w : World} {A : Option Addr} {α : Type} {f : α → Value} {xs : List α} (h : Rd w A (xs.map f)) (k : Nat) (hk : k < xs.length) :
    ∃ b o, A = some ⟨b, o, none⟩ ∧ w.cell? ⟨b, o + k, none⟩ = some (f xs[k]) := by
  obtain ⟨b, o, e, hc⟩ := h (by intro e; have := congrArg List.length e; simp at this; rw [this] at hk; simp at hk)
  exact ⟨b, o, e, hc k _ (by simp [List.getElem?_eq_getElem hk])⟩

/-- A block that was just laid reads as its cells. -/
theorem Rd.lit {W : World} {b : Nat} (hb : W.heap.size = b) (cs : Array Value) (T : TypeId) : Rd (W.alloc (.cells cs T)) (some ⟨b, 0, none⟩) cs.toList := by
  intro _
  refine ⟨b, 0, rfl, fun j v hv => ?_⟩
  subst hb
  have h : (W.alloc (.cells cs T)).heap[W.heap.size]? = some (.cells cs T (0, 0)) := heap_alloc_new W _
  simp only [World.cell?, h, Nat.zero_add]
  simpa using hv

/-- A cell of a row of bools. -/
theorem Rd.bool {w : World} {A : Option Addr} {xs : List Bool} (h : Rd w A (xs.map Value.bool)) (k : Nat) (hk : k < xs.length) :
    ∃ b o, A = some ⟨b, o, none⟩ ∧ w.cell? ⟨b, o + k, none⟩ = some (.bool xs[k]) := by
  obtain ⟨b, o, e, hc⟩ := h (by intro e; have := congrArg List.length e; simp at this; rw [this] at hk; simp at hk)
  exact ⟨b, o, e, hc k _ (by simp [List.getElem?_eq_getElem hk])⟩

end Go.Proofs.Ytppbjcjnheamnaa
