/- Shared words for this seat's walks: what a slice's cells read as, and small laws on them. No condition. -/
import Derived.WalkKit
import Derived.Below
import Derived.Lib.Hide
import Derived.Maps.AppendAt
import Derived.Deep.AppendLies
set_option linter.unusedVariables false
set_option linter.unusedSimpArgs false
namespace Go.Proofs.YtjjdefkaohbmjaaDoor
open Go.RowKit

theorem ret_bool {a b : Bool} (h : a = b) : Ending.returned (.bool a) = .returned (.bool b) := by rw [h]
theorem ret_int {k : IntKind} {a b : Int} (h : a = b) : Ending.returned (.int k a) = .returned (.int k b) := by rw [h]
theorem setc {w : World} {a : Addr} {k : IntKind} {x y : Int} (h : x = y) : w.setCell a (.int k x) = w.setCell a (.int k y) := by rw [h]

/-- From address A on the cells hold cs, one by one. -/
def Rd (w : World) (A : Option Addr) (cs : List Value) : Prop :=
  cs ≠ [] → ∃ b o, A = some ⟨b, o, none⟩ ∧ ∀ j v, cs[j]? = some v → w.cell? ⟨b, o + j, none⟩ = some v

theorem Rd.nil (w : World) (A : Option Addr) : Rd w A [] := fun h => absurd rfl h

theorem Rd.below {w w' : World} {A : Option Addr} {cs : List Value} (h : Rd w A cs) (hb : Below w.heap.size w w') : Rd w' A cs := by
  intro hne
  obtain ⟨b, o, e, hc⟩ := h hne
  refine ⟨b, o, e, fun j v hv => ?_⟩
  have := hc j v hv
  rw [hb.cell (World.block_lt_of_cell? w _ this)]
  exact this

theorem set_same {w : World} {a : Addr} {u : Value} (h : w.cell? a = some u) (v : Value) : (w.setCell a v).cell? a = some v :=
  World.cell?_setCell_same' w a v (by rw [h]; rfl)
theorem set_far {w : World} {a b : Addr} (h : a.block ≠ b.block) (v : Value) : (w.setCell a v).cell? b = w.cell? b :=
  World.cell?_setCell_other _ _ _ _ (fun e => h (by rw [e]))
/-- What stands from a place on. -/
theorem Rd.drop {w : World} {A : Option Addr} {cs : List Value} (h : Rd w A cs) (p : Nat) : Rd w (A.map fun x => x.add p) (cs.drop p) := by
  intro hne
  have hne' : cs ≠ [] := by intro e; rw [e] at hne; simp at hne
  obtain ⟨b, o, e, hc⟩ := h hne'
  refine ⟨b, o + p, ?_, fun j v hv => ?_⟩
  · rw [e]
    simp only [Option.map_some, Addr.add]
    split <;> simp_all
  · rw [List.getElem?_drop] at hv
    have := hc _ _ hv
    rwa [← Nat.add_assoc] at this
theorem Rd.take {w : World} {A : Option Addr} {cs : List Value} (h : Rd w A cs) (q : Nat) : Rd w A (cs.take q) := by
  intro hne
  have hne' : cs ≠ [] := by intro e; rw [e] at hne; simp at hne
  obtain ⟨b, o, e, hc⟩ := h hne'
  refine ⟨b, o, e, fun j v hv => hc j v ?_⟩
  rw [List.getElem?_take] at hv
  split at hv
  · exact hv
  · cases hv
theorem Rd.at_ {w : World} {A : Option Addr} {α : Type} {f : α → Value} {xs : List α} (h : Rd w A (xs.map f)) (k : Nat) (hk : k < xs.length) :
    ∃ b o, A = some ⟨b, o, none⟩ ∧ w.cell? ⟨b, o + k, none⟩ = some (f xs[k]) := by
  obtain ⟨b, o, e, hc⟩ := h (by intro e; have := congrArg List.length e; simp at this; rw [this] at hk; simp at hk)
  exact ⟨b, o, e, hc k _ (by simp [List.getElem?_eq_getElem hk])⟩

/-- A block that was just laid reads as its cells. -/
theorem Rd.lit {W : World} {b : Nat} (hb : W.heap.size = b) (cs : Array Value) (T : TypeId) : Rd (W.alloc (.cells cs T)) (some ⟨b, 0, none⟩) cs.toList := by
  intro _
  refine ⟨b, 0, rfl, fun j v hv => ?_⟩
  subst hb
  have h : (W.alloc (.cells cs T)).heap[W.heap.size]? = some (.cells cs T (0, 0)) := heap_alloc_new W _
  simp only [World.cell?, h, Nat.zero_add]
  simpa using hv

/-- A cell of a row of bools. -/
theorem Rd.bool {w : World} {A : Option Addr} {xs : List Bool} (h : Rd w A (xs.map Value.bool)) (k : Nat) (hk : k < xs.length) :
    ∃ b o, A = some ⟨b, o, none⟩ ∧ w.cell? ⟨b, o + k, none⟩ = some (.bool xs[k]) := by
  obtain ⟨b, o, e, hc⟩ := h (by intro e; have := congrArg List.length e; simp at this; rw [this] at hk; simp at hk)
  exact ⟨b, o, e, hc k _ (by simp [List.getElem?_eq_getElem hk])⟩

/-- What is owned reads as its cells. -/
theorem own_rd {w : World} {base n sz : Nat} {e : TypeId} {v : Value} {xs : List Value} (h : w.ownsRow base e sz v n xs) : ∃ A c, v = .slice A n c ∧ n ≤ c ∧ Rd w A xs := by
  rcases h.2 with ⟨rfl, rfl⟩ | ⟨g, cap, cur, rfl, hb, hh, hn, _⟩
  · have : xs = [] := List.eq_nil_of_length_eq_zero (by simpa using h.1)
    subst this
    exact ⟨none, 0, rfl, Nat.le_refl _, Rd.nil _ _⟩
  · refine ⟨some ⟨g, 0, none⟩, cap, rfl, hn, fun _ => ⟨g, 0, rfl, fun j u hu => ?_⟩⟩
    have := h.cells (g := g) rfl j u hu
    rwa [show (⟨g, 0, none⟩ : Addr).add j = ⟨g, 0 + j, none⟩ by unfold Addr.add; split <;> simp_all] at this

section
variable {P : Program} {ops : Array Oper} {rest : List Oper} {o : Oper} {a : Act} {Q : Exit → Act → World → Prop} {W : World}

/-- append(v, x) of one element of sz cells: behind at_builtin. -/
theorem app1 (base : Nat) (t e : TypeId) (z : Value) (sz bytes : Nat) (news : List Value) {v : Value} {n : Nat} {xs : List Value}
    (HO : W.ownsRow base e sz v n xs) (hbase : base ≤ W.heap.size) (hl : (n + 1) * bytes ≤ 140737488355328)
    (ht : P.underlying t = some (.slice e)) (hinfo : (P.info? e).map (fun i => (i.zero, i.size, i.bytes)) = some (some z, sz, bytes)) (hz : z.cells.size = sz) (hsz : 0 < sz) (hb0 : 0 < bytes)
    (hnl : news.length = sz) (h1 : ∀ u ∈ news, u.oneCell' = true)
    (s x : Operand) (hgd : o.guard = none) (ho : o.op = .call { callee := .builtin .append, args := #[s, x], argTypes := #[t, t] })
    (hs : a.eval s = v) (hx : a.eval x = .slice (some ⟨W.heap.size, 0, none⟩) 1 1)
    (h : ∀ v1 w1, w1.ownsRow base e sz v1 (n + 1) (xs ++ news) → W.grownBy w1 v.ownBlock → (v1.ownBlock = v.ownBlock ∨ ∃ b, v1.ownBlock = some b ∧ W.heap.size ≤ b) → wpList P ops Q rest (a.put o.dst v1) w1) :
    wpList P ops Q (o :: rest) a (W.alloc (.cells news.toArray e)) := by
  obtain ⟨i0, hi, hzz⟩ := Option.map_eq_some_iff.1 hinfo
  simp only [Prod.mk.injEq] at hzz
  obtain ⟨hz0, hz1, hz2⟩ := hzz
  have hlen : n + 1 ≤ 140737488355328 := Nat.le_trans (Nat.le_mul_of_pos_right _ hb0) hl
  refine wpList_append_own_at (W.alloc (.cells news.toArray e)) hgd s x t ho base e i0 z sz bytes ht hi hz0 hz1 hz2 hz hsz v n xs hs (HO.alloc _) ⟨W.heap.size, 0, none⟩ 1 1 news hx (by omega)
    (World.news_of_block (cs := news.toArray) (t := e) (fr := (0, 0)) (heap_alloc_new W _)) h1 (by simp only [maxLen]; omega) hl (by simp; omega) ?_
  intro v1 w1 hown hg _ hat
  refine h v1 w1 hown (World.grownBy.trans (World.grownBy_alloc W _ _) hg) ?_
  rcases hat with hat | hat
  · exact .inl hat
  · exact .inr ⟨_, hat, by simp⟩
end

end Go.Proofs.YtjjdefkaohbmjaaDoor
