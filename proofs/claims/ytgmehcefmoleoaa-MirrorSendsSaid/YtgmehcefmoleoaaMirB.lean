/- The walk of MirrorBase. No condition but the row's own. -/
import Derived.Test.YtgmehcefmoleoaaMirS
import Derived.Test.YtgmehcefmoleoaaMirA
import Derived.Deep.LoopGhost
import Derived.Deep.DeepCutAuto
import Derived.Deep.RegionHeld3
set_option linter.unusedVariables false
set_option linter.unusedSimpArgs false
namespace Go.Proofs.Ytgmehcefmoleoaa
open Go.RowKit

theorem own_some {w : World} {base n sz : Nat} {e : TypeId} {v : Value} {xs : List Value} (h : w.ownsRow base e sz v n xs) (hn : 0 < n) : ∃ g c, v = .slice (some ⟨g, 0, none⟩) n c := by
  rcases h.2 with ⟨_, h0⟩ | ⟨g, cap, cur, rfl, _⟩
  · omega
  · exact ⟨g, cap, rfl⟩
theorem own_rdg {w : World} {base n sz : Nat} {e : TypeId} {g c : Nat} {xs : List Value} (h : w.ownsRow base e sz (.slice (some ⟨g, 0, none⟩) n c) n xs) : Rd w (some ⟨g, 0, none⟩) xs := by
  obtain ⟨A, c', he, _, hr⟩ := own_rd h
  simp only [Value.slice.injEq, true_and] at he
  rw [he.1]; exact hr

/-- An act. -/
structure BAct where
  kind : Int
  n : Int
  x : Item
def BAct.cells (a : BAct) : List Value := [.int .i64 a.kind, .int .i64 a.n] ++ a.x.cells
def BAct.ok (a : BAct) : Prop := (-9223372036854775808 ≤ a.kind ∧ a.kind ≤ 9223372036854775807) ∧ (-9223372036854775808 ≤ a.n ∧ a.n ≤ 9223372036854775807) ∧ a.x.ok
def flatA (l : List BAct) : List Value := (l.map BAct.cells).flatten
theorem flatA_get : ∀ (l : List BAct) (k j : Nat) (hk : k < l.length), j < 7 → (flatA l)[k * 7 + j]? = (l[k].cells)[j]?
  | [], k, j, hk, _ => by simp at hk
  | x :: l, 0, j, _, hj => by
    show (x.cells ++ flatA l)[0 * 7 + j]? = _
    rw [List.getElem?_append_left (by simp [BAct.cells, Item.cells]; omega)]
    simp
  | x :: l, k + 1, j, hk, hj => by
    show (x.cells ++ flatA l)[(k + 1) * 7 + j]? = _
    rw [List.getElem?_append_right (by simp [BAct.cells, Item.cells]; omega)]
    rw [show (k + 1) * 7 + j - x.cells.length = k * 7 + j by simp [BAct.cells, Item.cells]; omega]
    exact flatA_get l k j (by simpa using hk) hj
theorem flatA_length (l : List BAct) : (flatA l).length = l.length * 7 := by
  induction l with
  | nil => rfl
  | cons x l ih =>
    show (x.cells ++ flatA l).length = _
    rw [List.length_append, ih]
    simp [BAct.cells, Item.cells]; omega
theorem is_act {w : World} {cs : List Value} (h : Sh.Is w (.pair (.int .i64) (.pair (.int .i64) (.pair (.pair (.int .i64) (.pair (.int .i64) (.pair .str (.pair (.int .i64) (.pair (.int .i64) .unit))))) .unit))) cs) : ∃ a : BAct, cs = a.cells ∧ a.ok := by
  obtain ⟨_, _, rfl, ⟨a, rfl, ha⟩, _, _, rfl, ⟨b, rfl, hb⟩, _, _, rfl, hx, rfl⟩ := h
  obtain ⟨x, rfl, hx'⟩ := is_item hx
  exact ⟨⟨a, b, x⟩, by simp [BAct.cells], bd_i64 ha, bd_i64 hb, hx'⟩
theorem is_acts {w : World} {A : Option Addr} {n c by_ : Nat} (h : Sh.Is w (.slice by_ (.pair (.int .i64) (.pair (.int .i64) (.pair (.pair (.int .i64) (.pair (.int .i64) (.pair .str (.pair (.int .i64) (.pair (.int .i64) .unit))))) .unit)))) [.slice A n c]) :
    ∃ xs : List BAct, xs.length = n ∧ Rd w A (flatA xs) ∧ ∀ x ∈ xs, x.ok := by
  obtain ⟨A', n', c', els, he, hl, hnc, hc, hr, hel⟩ := h
  simp only [List.cons.injEq, Value.slice.injEq, and_true] at he
  obtain ⟨rfl, rfl, rfl⟩ := he
  obtain ⟨ys, rfl, has⟩ := exists_map (f := BAct.cells) (p := BAct.ok) els (fun el hel' => is_act (hel el hel').2)
  exact ⟨ys, by simpa using hl, hr, has⟩
theorem Rd.act {w : World} {A : Option Addr} {xs : List BAct} (h : Rd w A (flatA xs)) (k : Nat) (hk : k < xs.length) :
    ∃ b o, A = some ⟨b, o, none⟩ ∧ w.cell? ⟨b, o + k * 7, none⟩ = some (.int .i64 xs[k].kind) ∧ w.cell? ⟨b, o + k * 7 + 1, none⟩ = some (.int .i64 xs[k].n) ∧ w.cell? ⟨b, o + k * 7 + 2, none⟩ = some (.int .i64 xs[k].x.seq) ∧ w.cell? ⟨b, o + k * 7 + 3, none⟩ = some (.int .i64 xs[k].x.blk) ∧ w.cell? ⟨b, o + k * 7 + 4, none⟩ = some (.string xs[k].x.data) ∧ w.cell? ⟨b, o + k * 7 + 5, none⟩ = some (.int .i64 xs[k].x.cl) ∧ w.cell? ⟨b, o + k * 7 + 6, none⟩ = some (.int .i64 xs[k].x.n) := by
  obtain ⟨b, o, e, rc⟩ := h (by intro e; have := flatA_length xs; rw [e] at this; simp at this; omega)
  exact ⟨b, o, e, rc (k * 7 + 0) _ (flatA_get xs k 0 hk (by decide)), rc (k * 7 + 1) _ (flatA_get xs k 1 hk (by decide)), rc (k * 7 + 2) _ (flatA_get xs k 2 hk (by decide)), rc (k * 7 + 3) _ (flatA_get xs k 3 hk (by decide)), rc (k * 7 + 4) _ (flatA_get xs k 4 hk (by decide)), rc (k * 7 + 5) _ (flatA_get xs k 5 hk (by decide)), rc (k * 7 + 6) _ (flatA_get xs k 6 hk (by decide))⟩

/-- Items whose numbers are so much greater. -/
def shift (base : Int) (l : List Item) : List Item := l.map fun x => { x with seq := x.seq + base }
theorem shift_len (base : Int) (l : List Item) : (shift base l).length = l.length := by simp [shift]
theorem shift_drop (base : Int) (l : List Item) (k : Nat) : (shift base l).drop k = shift base (l.drop k) := by simp [shift, List.map_drop]
theorem shift_snoc (base : Int) (l : List Item) (x : Item) : shift base (l ++ [x]) = shift base l ++ [{ x with seq := x.seq + base }] := by simp [shift]
theorem flat_set (l : List Item) (k : Nat) (hk : k < l.length) (s : Int) : (flat l).set (k * 5) (.int .i64 s) = flat (l.set k { l[k] with seq := s }) := by
  induction l generalizing k with
  | nil => simp at hk
  | cons x l ih =>
    cases k with
    | zero => rfl
    | succ k =>
      have h := ih k (by simpa using hk)
      rw [flat_cons, List.set_append_right _ _ (by simp [Item.cells]; omega), show (k + 1) * 5 - x.cells.length = k * 5 by simp [Item.cells]; omega, h]
      rfl

/-- Two senders that have nothing in common. -/
structure Two (w W : World) (ba bb : Nat) (la lb : Value) (l1 : List Item) (a1 : Int) (l2 : List Item) (a2 : Int) : Prop where
  a : Snd W w.heap.size ba la l1 a1
  b : Snd W w.heap.size bb lb l2 a2
  ne : ba ≠ bb
  rr : ∀ g, la.ownBlock = some g → lb.ownBlock ≠ some g
  bel : Below w.heap.size w W
section
variable {w W W1 : World} {ba bb : Nat} {la lb la' lb' : Value} {l1 l2 l1' l2' : List Item} {a1 a2 a1' a2' : Int}
theorem Snd.own_ne_b {B b : Nat} {lv : Value} {l : List Item} {ac : Int} (h : Snd W B b lv l ac) {g : Nat} {v u : Value} (hg : Blk W g #[v, u] 53) : lv.ownBlock ≠ some g :=
  own_ne h.own hg (by decide)
theorem Two.opA (h : Two w W ba bb la lb l1 a1 l2 a2) (S : Snd W1 w.heap.size ba la' l1' a1') (U : Upd (fun k => k = ba ∨ la.ownBlock = some k) W W1) (F : ∀ g, la'.ownBlock = some g → la.ownBlock = some g ∨ W.heap.size ≤ g) : Two w W1 ba bb la' lb l1' a1' l2 a2 :=
  ⟨S, h.b.upd U (fun e => by rcases e with e | e; exact h.ne e.symm; exact h.a.own_ne_b h.b.blk e) (fun g hg e => by rcases e with rfl | e; exact h.b.own_ne_b h.a.blk hg; exact h.rr g e hg), h.ne,
    fun g hg hg2 => by rcases F g hg with e | e; exact h.rr g e hg2; have := (h.b.own.lt g hg2).2; omega, h.bel.trans (h.a.below U)⟩
theorem Two.opB (h : Two w W ba bb la lb l1 a1 l2 a2) (S : Snd W1 w.heap.size bb lb' l2' a2') (U : Upd (fun k => k = bb ∨ lb.ownBlock = some k) W W1) (F : ∀ g, lb'.ownBlock = some g → lb.ownBlock = some g ∨ W.heap.size ≤ g) : Two w W1 ba bb la lb' l1 a1 l2' a2' :=
  ⟨h.a.upd U (fun e => by rcases e with e | e; exact h.ne e; exact h.b.own_ne_b h.a.blk e) (fun g hg e => by rcases e with rfl | e; exact h.a.own_ne_b h.b.blk hg; exact h.rr g hg e), S, h.ne,
    fun g hg hg2 => by rcases F g hg2 with e | e; exact h.rr g hg e; have := (h.a.own.lt g hg).2; omega, h.bel.trans (h.b.below U)⟩
theorem Two.step (h : Two w W ba bb la lb l1 a1 l2 a2) (B : Below W.heap.size W W1) : Two w W1 ba bb la lb l1 a1 l2 a2 :=
  ⟨h.a.of_below B, h.b.of_below B, h.ne, h.rr, h.bel.trans (B.mono h.bel.size)⟩
/-- A block beyond both is not touched. -/
theorem Two.fresh (h : Two w W ba bb la lb l1 a1 l2 a2) {g : Nat} (hg : W.heap.size ≤ g) : g ≠ ba ∧ g ≠ bb ∧ la.ownBlock ≠ some g ∧ lb.ownBlock ≠ some g :=
  ⟨fun e => by have := h.a.blk.lt; omega, fun e => by have := h.b.blk.lt; omega, fun e => by have := (h.a.own.lt g e).2; omega, fun e => by have := (h.b.own.lt g e).2; omega⟩
/-- A write into a block that is none of theirs. -/
theorem Two.other (h : Two w W ba bb la lb l1 a1 l2 a2) {S : Nat → Prop} (U : Upd S W W1) (hS : ∀ k, S k → k ≠ ba ∧ k ≠ bb ∧ la.ownBlock ≠ some k ∧ lb.ownBlock ≠ some k ∧ w.heap.size ≤ k) : Two w W1 ba bb la lb l1 a1 l2 a2 :=
  ⟨h.a.upd U (fun e => (hS _ e).1 rfl) (fun g hg e => (hS g e).2.2.1 hg), h.b.upd U (fun e => (hS _ e).2.1 rfl) (fun g hg e => (hS g e).2.2.2.1 hg), h.ne, h.rr, h.bel.trans (U.below h.bel.size fun k hk => (hS k hk).2.2.2.2)⟩
end
theorem two_new (w W : World) (base : Int) (hB : Below w.heap.size w W) (h0 : 0 ≤ base) (h1 : base ≤ 1099511627776) :
    Two w ((W.alloc (.cells #[.slice none 0 0, .int .i64 base] 53)).alloc (.cells #[.slice none 0 0, .int .i64 0] 53)) W.heap.size (W.heap.size + 1) (.slice none 0 0) (.slice none 0 0) [] base [] 0 :=
  ⟨⟨(Blk.new _ _ _).alloc _, World.ownsRow_nil _ _ _ _, hB.size, h0, by simp; omega⟩, ⟨Blk.new' (by simp) _ _, World.ownsRow_nil _ _ _ _, by have := hB.size; omega, by omega, by simp⟩, by omega, by simp [Value.ownBlock], (hB.alloc hB.size _).alloc (by have := hB.size; simp; omega) _⟩
end Go.Proofs.Ytgmehcefmoleoaa
