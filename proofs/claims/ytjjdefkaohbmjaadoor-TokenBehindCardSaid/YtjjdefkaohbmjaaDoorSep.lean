/- Things in memory that keep apart: each with the blocks that it owns. No condition. -/
import Derived.Test.YtjjdefkaohbmjaaDoorMem
set_option linter.unusedVariables false
set_option linter.unusedSimpArgs false
namespace Go.Proofs.YtjjdefkaohbmjaaDoor
open Go.RowKit

/-- Something that lies in memory, in blocks of its own. -/
structure Th where
  ok : World → Prop
  fp : Nat → Prop
  lt : ∀ W, ok W → ∀ k, fp k → k < W.heap.size
  keep : ∀ W W', ok W → W.heap.size ≤ W'.heap.size → (∀ k, k < W.heap.size → fp k → W'.heap[k]? = W.heap[k]?) → ok W'

theorem Th.upd {S : Nat → Prop} {W W' : World} (t : Th) (h : t.ok W) (u : Upd S W W') (hs : ∀ k, t.fp k → ¬ S k) : t.ok W' :=
  t.keep W W' h u.size (fun k hk hf => u.block k hk (hs k hf))
theorem Th.below {W W' : World} (t : Th) (h : t.ok W) (b : Below W.heap.size W W') : t.ok W' :=
  t.keep W W' h b.size (fun k hk _ => b.block k hk)

/-- A block that is known whole. -/
def tBlk (b : Nat) (cs : Array Value) (T : TypeId) : Th where
  ok W := Blk W b cs T
  fp k := k = b
  lt W h k e := by subst e; exact h.lt
  keep W W' h _ hk := (hk b h.lt rfl).trans h
/-- A row that is owned. -/
def tRow (e : TypeId) (sz : Nat) (v : Value) (n : Nat) (xs : List Value) : Th where
  ok W := W.ownsRow 0 e sz v n xs
  fp k := v.ownBlock = some k
  lt W h k e := (h.lt k e).2
  keep W W' h _ hk := by
    refine ⟨h.1, ?_⟩
    rcases h.2 with hn | ⟨g, cap, cur, rfl, hb, hh, r⟩
    · exact .inl hn
    · exact .inr ⟨g, cap, cur, rfl, hb, (hk g (Array.getElem?_eq_some_iff.1 hh).1 rfl).trans hh, r⟩
/-- Two things, apart. -/
def tAnd (s t : Th) (h : ∀ k, s.fp k → ¬ t.fp k) : Th where
  ok W := s.ok W ∧ t.ok W
  fp k := s.fp k ∨ t.fp k
  lt W o k e := e.elim (s.lt W o.1 k) (t.lt W o.2 k)
  keep W W' o hl hk := ⟨s.keep W W' o.1 hl fun k h1 h2 => hk k h1 (.inl h2), t.keep W W' o.2 hl fun k h1 h2 => hk k h1 (.inr h2)⟩

/-- Since the world w these have come, and keep apart; nothing that stood in w is touched. -/
structure Sep (w W : World) (l : List Th) : Prop where
  ok : ∀ t ∈ l, t.ok W
  ge : ∀ t ∈ l, ∀ k, t.fp k → w.heap.size ≤ k
  ap : l.Pairwise fun s t => ∀ k, s.fp k → ¬ t.fp k
  bel : Below w.heap.size w W
section
variable {w W W1 : World} {l r : List Th} {t t' : Th}
theorem Sep.nil (w : World) : Sep w w [] := ⟨fun _ h => (by cases h), fun _ h => (by cases h), List.Pairwise.nil, Below.refl _ _⟩
theorem Sep.size (h : Sep w W l) : w.heap.size ≤ W.heap.size := h.bel.size
/-- Nobody's blocks are written. -/
theorem Sep.other {S : Nat → Prop} (h : Sep w W l) (u : Upd S W W1) (hS : ∀ k, k < W.heap.size → S k → w.heap.size ≤ k ∧ ∀ t ∈ l, ¬ t.fp k) : Sep w W1 l :=
  ⟨fun t ht => t.upd (h.ok t ht) (u.mono (T := fun k => S k ∧ k < W.heap.size) fun k hk hs => ⟨hs, hk⟩) (fun k hk hs => (hS k hs.2 hs.1).2 t ht hk), h.ge, h.ap,
    h.bel.trans ((u.mono (T := fun k => S k ∧ k < W.heap.size) fun k hk hs => ⟨hs, hk⟩).below h.size fun k hk => (hS k hk.2 hk.1).1)⟩
theorem Sep.step (h : Sep w W l) (b : Below W.heap.size W W1) : Sep w W1 l :=
  h.other (Upd.of_below (S := fun _ => False) b) (fun _ _ h => h.elim)
theorem Sep.drew (h : Sep w W l) : Sep w W.drew l := h.step ((Below.refl _ _).drew)
theorem Sep.drewN (h : Sep w W l) (n : Nat) : Sep w (W.drewN n) l := h.step ⟨rfl, rfl, rfl, Nat.le_refl _, fun _ _ => rfl⟩
theorem Sep.alloc (h : Sep w W l) (o : Obj) : Sep w (W.alloc o) l := h.step ((Below.refl _ _).alloc (Nat.le_refl _) o)
/-- The first one is done something with. -/
theorem Sep.opc {S : Nat → Prop} (h : Sep w W (t :: l)) (ho : t'.ok W1) (u : Upd S W W1) (hS : ∀ k, k < W.heap.size → S k → t.fp k) (f : ∀ k, t'.fp k → t.fp k ∨ W.heap.size ≤ k) : Sep w W1 (t' :: l) := by
  have h0 := h.ap
  rw [List.pairwise_cons] at h0
  have u' := u.mono (T := fun k => t.fp k) (fun k hk hs => hS k hk hs)
  refine ⟨?_, ?_, ?_, h.bel.trans (u'.below h.size fun k hk => h.ge t (List.mem_cons_self ..) k hk)⟩
  · intro s hs
    rcases List.mem_cons.1 hs with rfl | hs
    · exact ho
    · exact s.upd (h.ok s (List.mem_cons_of_mem _ hs)) u' (fun k hk ht => h0.1 s hs k ht hk)
  · intro s hs k hk
    rcases List.mem_cons.1 hs with rfl | hs
    · rcases f k hk with hk | hk
      · exact h.ge t (List.mem_cons_self ..) k hk
      · exact Nat.le_trans h.size hk
    · exact h.ge s (List.mem_cons_of_mem _ hs) k hk
  · rw [List.pairwise_cons]
    refine ⟨fun s hs k hk hk2 => ?_, h0.2⟩
    rcases f k hk with hk | hk
    · exact h0.1 s hs k hk hk2
    · have := s.lt W (h.ok s (List.mem_cons_of_mem _ hs)) k hk2
      omega
theorem Sep.op (h : Sep w W (t :: l)) (ho : t'.ok W1) (u : Upd t.fp W W1) (f : ∀ k, t'.fp k → t.fp k ∨ W.heap.size ≤ k) : Sep w W1 (t' :: l) := h.opc ho u (fun _ _ h => h) f
/-- A new one comes. -/
theorem Sep.new (h : Sep w W l) (b : Below W.heap.size W W1) (ho : t.ok W1) (f : ∀ k, t.fp k → W.heap.size ≤ k) : Sep w W1 (t :: l) := by
  have h1 := h.step b
  refine ⟨?_, ?_, ?_, h1.bel⟩
  · intro s hs
    rcases List.mem_cons.1 hs with rfl | hs
    · exact ho
    · exact h1.ok s hs
  · intro s hs k hk
    rcases List.mem_cons.1 hs with rfl | hs
    · exact Nat.le_trans h.size (f k hk)
    · exact h1.ge s hs k hk
  · rw [List.pairwise_cons]
    refine ⟨fun s hs k hk hk2 => ?_, h1.ap⟩
    have := s.lt W (h.ok s hs) k hk2
    have := f k hk
    omega
theorem Sep.newBlk (h : Sep w W l) (cs : Array Value) (T : TypeId) {g : Nat} (e : W.heap.size = g) : Sep w (W.alloc (.cells cs T)) (tBlk g cs T :: l) :=
  h.new ((Below.refl _ _).alloc (Nat.le_refl _) _) (Blk.new' e cs T) (fun k hk => by have : k = g := hk; omega)
/-- Those of a list are fewer, or stand otherwise. -/
theorem Sep.perm (h : Sep w W l) (p : l.Perm r) : Sep w W r :=
  ⟨fun t ht => h.ok t (p.mem_iff.2 ht), fun t ht => h.ge t (p.mem_iff.2 ht), (p.pairwise_iff fun h k h1 h2 => h k h2 h1).1 h.ap, h.bel⟩
theorem Sep.sub (h : Sep w W l) (s : List.Sublist r l) : Sep w W r :=
  ⟨fun t ht => h.ok t (s.subset ht), fun t ht => h.ge t (s.subset ht), h.ap.sublist s, h.bel⟩
theorem Sep.tail (h : Sep w W (t :: l)) : Sep w W l := h.sub (List.sublist_cons_self ..)
theorem Sep.hd (h : Sep w W (t :: l)) : t.ok W := h.ok t (List.mem_cons_self ..)
/-- What is one and the same thing by another name. -/
theorem Sep.as (h : Sep w W (t :: l)) (ho : t'.ok W) (f : ∀ k, t'.fp k → t.fp k) : Sep w W (t' :: l) :=
  h.opc (S := fun _ => False) ho (Upd.refl _ _) (fun _ _ h => h.elim) (fun k hk => .inl (f k hk))
theorem Sep.sw (h : Sep w W (t :: t' :: l)) : Sep w W (t' :: t :: l) := h.perm (List.Perm.swap ..)
theorem Sep.r3 {a b c : Th} (h : Sep w W (a :: b :: c :: l)) : Sep w W (c :: a :: b :: l) := h.perm ((List.Perm.cons a (List.Perm.swap c b l)).trans (List.Perm.swap c a _))
theorem Sep.r3' {a b c : Th} (h : Sep w W (a :: b :: c :: l)) : Sep w W (b :: c :: a :: l) := h.perm ((List.Perm.swap b a _).trans (List.Perm.cons b (List.Perm.swap c a l)))
theorem Sep.h2 {a b : Th} (h : Sep w W (a :: b :: l)) : b.ok W := h.tail.hd
theorem Sep.h3 {a b c : Th} (h : Sep w W (a :: b :: c :: l)) : c.ok W := h.tail.tail.hd
theorem Sep.h4 {a b c d : Th} (h : Sep w W (a :: b :: c :: d :: l)) : d.ok W := h.tail.tail.tail.hd
theorem Sep.h5 {a b c d e : Th} (h : Sep w W (a :: b :: c :: d :: e :: l)) : e.ok W := h.tail.tail.tail.tail.hd
theorem Sep.d2 {a b : Th} (h : Sep w W (a :: b :: l)) : Sep w W (a :: l) := h.sub (List.Sublist.cons_cons _ (List.sublist_cons_self ..))
theorem Sep.d3 {a b c : Th} (h : Sep w W (a :: b :: c :: l)) : Sep w W (a :: b :: l) := h.sub (List.Sublist.cons_cons _ (List.Sublist.cons_cons _ (List.sublist_cons_self ..)))
theorem Sep.d4 {a b c d : Th} (h : Sep w W (a :: b :: c :: d :: l)) : Sep w W (a :: b :: c :: l) := h.sub (List.Sublist.cons_cons _ (List.Sublist.cons_cons _ (List.Sublist.cons_cons _ (List.sublist_cons_self ..))))
theorem Sep.r4 {a b c d : Th} (h : Sep w W (a :: b :: c :: d :: l)) : Sep w W (d :: a :: b :: c :: l) := h.perm ((List.Perm.cons a (List.Perm.cons b (List.Perm.swap d c l))).trans ((List.Perm.cons a (List.Perm.swap d b _)).trans (List.Perm.swap d a _)))
theorem Sep.r4' {a b c d : Th} (h : Sep w W (a :: b :: c :: d :: l)) : Sep w W (b :: c :: d :: a :: l) := h.perm ((List.Perm.swap b a _).trans ((List.Perm.cons b (List.Perm.swap c a _)).trans (List.Perm.cons b (List.Perm.cons c (List.Perm.swap d a l)))))
theorem Sep.r5 {a b c d e : Th} (h : Sep w W (a :: b :: c :: d :: e :: l)) : Sep w W (e :: a :: b :: c :: d :: l) := h.perm ((List.Perm.cons a (List.Perm.cons b (List.Perm.cons c (List.Perm.swap e d l)))).trans ((List.Perm.cons a (List.Perm.cons b (List.Perm.swap e c _))).trans ((List.Perm.cons a (List.Perm.swap e b _)).trans (List.Perm.swap e a _))))
theorem Sep.ne (h : Sep w W (t :: t' :: l)) {k : Nat} (h1 : t.fp k) : ¬ t'.fp k := (List.pairwise_cons.1 h.ap).1 t' (List.mem_cons_self ..) k h1
/-- Two of them as one. -/
theorem Sep.and (h : Sep w W (t :: t' :: l)) : Sep w W (tAnd t t' (fun _ hk => h.ne hk) :: l) := by
  have h0 := List.pairwise_cons.1 h.ap
  have h1 := List.pairwise_cons.1 h0.2
  refine ⟨?_, ?_, List.pairwise_cons.2 ⟨?_, h1.2⟩, h.bel⟩
  · intro s hs
    rcases List.mem_cons.1 hs with rfl | hs
    · exact ⟨h.hd, h.h2⟩
    · exact h.ok s (List.mem_cons_of_mem _ (List.mem_cons_of_mem _ hs))
  · intro s hs k hk
    rcases List.mem_cons.1 hs with rfl | hs
    · rcases hk with hk | hk
      · exact h.ge t (List.mem_cons_self ..) k hk
      · exact h.ge t' (List.mem_cons_of_mem _ (List.mem_cons_self ..)) k hk
    · exact h.ge s (List.mem_cons_of_mem _ (List.mem_cons_of_mem _ hs)) k hk
  · intro s hs k hk
    rcases hk with hk | hk
    · exact h0.1 s (List.mem_cons_of_mem _ hs) k hk
    · exact h1.1 s hs k hk
/-- From where the second world is counted. -/
theorem Sep.base {w0 : World} (h : Sep w W l) (b : Below w0.heap.size w0 w) : Sep w0 W l :=
  ⟨h.ok, fun t ht k hk => Nat.le_trans b.size (h.ge t ht k hk), h.ap, b.trans (h.bel.mono b.size)⟩
/-- In the midst of other work: those from w1 on, and those of before. -/
theorem Sep.join {w1 : World} (h : Sep w w1 l) (k : Sep w1 W r) : Sep w W (r ++ l) :=
  ⟨fun t ht => (List.mem_append.1 ht).elim (k.ok t) (fun ht => t.below (h.ok t ht) k.bel),
    fun t ht => (List.mem_append.1 ht).elim (fun ht j hj => Nat.le_trans h.size (k.ge t ht j hj)) (h.ge t),
    List.pairwise_append.2 ⟨k.ap, h.ap, fun s hs t ht j hj hj2 => by have := k.ge s hs j hj; have := t.lt w1 (h.ok t ht) j hj2; omega⟩,
    h.bel.trans (k.bel.mono h.size)⟩
end
end Go.Proofs.YtjjdefkaohbmjaaDoor
