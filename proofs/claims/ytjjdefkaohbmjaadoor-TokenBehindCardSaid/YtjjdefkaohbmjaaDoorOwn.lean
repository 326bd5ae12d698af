/- Rows that are owned, in blocks that may be longer than the row may grow: what append makes of them. Conditions: as the laws on append ask. -/
import Derived.Test.YtjjdefkaohbmjaaDoorSep
import Derived.Test.YtjjdefkaohbmjaaDoorFlat
import Derived.Laws.OwnMore
set_option linter.unusedVariables false
set_option linter.unusedSimpArgs false
namespace Go.Proofs.YtjjdefkaohbmjaaDoor
open Go.RowKit

/-- The slice v of n elements of type e, sz cells each, holds xs; its block is one's own. -/
def Own (w : World) (e : TypeId) (sz : Nat) (v : Value) (n : Nat) (xs : List Value) : Prop :=
  xs.length = n * sz ∧
  ((v = .slice none 0 0 ∧ n = 0) ∨
   ∃ g cap cur, v = .slice (some ⟨g, 0, none⟩) n cap ∧ w.heap[g]? = some (.cells cur e (0, 0)) ∧ n ≤ cap ∧ cap ≤ maxLen ∧ cap * sz ≤ cur.size ∧ cur.toList.take (n * sz) = xs)
section
variable {w w' W : World} {e T : TypeId} {sz n : Nat} {v : Value} {xs : List Value}
theorem Own.nil (w : World) (e : TypeId) (sz : Nat) : Own w e sz (.slice none 0 0) 0 [] := ⟨by simp, .inl ⟨rfl, rfl⟩⟩
theorem Own.of_row {base : Nat} (h : w.ownsRow base e sz v n xs) : Own w e sz v n xs := by
  refine ⟨h.1, ?_⟩
  rcases h.2 with hn | ⟨g, cap, cur, rfl, hb, hh, h1, h2, h3, h4⟩
  · exact .inl hn
  · exact .inr ⟨g, cap, cur, rfl, hh, h1, h2, by omega, h4⟩
theorem Own.lt (h : Own w e sz v n xs) {g : Nat} (hg : v.ownBlock = some g) : g < w.heap.size := by
  rcases h.2 with ⟨rfl, _⟩ | ⟨g', cap, cur, rfl, hh, _⟩
  · simp [Value.ownBlock] at hg
  · simp [Value.ownBlock] at hg
    subst hg
    exact (Array.getElem?_eq_some_iff.1 hh).1
theorem Own.keep (h : Own w e sz v n xs) (hk : ∀ k, k < w.heap.size → v.ownBlock = some k → w'.heap[k]? = w.heap[k]?) : Own w' e sz v n xs := by
  refine ⟨h.1, ?_⟩
  rcases h.2 with hn | ⟨g, cap, cur, rfl, hh, r⟩
  · exact .inl hn
  · exact .inr ⟨g, cap, cur, rfl, (hk g (Array.getElem?_eq_some_iff.1 hh).1 rfl).trans hh, r⟩
theorem Own.upd {S : Nat → Prop} (h : Own w e sz v n xs) (hu : Upd S w w') (hs : ∀ g, v.ownBlock = some g → ¬ S g) : Own w' e sz v n xs :=
  h.keep fun k hk hv => hu.block k hk (hs k hv)
theorem Own.below (h : Own w e sz v n xs) (hb : Below w.heap.size w w') : Own w' e sz v n xs := h.keep fun k hk _ => hb.block k hk
theorem Own.alloc (h : Own w e sz v n xs) (o : Obj) : Own (w.alloc o) e sz v n xs := h.below ((Below.refl _ _).alloc (Nat.le_refl _) o)
theorem Own.drewN (h : Own w e sz v n xs) (q : Nat) : Own (w.drewN q) e sz v n xs := h
theorem Own.drew (h : Own w e sz v n xs) : Own w.drew e sz v n xs := h
/-- A row's block is none of another type. -/
theorem Own.ne {b : Nat} {cs : Array Value} (h : Own w e sz v n xs) (hb : Blk w b cs T) (hne : e ≠ T) : v.ownBlock ≠ some b := by
  rcases h.2 with ⟨rfl, _⟩ | ⟨g, cap, cur, rfl, hh, _⟩
  · simp [Value.ownBlock]
  · intro e'
    have : g = b := by simpa [Value.ownBlock] using e'
    subst this
    unfold Blk at hb
    rw [hh] at hb
    injection hb with hb
    injection hb with _ ht
    exact hne ht
/-- What it reads as. -/
theorem Own.form (h : Own w e sz v n xs) : ∃ A c, v = .slice A n c ∧ n ≤ c ∧ (A = none → n = 0 ∧ c = 0) ∧ Rd w A xs := by
  rcases h.2 with ⟨rfl, rfl⟩ | ⟨g, cap, cur, rfl, hh, h1, h2, h3, h4⟩
  · have : xs = [] := List.eq_nil_of_length_eq_zero (by simpa using h.1)
    subst this
    exact ⟨none, 0, rfl, Nat.le_refl _, fun _ => ⟨rfl, rfl⟩, Rd.nil _ _⟩
  · refine ⟨some ⟨g, 0, none⟩, cap, rfl, h1, fun e => (by cases e), fun _ => ⟨g, 0, rfl, fun j u hu => ?_⟩⟩
    rw [Nat.zero_add, cell_of_row w g j cur e (0, 0) hh]
    rw [← h4, List.getElem?_take] at hu
    split at hu
    · simpa using hu
    · cases hu
theorem Own.rd {A : Option Addr} {c : Nat} (h : Own w e sz (.slice A n c) n xs) : Rd w A xs := by
  obtain ⟨A', c', he, _, _, hr⟩ := h.form
  simp only [Value.slice.injEq, true_and] at he
  rw [he.1]; exact hr
theorem Own.cap {A : Option Addr} {c : Nat} (h : Own w e sz (.slice A n c) n xs) : n ≤ c ∧ (A = none → n = 0 ∧ c = 0) := by
  obtain ⟨A', c', he, h1, h2, _⟩ := h.form
  simp only [Value.slice.injEq, true_and] at he
  rw [he.1, he.2]; exact ⟨h1, h2⟩
theorem Own.pos (h : Own w e sz v n xs) (hn : 0 < n) : ∃ g c, v = .slice (some ⟨g, 0, none⟩) n c := by
  rcases h.2 with ⟨_, h0⟩ | ⟨g, cap, cur, rfl, _⟩
  · omega
  · exact ⟨g, cap, rfl⟩
theorem Own.cell {g c : Nat} (h : Own w e sz (.slice (some ⟨g, 0, none⟩) n c) n xs) (j : Nat) (u : Value) (hu : xs[j]? = some u) : w.cell? ⟨g, j, none⟩ = some u := by
  obtain ⟨b, o, e, hc⟩ := h.rd (by intro e; rw [e] at hu; simp at hu)
  simp only [Option.some.injEq, Addr.mk.injEq, and_true] at e
  have := hc j u hu
  rwa [← e.1, ← e.2, Nat.zero_add] at this
theorem Own.frozen {g c : Nat} (h : Own w e sz (.slice (some ⟨g, 0, none⟩) n c) n xs) (j : Nat) : w.frozen? ⟨g, j, none⟩ = false := by
  rcases h.2 with ⟨h0, _⟩ | ⟨g', cap, cur, hv, hh, _⟩
  · cases h0
  · simp only [Value.slice.injEq, Option.some.injEq, Addr.mk.injEq] at hv
    obtain ⟨⟨rfl, _⟩, _⟩ := hv
    simp [World.frozen?, hh]
theorem Own.set {g c : Nat} (h : Own w e sz (.slice (some ⟨g, 0, none⟩) n c) n xs) (j : Nat) (u : Value) : Own (w.setCell ⟨g, j, none⟩ u) e sz (.slice (some ⟨g, 0, none⟩) n c) n (xs.set j u) := by
  refine ⟨by rw [List.length_set]; exact h.1, ?_⟩
  rcases h.2 with ⟨hv, _⟩ | ⟨g', cap, cur, hv, hh, h1, h2, h3, h4⟩
  · cases hv
  · simp only [Value.slice.injEq, Option.some.injEq, Addr.mk.injEq, true_and, and_true] at hv
    obtain ⟨rfl, rfl⟩ := hv
    refine .inr ⟨g, c, cur.setIfInBounds j u, rfl, ?_, h1, h2, by simpa using h3, ?_⟩
    · simp [World.setCell, Array.getElem?_modify, hh]
    · rw [← h4, Array.toList_setIfInBounds, List.take_set]
theorem Own.setOther (h : Own w e sz v n xs) {p : Addr} (hp : v.ownBlock ≠ some p.block) (u : Value) : Own (w.setCell p u) e sz v n xs :=
  h.keep fun k hk hv => Below.heap_setCell _ _ _ _ (fun e => hp (by rw [← e]; exact hv))
theorem Own.made (w : World) (cur : Array Value) (e : TypeId) (sz n : Nat) (xs : List Value) {g : Nat} (hg : w.heap.size = g) (hm : n ≤ maxLen) (hc : cur.toList = xs) (hl : xs.length = n * sz) :
    Own (w.alloc (.cells cur e)) e sz (.slice (some ⟨g, 0, none⟩) n n) n xs := by
  subst hg
  exact ⟨hl, .inr ⟨w.heap.size, n, cur, rfl, heap_alloc_new w _, Nat.le_refl _, hm, by rw [← Array.length_toList, hc, hl]; exact Nat.le_refl _, by rw [hc, ← hl, List.take_length]⟩⟩
theorem Own.empty (w : World) (e : TypeId) (sz : Nat) {g : Nat} (hg : w.heap.size = g) : Own (w.alloc (.cells #[] e)) e sz (.slice (some ⟨g, 0, none⟩) 0 0) 0 [] :=
  Own.made w #[] e sz 0 [] hg (by decide) rfl (by simp)
/-- The first k, with no room behind. -/
theorem Own.front {A : Option Addr} {c k : Nat} (h : Own w e sz (.slice A n c) n xs) (hk : k ≤ n) : Own w e sz (.slice A k k) k (xs.take (k * sz)) := by
  refine ⟨by rw [List.length_take, h.1]; have := Nat.mul_le_mul_right sz hk; omega, ?_⟩
  rcases h.2 with ⟨hv, h0⟩ | ⟨g, cap, cur, hv, hh, h1, h2, h3, h4⟩
  · simp only [Value.slice.injEq] at hv
    obtain ⟨rfl, _, _⟩ := hv
    obtain rfl : k = 0 := by omega
    exact .inl ⟨rfl, rfl⟩
  · simp only [Value.slice.injEq, true_and] at hv
    obtain ⟨rfl, rfl⟩ := hv
    have := Nat.mul_le_mul_right sz hk
    have h5 := Nat.mul_le_mul_right sz h1
    refine .inr ⟨g, k, cur, rfl, hh, Nat.le_refl _, by omega, by omega, ?_⟩
    rw [← h4, List.take_take, Nat.min_eq_left this]
/-- It as a thing. -/
def tOwn (e : TypeId) (sz : Nat) (v : Value) (n : Nat) (xs : List Value) : Th where
  ok W := Own W e sz v n xs
  fp k := v.ownBlock = some k
  lt W h k e := h.lt e
  keep W W' h _ hk := h.keep hk
end

section
variable {P : Program} {ops : Array Oper} {rest : List Oper} {o : Oper} {a : Act} {Q : Exit → Act → World → Prop} {W : World}
/-- What append makes: the row and what comes behind it; where there was no room, in a block that is new. -/
theorem run_appendO (W : World) (t ty e : TypeId) (z : Value) (sz bytes : Nat) (ht : P.underlying t = some (.slice e)) (hinfo : (P.info? e).map (fun i => (i.zero, i.size, i.bytes)) = some (some z, sz, bytes)) (hz : z.cells.size = sz) (hsz : 0 < sz) (hb0 : 0 < bytes)
    (v : Value) (n : Nat) (xs : List Value) (hown : Own W e sz v n xs)
    (A : Option Addr) (m c : Nat) (news : List Value) (hnl : news.length = m * sz) (hr : Rd W A news) (hA : A = none → m = 0 ∧ c = 0) (h1 : ∀ u ∈ news, u.oneCell' = true) (hl : (n + m) * bytes ≤ 140737488355328) :
    ∃ v' W', (Builtin.append_ #[t, t] ty #[v, .slice A m c]).run P W = .ok v' W' ∧ Own W' e sz v' (n + m) (xs ++ news) ∧ W.grownBy W' v.ownBlock ∧ (v'.ownBlock = v.ownBlock ∨ v'.ownBlock = some W.heap.size) := by
  obtain ⟨i, hi, hzz⟩ := Option.map_eq_some_iff.1 hinfo
  simp only [Prod.mk.injEq] at hzz
  obtain ⟨hz0, rfl, rfl⟩ := hzz
  have hbig : n + m ≤ 140737488355328 := Nat.le_trans (Nat.le_mul_of_pos_right _ hb0) hl
  have h63 : n + m ≤ maxLen := by simp only [maxLen]; omega
  have hlen : (xs ++ news).length = (n + m) * i.size := by rw [List.length_append, hown.1, hnl, Nat.add_mul]
  have refl : W.grownBy W v.ownBlock := ⟨rfl, rfl, rfl, Nat.le_refl _, fun _ _ _ => rfl⟩
  cases A with
  | none =>
    obtain ⟨rfl, rfl⟩ := hA rfl
    have hn : news = [] := List.length_eq_zero_iff.1 (by rw [hnl]; simp)
    subst hn
    refine ⟨v, W, ?_, by simpa using hown, refl, .inl rfl⟩
    rcases hown.2 with ⟨rfl, rfl⟩ | ⟨g, cap, cur, rfl, _, hnc, _⟩
    · simp [Builtin.append_, run_underlying ht, sizeOf, typeInfo, hi, Builtin.lenOf, Builtin.firstCells]
    · simp [Builtin.append_, run_underlying ht, sizeOf, typeInfo, hi, Builtin.lenOf, Builtin.firstCells, hnc, storeCells]
  | some a =>
    have hnews : ∀ j u, news[j]? = some u → W.cell? (a.add j) = some u := by
      intro j u hu
      have hne : news ≠ [] := by intro e; rw [e] at hu; simp at hu
      obtain ⟨b, off, e, hc⟩ := hr hne
      simp only [Option.some.injEq] at e
      subst e
      rw [show (⟨b, off, none⟩ : Addr).add j = ⟨b, off + j, none⟩ by unfold Addr.add; split <;> simp_all]
      exact hc j u hu
    have grown : ∀ (old : Nat), old < n + m → ∀ (row : Option Nat),
        Own (W.drew.alloc (.cells (xs.toArray ++ news.toArray ++ Builtin.zeroCells z.cells (grownCap W (n + m) old e - (n + m))) e)) e i.size
          (.slice (some ⟨W.heap.size, 0, none⟩) (n + m) (grownCap W (n + m) old e)) (n + m) (xs ++ news) ∧
        W.grownBy (W.drew.alloc (.cells (xs.toArray ++ news.toArray ++ Builtin.zeroCells z.cells (grownCap W (n + m) old e - (n + m))) e)) row := by
      intro old ho row
      have hge := grownCap_ge W (n + m) old e
      have hcm : grownCap W (n + m) old e ≤ maxLen := grownCap_le_maxLen W (n + m) old e h63
      refine ⟨⟨hlen, .inr ⟨W.heap.size, _, _, rfl, heap_alloc_new W.drew _, hge, hcm, ?_, ?_⟩⟩, ⟨rfl, rfl, rfl, by simp, fun k hk _ => Below.heap_alloc W.drew _ k hk⟩⟩
      · simp only [Array.size_append, List.size_toArray, size_zeroCells, hz, hown.1, hnl, ← Nat.add_mul]
        apply Nat.mul_le_mul_right
        omega
      · simp only [Array.toList_append, List.append_assoc]
        rw [← List.append_assoc, ← hlen]
        exact List.take_left
    rcases hown.2 with ⟨rfl, rfl⟩ | ⟨g, cap, cur, rfl, hg, hnc, hcm, hcs, htake⟩
    · have hx : xs = [] := List.eq_nil_of_length_eq_zero (by simpa using hown.1)
      subst hx
      by_cases hm : m = 0
      · subst hm
        have hn : news = [] := List.eq_nil_of_length_eq_zero (by simpa using hnl)
        subst hn
        refine ⟨.slice none 0 0, W, ?_, Own.nil W e i.size, refl, .inl rfl⟩
        simp [Builtin.append_, run_underlying ht, sizeOf, typeInfo, hi, Builtin.lenOf, Builtin.firstCells, loadCells, loadCellsFrom]
      · have hr := run_append_nil (P := P) W t ty e i z ht hi hz0 a m c news hnl hnews (by omega) (by omega) (by have hb := hl; simp only [Nat.zero_add] at hb; omega)
        have hgr := grown 0 (by omega) (Value.ownBlock (.slice none 0 0))
        simp only [Nat.zero_add, List.nil_append, Array.empty_append] at hgr ⊢
        exact ⟨_, _, hr, hgr.1, hgr.2, .inr rfl⟩
    · by_cases hroom : n + m ≤ cap
      · have hroom' := Nat.mul_le_mul_right i.size hroom
        have hfit : n * i.size + news.length ≤ cur.size := by rw [hnl, ← Nat.add_mul]; omega
        have hr := run_append_room (P := P) W t ty e i ht hi g n cap cur hg a m c news hnl hnews h1 hroom hfit
        refine ⟨_, _, hr, ⟨hlen, .inr ⟨g, cap, _, rfl, setRow_heap W g cur _ e _ hg, hroom, hcm, ?_, ?_⟩⟩, ⟨rfl, rfl, rfl, by simp, fun k _ hk => setRow_other W g k _ (fun e => hk (by simp [Value.ownBlock, e]))⟩, .inl rfl⟩
        · simp only [List.size_toArray, List.length_append, List.length_take, List.length_drop, Array.length_toList]
          omega
        · rw [htake, ← hlen]
          exact List.take_left
      · have holds : ∀ j u, xs[j]? = some u → W.cell? ((⟨g, 0, none⟩ : Addr).add j) = some u := by
          intro j u hu
          rw [show (⟨g, 0, none⟩ : Addr).add j = ⟨g, j, none⟩ by unfold Addr.add; split <;> simp_all]
          exact hown.cell j u hu
        have hr := run_append_grow (P := P) W t ty e i z ht hi hz0 ⟨g, 0, none⟩ n cap xs hown.1 holds a m c news hnl hnews (by omega) (by omega) (growslice_fits (by omega) hl)
        have hgr := grown cap (by omega) (Value.ownBlock (.slice (some ⟨g, 0, none⟩) n cap))
        exact ⟨_, _, hr, hgr.1, hgr.2, .inr rfl⟩
/-- append at a plain list of operations: behind at_builtin. -/
theorem appendO (t e : TypeId) (z : Value) (sz bytes : Nat) (news : List Value) (m : Nat) {v : Value} {n : Nat} {xs : List Value}
    (HO : Own W e sz v n xs) (hl : (n + m) * bytes ≤ 140737488355328)
    (ht : P.underlying t = some (.slice e)) (hinfo : (P.info? e).map (fun i => (i.zero, i.size, i.bytes)) = some (some z, sz, bytes)) (hz : z.cells.size = sz) (hsz : 0 < sz) (hb0 : 0 < bytes)
    (hnl : news.length = m * sz) (h1 : ∀ u ∈ news, u.oneCell' = true) (A : Option Addr) (c : Nat) (hr : Rd W A news) (hA : A = none → m = 0 ∧ c = 0)
    (s x : Operand) (hgd : o.guard = none) (ho : o.op = .call { callee := .builtin .append, args := #[s, x], argTypes := #[t, t] })
    (hs : a.eval s = v) (hx : a.eval x = .slice A m c)
    (h : ∀ v1 w1, Own w1 e sz v1 (n + m) (xs ++ news) → W.grownBy w1 v.ownBlock → (v1.ownBlock = v.ownBlock ∨ v1.ownBlock = some W.heap.size) → wpList P ops Q rest (a.put o.dst v1) w1) :
    wpList P ops Q (o :: rest) a W := by
  refine wpList_plain hgd fun K hK => ?_
  obtain ⟨v', W', hrun, h2, h3, h4⟩ := run_appendO (P := P) W t o.type e z sz bytes ht hinfo hz hsz hb0 v n xs HO A m c news hnl hr hA h1 hl
  unfold Oper.wp execOp
  simp only [ho, resolve, invoke, builtin, Sem.run_bind, Sem.run_pure, Result.andThen_ok, List.map_toArray, List.map_cons, List.map_nil, hs, hx, hrun]
  exact hK _ _ (h v' W' h2 h3 h4)
/-- append at a step of a region that draws its order. -/
theorem stepA {K : Act → World → Prop} {E : Prop} (t e : TypeId) (z : Value) (sz bytes : Nat) (news : List Value) (m : Nat) {v : Value} {n : Nat} {xs : List Value}
    (HO : Own W e sz v n xs) (hl : (n + m) * bytes ≤ 140737488355328)
    (ht : P.underlying t = some (.slice e)) (hinfo : (P.info? e).map (fun i => (i.zero, i.size, i.bytes)) = some (some z, sz, bytes)) (hz : z.cells.size = sz) (hsz : 0 < sz) (hb0 : 0 < bytes)
    (hnl : news.length = m * sz) (h1 : ∀ u ∈ news, u.oneCell' = true) (A : Option Addr) (c : Nat) (hr : Rd W A news) (hA : A = none → m = 0 ∧ c = 0)
    (s x : Operand) (hgd : o.guard = none) (ho : o.op = .call { callee := .builtin .append, args := #[s, x], argTypes := #[t, t] })
    (hs : a.eval s = v) (hx : a.eval x = .slice A m c)
    (h : ∀ v1 w1, Own w1 e sz v1 (n + m) (xs ++ news) → W.grownBy w1 v.ownBlock → (v1.ownBlock = v.ownBlock ∨ v1.ownBlock = some W.heap.size) → K (a.put o.dst v1) w1) :
    if Region.wanted o (yielded ops a.tmps) = true then Oper.wp P o a W K Q else E := by
  have hw : Region.wanted o (yielded ops a.tmps) = true := by simp [Region.wanted, hgd]
  rw [if_pos hw]
  obtain ⟨v', W', hrun, h2, h3, h4⟩ := run_appendO (P := P) W t o.type e z sz bytes ht hinfo hz hsz hb0 v n xs HO A m c news hnl hr hA h1 hl
  unfold Oper.wp execOp
  simp only [ho, resolve, invoke, builtin, Sem.run_bind, Sem.run_pure, Result.andThen_ok, List.map_toArray, List.map_cons, List.map_nil, hs, hx, hrun]
  exact h v' W' h2 h3 h4
end
section
variable {w W W1 : World} {l : List Th} {e : TypeId} {sz n n' : Nat} {v v1 : Value} {xs ys : List Value}
theorem Sep.newRow (h : Sep w W l) (e : TypeId) (sz : Nat) {g : Nat} (hg : W.heap.size = g) : Sep w (W.alloc (.cells #[] e)) (tOwn e sz (.slice (some ⟨g, 0, none⟩) 0 0) 0 [] :: l) :=
  h.new (t := tOwn e sz (.slice (some ⟨g, 0, none⟩) 0 0) 0 []) ((Below.refl _ _).alloc (Nat.le_refl _) _) (Own.empty W e sz hg) (fun k hk => by
    have hk : some g = some k := hk
    cases hk; omega)
theorem Sep.own (h : Sep w W (tOwn e sz v n xs :: l)) : Own W e sz v n xs := h.hd
/-- The row has been appended to. -/
theorem Sep.app (h : Sep w W (tOwn e sz v n xs :: l)) (ho : Own W1 e sz v1 n' ys) (hg : W.grownBy W1 v.ownBlock) (hat : v1.ownBlock = v.ownBlock ∨ v1.ownBlock = some W.heap.size) : Sep w W1 (tOwn e sz v1 n' ys :: l) :=
  h.opc (t' := tOwn e sz v1 n' ys) (S := fun k => some k = v.ownBlock) ho (Upd.of_grown hg) (fun k _ hk => hk.symm) (fun k hk => by
    have hk : v1.ownBlock = some k := hk
    rcases hat with e | e
    · exact .inl (show v.ownBlock = some k by rw [← e]; exact hk)
    · rw [e] at hk; cases hk; exact .inr (Nat.le_refl _))
theorem Sep.appG (h : Sep w W (tOwn e sz v n xs :: l)) (ho : Own W1 e sz v1 n' ys) (hg : W.grownBy W1 v.ownBlock) (hat : v1.ownBlock = v.ownBlock ∨ ∃ b, v1.ownBlock = some b ∧ W.heap.size ≤ b) : Sep w W1 (tOwn e sz v1 n' ys :: l) :=
  h.opc (t' := tOwn e sz v1 n' ys) (S := fun k => some k = v.ownBlock) ho (Upd.of_grown hg) (fun k _ hk => hk.symm) (fun k hk => by
    have hk : v1.ownBlock = some k := hk
    rcases hat with e | ⟨b, e, hb⟩
    · exact .inl (show v.ownBlock = some k by rw [← e]; exact hk)
    · rw [e] at hk; cases hk; exact .inr hb)
end
section
variable {P : Program} {ops : Array Oper} {rest : List Oper} {o : Oper} {a : Act} {Q : Exit → Act → World → Prop} {W : World}
/-- append(v, x) of one element that is laid just ahead: behind at_builtin. -/
theorem app1O (t e : TypeId) (z : Value) (sz bytes : Nat) (news : List Value) {v : Value} {n : Nat} {xs : List Value}
    (HO : Own W e sz v n xs) (hl : (n + 1) * bytes ≤ 140737488355328)
    (ht : P.underlying t = some (.slice e)) (hinfo : (P.info? e).map (fun i => (i.zero, i.size, i.bytes)) = some (some z, sz, bytes)) (hz : z.cells.size = sz) (hsz : 0 < sz) (hb0 : 0 < bytes)
    (hnl : news.length = sz) (h1 : ∀ u ∈ news, u.oneCell' = true)
    (s x : Operand) (hgd : o.guard = none) (ho : o.op = .call { callee := .builtin .append, args := #[s, x], argTypes := #[t, t] })
    (hs : a.eval s = v) (hx : a.eval x = .slice (some ⟨W.heap.size, 0, none⟩) 1 1)
    (h : ∀ v1 w1, Own w1 e sz v1 (n + 1) (xs ++ news) → W.grownBy w1 v.ownBlock → (v1.ownBlock = v.ownBlock ∨ ∃ b, v1.ownBlock = some b ∧ W.heap.size ≤ b) → wpList P ops Q rest (a.put o.dst v1) w1) :
    wpList P ops Q (o :: rest) a (W.alloc (.cells news.toArray e)) := by
  refine appendO t e z sz bytes news 1 (HO.alloc _) hl ht hinfo hz hsz hb0 (by omega) h1 (some ⟨W.heap.size, 0, none⟩) 1 (Rd.lit rfl news.toArray e) (fun e => nomatch e) s x hgd ho hs hx ?_
  intro v1 w1 h1 h2 h3
  refine h v1 w1 h1 (World.grownBy.trans (World.grownBy_alloc W _ _) h2) (h3.imp id fun e => ⟨_, e, by simp⟩)
end
end Go.Proofs.YtjjdefkaohbmjaaDoor
