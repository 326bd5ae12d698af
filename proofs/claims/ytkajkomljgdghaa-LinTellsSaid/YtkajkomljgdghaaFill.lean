/- Whole structs in blocks of their own: stored and loaded at once, in a plain region and in one that draws its order; a string's bytes in a new block. No condition. -/
import Derived.Test.YtkajkomljgdghaaRet
import Derived.Test.YtkajkomljgdghaaOwn
import Derived.Laws.Tables
import Derived.Laws.CopyRow
import Derived.Lib.ConvBytes
set_option linter.unusedVariables false
set_option linter.unusedSimpArgs false
namespace Go.Proofs.Ytkajkomljgdghaa
open Go.RowKit
theorem Blk.setRow {w : World} {g : Nat} {old : Array Value} {T : TypeId} (h : Blk w g old T) (cs : Array Value) : Blk (w.setRow g cs) g cs T := setRow_heap w g old cs T (0, 0) h
theorem Upd.setRow (w : World) (g : Nat) (cs : Array Value) : Upd (fun k => k = g) w (w.setRow g cs) :=
  ⟨rfl, rfl, rfl, by simp [World.setRow], fun k _ hk => setRow_other w g k cs hk⟩
section
variable {P : Program} {ops : Array Oper} {rest : List Oper} {o : Oper} {a : Act} {W : World} {Q : Exit → Act → World → Prop}
theorem storeR {T : TypeId} {g : Nat} {old : Array Value} (cs : Array Value) (hb : Blk W g old T) (hs : old.size = cs.size) (hi : (P.info? T).map (·.size) = some cs.size) (h1 : cs.all (·.oneCell') = true)
    (hgd : o.guard = none) (x y : Operand) (ho : o.op = .store T x y) (hx : a.eval x = .pointer (some ⟨g, 0, none⟩)) (hy : a.eval y = .agg cs)
    (h : ∀ w', Blk w' g cs T → Upd (fun k => k = g) W w' → wpList P ops Q rest (a.put o.dst undef) w') : wpList P ops Q (o :: rest) a W :=
  wpList_store_row hgd T x y ho g cs hx hy T old hb hi hs h1 (h _ (hb.setRow cs) (Upd.setRow W g cs))
theorem stepStoreR {K : Act → World → Prop} {E : Prop} {T : TypeId} {g : Nat} {old : Array Value} (cs : Array Value) (hb : Blk W g old T) (hs : old.size = cs.size) (hi : (P.info? T).map (·.size) = some cs.size) (h1 : cs.all (·.oneCell') = true)
    (hgd : o.guard = none) (x y : Operand) (ho : o.op = .store T x y) (hx : a.eval x = .pointer (some ⟨g, 0, none⟩)) (hy : a.eval y = .agg cs)
    (h : ∀ w', Blk w' g cs T → Upd (fun k => k = g) W w' → K (a.put o.dst undef) w') : if Region.wanted o (yielded ops a.tmps) = true then Oper.wp P o a W K Q else E := by
  have hw : Region.wanted o (yielded ops a.tmps) = true := by simp [Region.wanted, hgd]
  rw [if_pos hw]
  exact wp_store_row T x y ho g cs hx hy T old hb hi hs h1 (h _ (hb.setRow cs) (Upd.setRow W g cs))
theorem loadR {T : TypeId} {g : Nat} {cs : Array Value} (d : TypeDesc) (hb : Blk W g cs T) (hu : P.underlying T = some d) (hd : (match d with | .struct _ | .array _ _ => true | _ => false) = true) (hi : (P.info? T).map (·.size) = some cs.size)
    (hgd : o.guard = none) (x : Operand) (ho : o.op = .load T x) (hx : a.eval x = .pointer (some ⟨g, 0, none⟩))
    (h : wpList P ops Q rest (a.put o.dst (.agg cs)) W) : wpList P ops Q (o :: rest) a W :=
  wpList_load_row hgd T x ho g hx T cs (0, 0) d hb hu hd hi h
theorem buildR {T : TypeId} (cs : Array Value) (parts : Array (Nat × Operand)) (hg : o.guard = none) (ho : o.op = .build T parts) (hf : P.built T (parts.map fun (i, x) => (i, a.eval x)).toList = some cs)
    (h : wpList P ops Q rest (a.put o.dst (.agg cs)) W) : wpList P ops Q (o :: rest) a W :=
  wpList_build hg T parts ho (by rw [hf]; rfl) (by rw [hf]; exact h)
/-- copy(dst, src) of one-cell elements into the midst of a block, at a step of a region that draws its order. -/
theorem stepCopyR {K : Act → World → Prop} {E : Prop} (dT sT elem : TypeId) (g p dLen dCap : Nat) (A : Addr) (sLen sCap : Nat) {cur : Array Value} {t : TypeId} (cs : List Value) (hb : Blk W g cur t)
    (hu : P.underlying dT = some (.slice elem)) (hi : (P.info? elem).map (·.size) = some 1) (hn : cs.length = Nat.min sLen dLen) (hr : Rd W (some A) cs) (hfit : p + cs.length ≤ cur.size) (h1 : ∀ v ∈ cs, v.oneCell' = true)
    (x y : Operand) (hgd : o.guard = none) (ho : o.op = .call { callee := .builtin .copy, args := #[x, y], argTypes := #[dT, sT] })
    (hx : a.eval x = .slice (some ⟨g, p, none⟩) dLen dCap) (hy : a.eval y = .slice (some A) sLen sCap)
    (h : ∀ w', Blk w' g (cur.toList.take p ++ cs ++ cur.toList.drop (p + cs.length)).toArray t → Upd (fun k => k = g) W w' → K (a.put o.dst (goInt cs.length)) w') :
    if Region.wanted o (yielded ops a.tmps) = true then Oper.wp P o a W K Q else E := by
  have hw : Region.wanted o (yielded ops a.tmps) = true := by simp [Region.wanted, hgd]
  rw [if_pos hw]
  have hrun := run_copy_row (P := P) W dT sT o.type elem g p dLen dCap A sLen sCap cur t cs hu hi hb hn (fun j v hv => by
    obtain ⟨b, q, e, hc⟩ := hr (by intro e; rw [e] at hv; simp at hv)
    simp only [Option.some.injEq] at e
    subst e
    rw [show (⟨b, q, none⟩ : Addr).add j = ⟨b, q + j, none⟩ by unfold Addr.add; split <;> simp_all]
    exact hc j v hv) hfit h1
  unfold Oper.wp execOp
  simp only [ho, resolve, invoke, builtin, Sem.run_bind, Sem.run_pure, Result.andThen_ok, List.map_toArray, List.map_cons, List.map_nil, hx, hy, hrun]
  exact h _ (hb.setRow _) (Upd.setRow W g _)
end
section
variable {w W W1 : World} {l : List Th} {e : TypeId} {sz n : Nat} {cs : Array Value}
theorem Sep.newOwn (h : Sep w W l) (cs : Array Value) (e : TypeId) (n : Nat) {g : Nat} (hg : W.heap.size = g) (hn : cs.size = n) (hm : n ≤ maxLen) : Sep w (W.alloc (.cells cs e)) (tOwn e 1 (.slice (some ⟨g, 0, none⟩) n n) n cs.toList :: l) :=
  h.new (t := tOwn e 1 (.slice (some ⟨g, 0, none⟩) n n) n cs.toList) ((Below.refl _ _).alloc (Nat.le_refl _) _) (Own.made W cs e 1 n cs.toList hg hm rfl (by simpa using hn)) (fun k hk => by
    have hk : some g = some k := hk
    cases hk; omega)
/-- The first one is written whole. -/
theorem Sep.put {T : TypeId} {g : Nat} {old cs : Array Value} (h : Sep w W (tBlk g old T :: l)) (hb : Blk W1 g cs T) (u : Upd (fun k => k = g) W W1) : Sep w W1 (tBlk g cs T :: l) :=
  h.op (t' := tBlk g cs T) hb u (fun k hk => .inl hk)
end
/-- A string's bytes in a new block. -/
theorem bytesW {P : Program} (src dst e : TypeId) {u : TypeDesc} (hs : P.underlying src = some u) (hd : P.underlying dst = some (.slice e)) (he : P.underlying e = some (.int .u8)) (hu : u = .string) (s : ByteArray) (w : World) (hl : s.size ≤ maxLen) :
    ∃ c w', (convert src dst (.string s)).run P w = .ok (.slice (some ⟨w.heap.size, 0, none⟩) s.size c) w' ∧ Below w.heap.size w w' ∧ s.size ≤ c ∧ c ≤ maxLen ∧ Rd w' (some ⟨w.heap.size, 0, none⟩) (s.data.toList.map fun b => .int .u8 (b.toNat : Int)) ∧ w.heap.size < w'.heap.size := by
  subst hu
  refine ⟨_, _, Lib.run_convert_string_bytes w src dst e s hs hd he, ⟨rfl, rfl, rfl, by rw [Lib.bytesWorld_size]; omega, fun k hk => Lib.bytesWorld_at_old w e s k hk⟩, grownCap_ge _ _ _ _, grownCap_le_maxLen _ _ _ _ hl, fun _ => ⟨w.heap.size, 0, rfl, fun j v hv => ?_⟩, by rw [Lib.bytesWorld_size]; omega⟩
  obtain ⟨hj, hv'⟩ := List.getElem?_eq_some_iff.1 hv
  have hj' : j < s.size := by simpa using hj
  rw [Nat.zero_add, Lib.bytesWorld_cell w e s j hj', ← hv']
  simp [List.getD, hj']
end Go.Proofs.Ytkajkomljgdghaa
