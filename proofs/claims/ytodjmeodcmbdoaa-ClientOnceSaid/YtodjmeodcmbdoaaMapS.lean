/- A map of numbers to strings that the call makes, told by a plain function; as a thing of its own. No condition. -/
import Derived.Test.YtodjmeodcmbdoaaProg
import Derived.Test.YtodjmeodcmbdoaaBox
import Derived.Maps.OwnSet
import Derived.Maps.OwnOps
import Derived.Maps.StringElems
set_option linter.unusedVariables false
set_option linter.unusedSimpArgs false
namespace Go.Proofs.Ytodjmeodcmbdoaa
open Go.RowKit Go.Maps
abbrev tKi : TypeId := 3
abbrev tEs : TypeId := 9
theorem lawKi : Keyed Try.prog tKi := int_keyed Try.underlying3
theorem wfKi {k : Int} (h : -9223372036854775808 ≤ k ∧ k ≤ 9223372036854775807) : (Lit.int .i64 k).wf = true := by
  simp [Lit.wf, IntKind.min, IntKind.max, IntKind.signed, IntKind.bits]; omega
def strOf? (D : DataW Unit) (k : Int) : Option ByteArray :=
  if Maps.has D (.int .i64 k) = true then (match D.atKey (.int .i64 k) (.lit (.string [])) with
    | .lit (.string l) => some ⟨l.toArray⟩
    | _ => none) else none
/-- The map in block b: at most n entries; f tells what stands at a number. -/
def MapSt (w : World) (b n : Nat) (f : Int → Option ByteArray) : Prop :=
  ∃ D : DataW Unit, w.ownsMap Try.prog tKi (plainElem Try.prog tEs) b n D ∧ ∀ k : Int, Maps.has D (.int .i64 k) = (f k).isSome ∧ ∀ s, f k = some s → ∀ z, D.atKey (.int .i64 k) z = .lit (.string s.data.toList)
def tMap (b n : Nat) (f : Int → Option ByteArray) : Th where
  ok W := MapSt W b n f
  fp k := k = b
  lt W h k e := by
    obtain ⟨D, h1, _⟩ := h
    have e : k = b := e
    rw [e]
    exact h1.lt
  keep W W' h hl hk := by
    obtain ⟨D, h1, h2⟩ := h
    have hlt := h1.lt
    refine ⟨D, ?_, h2⟩
    obtain ⟨es, clock, hb, F, hs, hD⟩ := h1
    exact ⟨es, clock, (hk b hlt rfl).trans hb, F, hs, hD⟩
theorem MapSt.made (w : World) {b : Nat} (hb : w.heap.size = b) : MapSt (w.alloc (.map #[] 0)) b 0 (fun _ => none) := by
  subst hb
  exact ⟨_, World.ownsMap_made _ _ _ _, fun k => ⟨rfl, fun s h => by cases h⟩⟩
section
variable {ops : Array Oper} {rest : List Oper} {o : Oper} {a : Act} {w : World} {Q : Exit → Act → World → Prop}
theorem str_data {s t : ByteArray} (h : s.data.toList = t.data.toList) : s = t := by
  cases s; cases t
  simpa using h
/-- v, ok := m[k]. -/
theorem map_look {b n : Nat} {f : Int → Option ByteArray} (h : MapSt w b n f) (hg : o.guard = none) (m x : Operand) (t : TypeId) (hop : o.op = Op.lookup t m x true) (ht : Try.prog.underlying t = some (.map tKi tEs)) (hz : (zeroValue tEs).run Try.prog w = .ok (.string ByteArray.empty) w)
    (k : Int) (hk : -9223372036854775808 ≤ k ∧ k ≤ 9223372036854775807) (hm : a.eval m = .map (some b)) (hx : a.eval x = .int .i64 k)
    (hK : ∀ s, (∀ s', f k = some s' → s = s') → wpList Try.prog ops Q rest (a.put o.dst (.tuple #[.string s, .bool (f k).isSome])) w) : wpList Try.prog ops Q (o :: rest) a w := by
  obtain ⟨D, h1, h2⟩ := h
  refine wpList_lookup_own_ok w hg m x t hop tKi tEs lawKi ht (plainElem Try.prog tEs) hz (.lit (.string [])) [] (plainElem_string Try.underlying9 (by decide)) b n D hm h1 _ _ hx (keyOf_int_mk Try.underlying3 (wfKi hk)) (fun v ps hv => ?_)
  obtain ⟨s, rfl, hs, _⟩ := plainElem_string_inv Try.underlying9 hv
  rw [(h2 k).1]
  refine hK s (fun s' hs' => ?_)
  have e1 := (h2 k).2 s' hs' (.lit (.string []))
  have e2 := congrArg Prod.fst hs
  simp only at e2
  rw [e1] at e2
  simp only [DataW.lit.injEq, Lit.string.injEq] at e2
  exact (str_data e2).symm
/-- m[k] = s. -/
theorem map_put {b n : Nat} {f : Int → Option ByteArray} (h : MapSt w b n f) (hn : n < maxLen) (hg : o.guard = none) (m x v : Operand) (t : TypeId) (hop : o.op = Op.mapUpdate t m x v) (ht : Try.prog.underlying t = some (.map tKi tEs))
    (k : Int) (hk : -9223372036854775808 ≤ k ∧ k ≤ 9223372036854775807) (s : ByteArray) (hs : s.size ≤ maxLen) (hm : a.eval m = .map (some b)) (hx : a.eval x = .int .i64 k) (hv : a.eval v = .string s)
    (hK : ∀ w', MapSt w' b (n + 1) (fun j => if j = k then some s else f j) → Upd (fun j => j = b) w w' → wpList Try.prog ops Q rest (a.put o.dst undef) w') : wpList Try.prog ops Q (o :: rest) a w := by
  obtain ⟨D, h1, h2⟩ := h
  refine wpList_mapUpdate_own w hg m x v t hop tKi tEs lawKi ht (plainElem Try.prog tEs) b n D hm h1 hn _ _ _ hx hv (keyOf_int_mk Try.underlying3 (wfKi hk)) _ [] (plainElem_string Try.underlying9 hs) (fun w' h3 h4 => ?_)
  refine hK w' ⟨_, h3, fun j => ?_⟩ ((Upd.of_grown h4).mono (fun q _ hq => by injection hq))
  by_cases e : j = k
  · subst e
    simp only [if_true, Option.isSome_some, Option.some.injEq]
    refine ⟨has_put_same h1.isMap (show WideAt.IsKeyLit (.int .i64 j) from trivial) _, fun s' hs' z => ?_⟩
    subst hs'
    exact atKey_put_same h1.isMap (show WideAt.IsKeyLit (.int .i64 j) from trivial) _ z
  · have hne : (Lit.int .i64 j) ≠ Lit.int .i64 k := fun h => e (by injection h)
    simp only [if_neg e]
    refine ⟨(has_put_other hne _).trans (h2 j).1, fun s' hs' z => ?_⟩
    rw [atKey_put_other hne]
    exact (h2 j).2 s' hs' z
end
theorem Sep.mapPut {w W W1 : World} {l : List Th} {b n n' : Nat} {f f' : Int → Option ByteArray} (h : Sep w W (tMap b n f :: l)) (hm : MapSt W1 b n' f') (u : Upd (fun j => j = b) W W1) : Sep w W1 (tMap b n' f' :: l) :=
  h.op (t' := tMap b n' f') hm u (fun k hk => .inl hk)
theorem Sep.newMap {w W : World} {l : List Th} (h : Sep w W l) {b : Nat} (hb : W.heap.size = b) : Sep w (W.alloc (.map #[] 0)) (tMap b 0 (fun _ => none) :: l) :=
  h.new (t := tMap b 0 (fun _ => none)) ((Below.refl _ _).alloc (Nat.le_refl _) _) (MapSt.made W hb) (fun k hk => by
    have hk : k = b := hk
    omega)
theorem zeroEs (w : World) : (zeroValue tEs).run Try.prog w = .ok (.string ByteArray.empty) w := by kernel_rfl
end Go.Proofs.Ytodjmeodcmbdoaa
