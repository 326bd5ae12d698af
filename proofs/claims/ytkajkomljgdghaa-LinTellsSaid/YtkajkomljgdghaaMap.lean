/- Maps told by a plain function of the keys' values, whatever the elements; ranges over them. No condition. -/
import Derived.Test.YtkajkomljgdghaaProg
import Derived.Test.YtkajkomljgdghaaSep
import Derived.Maps.OwnSet
import Derived.Maps.OwnOps
import Derived.Maps.RangeWalk
import Derived.WideKeyEntry
set_option linter.unusedVariables false
set_option linter.unusedSimpArgs false
namespace Go.Proofs.Ytkajkomljgdghaa
open Go.RowKit Go.Maps Go.ChangeMaps Go.MapKept
/-- An element read as it lies there. -/
def rawE (v : Value) : Option (DataW Value × List MemPlace) := some (.held v, [])
/-- key is a key of the type kt. -/
def KeyV (kt : TypeId) (key : Value) : Prop := ∃ kl, keyOf Try.prog kt key = some kl
/-- D tells what f tells. -/
def Says (kt : TypeId) (D : DataW Value) (f : Value → Option Value) : Prop :=
  ∀ key kl, keyOf Try.prog kt key = some kl → Maps.has D kl = (f key).isSome ∧ ∀ v, f key = some v → ∀ z, D.atKey kl z = .held v
/-- The map in block b: at most n entries; f tells what stands at a key. -/
def MapV (w : World) (kt : TypeId) (b n : Nat) (f : Value → Option Value) : Prop :=
  ∃ D : DataW Value, w.ownsMap Try.prog kt rawE b n D ∧ Says kt D f
open Classical in
noncomputable def putV (f : Value → Option Value) (key v : Value) : Value → Option Value := fun k => if k = key then some v else f k
open Classical in
noncomputable def delV (f : Value → Option Value) (key : Value) : Value → Option Value := fun k => if k = key then none else f k
open Classical in
noncomputable def strikeV (todo : Value → Bool) (key : Value) : Value → Bool := fun k => if k = key then false else todo k
theorem putV_same (f : Value → Option Value) (key v : Value) : putV f key v key = some v := by unfold putV; rw [if_pos rfl]
theorem putV_other (f : Value → Option Value) {key k : Value} (v : Value) (h : k ≠ key) : putV f key v k = f k := by unfold putV; rw [if_neg h]
theorem putV_put (f : Value → Option Value) (key u v : Value) : putV (putV f key u) key v = putV f key v := by
  funext k
  unfold putV
  split
  · rfl
  · rfl
theorem delV_same (f : Value → Option Value) (key : Value) : delV f key key = none := by unfold delV; rw [if_pos rfl]
theorem delV_other (f : Value → Option Value) {key k : Value} (h : k ≠ key) : delV f key k = f k := by unfold delV; rw [if_neg h]
theorem strikeV_same (f : Value → Bool) (key : Value) : strikeV f key key = false := by unfold strikeV; rw [if_pos rfl]
theorem strikeV_other (f : Value → Bool) {key k : Value} (h : k ≠ key) : strikeV f key k = f k := by unfold strikeV; rw [if_neg h]
/-- The map, in which an entry is marked: the one at key, by its stamp. -/
def EntryV (w : World) (kt : TypeId) (b n : Nat) (f : Value → Option Value) (key : Value) (st : Nat) : Prop :=
  MapV w kt b n f ∧ ∃ es clock e0, w.heap[b]? = some (.map es clock) ∧ e0 ∈ es.toList ∧ e0.key = key ∧ e0.born = st
/-- A range over the map in block b, its iterator in block r: todo tells which keys are still to come. -/
def RangeV (w : World) (kt : TypeId) (b r n : Nat) (f : Value → Option Value) (todo : Value → Bool) (cnt : Nat) : Prop :=
  ∃ (D : DataW Value) (left : Lit → Bool), w.ranges Try.prog kt rawE b r n D left cnt ∧ Says kt D f ∧ ∀ key kl, keyOf Try.prog kt key = some kl → left kl = todo key
/-- .. at an entry. -/
def AtV (w : World) (kt : TypeId) (b r n : Nat) (f : Value → Option Value) (todo : Value → Bool) (cnt : Nat) (key v : Value) : Prop :=
  RangeV w kt b r n f todo cnt ∧ (Instr.entry (.pointer (some ⟨r, 0, none⟩))).run Try.prog w = .ok (.tuple #[key, v]) w
theorem MapV.lt {w : World} {kt : TypeId} {b n : Nat} {f : Value → Option Value} (h : MapV w kt b n f) : b < w.heap.size := by
  obtain ⟨D, h1, _⟩ := h
  exact h1.lt
theorem MapV.keep {W W' : World} {kt : TypeId} {b n : Nat} {f : Value → Option Value} (h : MapV W kt b n f) (hk : W'.heap[b]? = W.heap[b]?) : MapV W' kt b n f := by
  obtain ⟨D, h1, h2⟩ := h
  refine ⟨D, ?_, h2⟩
  obtain ⟨es, clock, hb, F, hs, hD⟩ := h1
  exact ⟨es, clock, hk.trans hb, F, hs, hD⟩
def tMapV (kt : TypeId) (b n : Nat) (f : Value → Option Value) : Th where
  ok W := MapV W kt b n f
  fp k := k = b
  lt W h k e := by
    have e : k = b := e
    rw [e]
    exact h.lt
  keep W W' h hl hk := h.keep (hk b h.lt rfl)
def tEntryV (kt : TypeId) (b n : Nat) (f : Value → Option Value) (key : Value) (st : Nat) : Th where
  ok W := EntryV W kt b n f key st
  fp k := k = b
  lt W h k e := by
    have e : k = b := e
    rw [e]
    exact h.1.lt
  keep W W' h hl hk := by
    have e := hk b h.1.lt rfl
    obtain ⟨h1, es, clock, e0, h2, h3⟩ := h
    exact ⟨h1.keep e, es, clock, e0, e.trans h2, h3⟩
theorem RangeV.keep {W W' : World} {kt : TypeId} {b r n cnt : Nat} {f : Value → Option Value} {todo : Value → Bool} (h : RangeV W kt b r n f todo cnt) (hb' : W'.heap[b]? = W.heap[b]?) (hr' : W'.heap[r]? = W.heap[r]?) : RangeV W' kt b r n f todo cnt := by
  obtain ⟨D, left, h1, h2⟩ := h
  refine ⟨D, left, ?_, h2⟩
  obtain ⟨es, clock, since, seen, c0, hb, F, hs, hD, hr, rest⟩ := h1
  exact ⟨es, clock, since, seen, c0, hb'.trans hb, F, hs, hD, hr'.trans hr, rest⟩
theorem RangeV.lt {w : World} {kt : TypeId} {b r n cnt : Nat} {f : Value → Option Value} {todo : Value → Bool} (h : RangeV w kt b r n f todo cnt) : b < w.heap.size ∧ r < w.heap.size := by
  obtain ⟨D, left, h1, _⟩ := h
  exact ⟨h1.owns.lt, h1.lt⟩
def tRangeV (kt : TypeId) (b r n : Nat) (f : Value → Option Value) (todo : Value → Bool) (cnt : Nat) : Th where
  ok W := RangeV W kt b r n f todo cnt
  fp k := k = b ∨ k = r
  lt W h k e := by
    rcases e with e | e <;> subst e
    · exact h.lt.1
    · exact h.lt.2
  keep W W' h hl hk := h.keep (hk b h.lt.1 (.inl rfl)) (hk r h.lt.2 (.inr rfl))
section
variable {kt et t : TypeId} {b r n cnt : Nat} {f : Value → Option Value} {todo : Value → Bool}
theorem MapV.made (w : World) (kt : TypeId) {b : Nat} (hb : w.heap.size = b) : MapV (w.alloc (.map #[] 0)) kt b 0 (fun _ => none) := by
  subst hb
  exact ⟨_, World.ownsMap_made _ _ _ _, fun key kl _ => ⟨rfl, fun s h => by cases h⟩⟩
theorem MapV.mono {w : World} (h : MapV w kt b n f) {n' : Nat} (hn : n ≤ n') : MapV w kt b n' f := by
  obtain ⟨D, h1, h2⟩ := h
  exact ⟨D, h1.mono hn, h2⟩
theorem RangeV.owns {w : World} (h : RangeV w kt b r n f todo cnt) : MapV w kt b n f := by
  obtain ⟨D, left, h1, h2, _⟩ := h
  exact ⟨D, h1.owns, h2⟩
theorem Says.at {D : DataW Value} (h : Says kt D f) {key : Value} {kl : Lit} (hk : keyOf Try.prog kt key = some kl) (z : Value) : D.atKey kl (.held z) = .held ((f key).getD z) := by
  obtain ⟨h1, h2⟩ := h key kl hk
  cases hf : f key with
  | none => rw [hf] at h1; exact atKey_of_not_has h1 _
  | some v => exact h2 v hf _
theorem Says.put {D : DataW Value} (h : Says kt D f) (K : Keyed Try.prog kt) (hD : IsMap D) {key : Value} {kl : Lit} (hk : keyOf Try.prog kt key = some kl) (v : Value) : Says kt (D.put kl (.held v)) (putV f key v) := by
  intro k l hl
  by_cases e : k = key
  · subst e
    rw [hk] at hl
    cases hl
    rw [putV_same]
    exact ⟨has_put_same hD (K.key hk) _, fun v' hv' z => by cases hv'; exact atKey_put_same hD (K.key hk) _ z⟩
  · have hne : l ≠ kl := fun h' => e (K.inj hl (h' ▸ hk))
    rw [putV_other _ _ e]
    exact ⟨(has_put_other hne _).trans (h k l hl).1, fun v' hv' z => by rw [atKey_put_other hne]; exact (h k l hl).2 v' hv' z⟩
theorem Says.del {D : DataW Value} (h : Says kt D f) (K : Keyed Try.prog kt) {key : Value} {kl : Lit} (hk : keyOf Try.prog kt key = some kl) : Says kt (D.del kl) (delV f key) := by
  intro k l hl
  by_cases e : k = key
  · subst e
    rw [hk] at hl
    cases hl
    rw [delV_same]
    exact ⟨has_del_same, fun v' hv' => by cases hv'⟩
  · have hne : l ≠ kl := fun h' => e (K.inj hl (h' ▸ hk))
    rw [delV_other _ e]
    exact ⟨(has_del_other hne).trans (h k l hl).1, fun v' hv' z => by rw [atKey_del_other hne]; exact (h k l hl).2 v' hv' z⟩
/-- How many entries: none just where there is no key. -/
theorem MapV.len {w : World} (h : MapV w kt b n f) (K : Keyed Try.prog kt) (ht : Try.prog.underlying t = some (.map kt et)) : ∃ N : Nat, (∀ ty : TypeId, (Builtin.len_ #[t] ty #[.map (some b)]).run Try.prog w = .ok (.int .i64 (N : Int)) w) ∧
    N ≤ n ∧ ((∀ key, KeyV kt key → f key = none) → N = 0) ∧ (N = 0 → ∀ key, KeyV kt key → f key = none) := by
  obtain ⟨D, h1, h2⟩ := h
  refine ⟨Maps.size D, fun ty => h1.len ht ty, h1.size_le, fun hn => ?_, fun h0 key hk => ?_⟩
  · obtain ⟨es, clock, hb, F, hs, rfl⟩ := h1
    cases hes : es.toList with
    | nil => rfl
    | cons x l =>
      exfalso
      obtain ⟨y, hy⟩ := F.reads x (by rw [hes]; simp)
      have hx := WideElems.rd_key hy
      have h4 := (h2 x.key _ hx).1
      rw [hn x.key ⟨_, hx⟩] at h4
      have h3 : Maps.has (DataW.map ((es.toList.map (WideElems.rg Try.prog kt rawE)).foldr DataW.insert [])) y.1 = true :=
        List.any_eq_true.2 ⟨WideElems.rg Try.prog kt rawE x, mem_sorted.2 (List.mem_map.2 ⟨x, by rw [hes]; simp, rfl⟩), by rw [WideElems.rg_of hy]; exact WideAt.sameKey_self (K.key hx)⟩
      rw [h3] at h4
      cases h4
  · obtain ⟨kl, hkl⟩ := hk
    cases hf : f key with
    | none => rfl
    | some v =>
      exfalso
      have h4 := (h2 key kl hkl).1
      rw [hf] at h4
      obtain ⟨es, rfl⟩ := h1.isMap
      rw [size_eq] at h0
      have h5 : es = [] := List.eq_nil_of_length_eq_zero h0
      subst h5
      simp [Maps.has] at h4
theorem MapV.look {w : World} (h : MapV w kt b n f) (K : Keyed Try.prog kt) (ht : Try.prog.underlying t = some (.map kt et)) {z : Value} (hz : (zeroValue et).run Try.prog w = .ok z w) {key : Value} (hk : KeyV kt key) :
    (Instr.lookup t (.map (some b)) key false).run Try.prog w = .ok ((f key).getD z) w ∧ (Instr.lookup t (.map (some b)) key true).run Try.prog w = .ok (.tuple #[(f key).getD z, .bool (f key).isSome]) w := by
  obtain ⟨D, h1, h2⟩ := h
  obtain ⟨kl, hkl⟩ := hk
  constructor
  · obtain ⟨v, ps, hrun, hv⟩ := h1.lookup K ht hz (zd := .held z) (zp := []) rfl hkl
    rw [h2.at hkl] at hv
    have e : DataW.held v = DataW.held ((f key).getD z) := congrArg Prod.fst (Option.some.inj hv)
    rw [hrun]
    injection e with e
    rw [e]
  · obtain ⟨v, ps, hrun, hv⟩ := h1.look_ok K ht hz (zd := .held z) (zp := []) rfl hkl
    rw [h2.at hkl] at hv
    have e : DataW.held v = DataW.held ((f key).getD z) := congrArg Prod.fst (Option.some.inj hv)
    rw [hrun, (h2 key kl hkl).1]
    injection e with e
    rw [e]
theorem turned_upd {w w' : World} (h : w.mapTurned w' b) : Upd (fun k => k = b) w w' := (Upd.of_grown h.grown).mono (fun q _ hq => by injection hq)
theorem MapV.put {w : World} (h : MapV w kt b n f) (K : Keyed Try.prog kt) (ht : Try.prog.underlying t = some (.map kt et)) (hn : n < maxLen) {key : Value} (hk : KeyV kt key) (v : Value) :
    ∃ w', (Instr.mapUpdate t (.map (some b)) key v).run Try.prog w = .ok () w' ∧ MapV w' kt b (n + 1) (putV f key v) ∧ Upd (fun k => k = b) w w' := by
  obtain ⟨D, h1, h2⟩ := h
  obtain ⟨kl, hkl⟩ := hk
  obtain ⟨w', hrun, h3, h4⟩ := h1.store K ht hn (val := v) (d := .held v) (ps := []) hkl rfl
  exact ⟨w', hrun, ⟨_, h3, h2.put K h1.isMap hkl v⟩, turned_upd h4⟩
theorem MapV.drop {w : World} (h : MapV w kt b n f) (K : Keyed Try.prog kt) (ht : Try.prog.underlying t = some (.map kt et)) {key : Value} (hk : KeyV kt key) (ty : TypeId) :
    ∃ w', (Builtin.delete_ #[t, kt] ty #[.map (some b), key]).run Try.prog w = .ok (.tuple #[]) w' ∧ MapV w' kt b n (delV f key) ∧ Upd (fun k => k = b) w w' := by
  obtain ⟨D, h1, h2⟩ := h
  obtain ⟨kl, hkl⟩ := hk
  obtain ⟨w', hrun, h3, h4⟩ := h1.drop K ht hkl ty
  exact ⟨w', hrun, ⟨_, h3, h2.del K hkl⟩, turned_upd h4⟩
theorem MapV.range {w : World} (h : MapV w kt b n f) (K : Keyed Try.prog kt) (ht : Try.prog.underlying t = some (.map kt et)) :
    ∃ w' cnt, (Instr.range t (.map (some b))).run Try.prog w = .ok (.pointer (some ⟨w.heap.size, 0, none⟩)) w' ∧ RangeV w' kt b w.heap.size n f (fun k => (f k).isSome) cnt ∧ cnt ≤ n ∧ Below w.heap.size w w' := by
  obtain ⟨D, h1, h2⟩ := h
  obtain ⟨w', hrun, h3, h4, h5⟩ := h1.range K ht
  exact ⟨w', _, hrun, ⟨D, _, h3, h2, fun key kl hk => (h2 key kl hk).1⟩, h1.size_le, ⟨h4.os, h4.tape, h4.output, h4.size, fun k hk => h4.block k hk (by simp)⟩⟩
theorem RangeV.next {w : World} (h : RangeV w kt b r n f todo cnt) (K : Keyed Try.prog kt) (ty : TypeId) :
    ((∀ key, KeyV kt key → todo key = false) ∧ (Instr.next (.pointer (some ⟨r, 0, none⟩)) false ty).run Try.prog w = .ok (.tuple #[.bool false]) w) ∨
    ∃ key v w' cnt', KeyV kt key ∧ todo key = true ∧ f key = some v ∧ (Instr.next (.pointer (some ⟨r, 0, none⟩)) false ty).run Try.prog w = .ok (.tuple #[.bool true, key, v]) w' ∧
      AtV w' kt b r n f (strikeV todo key) cnt' key v ∧ cnt' < cnt ∧ Upd (fun k => k = r) w w' := by
  obtain ⟨D, left, h1, h2, h3⟩ := h
  rcases h1.next K ty with ⟨h0, hl, hrun⟩ | ⟨key, v, kl, y, w', cnt', hkey, hlk, hv, hat, hrun, hrg, hlt, hgr, hsz, hen⟩
  · exact .inl ⟨fun key ⟨kl, hk⟩ => by rw [← h3 key kl hk]; exact hl kl, hrun⟩
  · have hf : f key = some v := by
      have hv' : y = (.held v, []) := (Option.some.inj hv).symm
      have e : D.atKey kl (.held v) = .held v := by rw [hat, hv']
      cases hfk : f key with
      | some u =>
        have h7 := (h2 key kl hkey).2 u hfk (.held v)
        rw [e] at h7
        exact congrArg some (DataW.held.inj h7).symm
      | none =>
        exfalso
        have h5 := (h2 key kl hkey).1
        rw [hfk] at h5
        have h6 : DataW.held v = .nil := by
          have h6 := atKey_of_not_has h5 (.nil)
          rw [hat .nil, hv'] at h6
          exact h6
        cases h6
    refine .inr ⟨key, v, w', cnt', ⟨kl, hkey⟩, by rw [← h3 key kl hkey]; exact hlk, hf, hrun, ⟨⟨D, _, hrg, h2, fun k l hl => ?_⟩, hen⟩, hlt, (Upd.of_grown hgr).mono (fun q _ hq => by injection hq)⟩
    by_cases e : k = key
    · subst e
      rw [hkey] at hl
      cases hl
      rw [strikeV_same, WideAt.sameKey_self (K.key hkey)]
      simp
    · have hne : l ≠ kl := fun h' => e (K.inj hl (h' ▸ hkey))
      rw [strikeV_other _ e, sameKey_ne hne, h3 k l hl]
      simp
/-- The entry at a key, found or laid: marked. -/
theorem MapV.entry {w : World} (h : MapV w kt b n f) (K : Keyed Try.prog kt) (ht : Try.prog.underlying t = some (.map kt et)) (hn : n < maxLen) {z : Value} (hz : (zeroValue et).run Try.prog w = .ok z w) {key : Value} (hk : KeyV kt key) :
    ∃ (st : Nat) (w' : World), (Instr.mapEntry t (.map (some b)) key).run Try.prog w = .ok (.tuple #[(f key).getD z, .int .i64 (st : Int)]) w' ∧ EntryV w' kt b (n + 1) (putV f key ((f key).getD z)) key st ∧ Upd (fun k => k = b) w w' := by
  obtain ⟨w', hrun, hm, hu⟩ := h.put K ht hn hk ((f key).getD z)
  obtain ⟨D, ⟨es, clock, hb, F, hs, rfl⟩, h2⟩ := h
  obtain ⟨kl, hkey⟩ := hk
  obtain ⟨s1, s2, _⟩ := F.stamped
  rcases K.find w hkey es.toList F.keys with ⟨h1, h3⟩ | ⟨j, e0, h1, h4, h3⟩
  · have hf : f key = none := by
      cases hf : f key with
      | none => rfl
      | some v =>
        exfalso
        have h5 := (h2 key kl hkey).1
        rw [hf] at h5
        obtain ⟨p, hp, hpk⟩ := List.any_eq_true.1 h5
        obtain ⟨x, hx, rfl⟩ := List.mem_map.1 (mem_sorted.1 hp)
        obtain ⟨y, hy⟩ := F.reads x hx
        have hxk := WideElems.rd_key hy
        rw [WideElems.rg_of hy] at hpk
        have e := WideAt.sameKey_eq hpk
        exact h3 x hx (K.inj hxk (e ▸ hkey))
    have e1 : (Instr.mapUpdate t (.map (some b)) key z).run Try.prog w = .ok () (ChangeMaps.setBlock w b (.map (es.push ⟨key, z, clock⟩) (clock + 1))) := by
      simp [Instr.mapUpdate, run_underlying ht, MapKept.run_getObj_map hb, K.check w false hkey, h1, MapKept.run_setObj_map _ hb, Result.andThen, ChangeMaps.setBlock]
    rw [hf] at hrun
    rw [show (none : Option Value).getD z = z from rfl, e1] at hrun
    injection hrun with _ hrun
    subst hrun
    refine ⟨clock, _, ?_, ⟨hm, _, _, ⟨key, z, clock⟩, heap_setBlock_same hb _, by simp, rfl, rfl⟩, hu⟩
    rw [hf]
    simp [Instr.mapEntry, run_underlying ht, MapKept.run_getObj_map hb, K.check w false hkey, h1, hz, MapKept.run_setObj_map _ hb, Result.andThen, ChangeMaps.setBlock, goInt]
  · have hj : es[j]? = some e0 := by simpa using h4
    have he0 : e0 ∈ es.toList := List.mem_of_getElem? h4
    have hf : f key = some e0.val := by
      obtain ⟨y, hy⟩ := F.reads e0 he0
      have hxk := WideElems.rd_key hy
      obtain ⟨zz, hz1, hz2⟩ := WideElems.rd_val hy
      rcases Maps.fit_look false K ht hz hb F hkey with ⟨hr, hno, _⟩ | ⟨e1, y1, he1, hk1, hr, hRv, hat, _⟩
      · exact absurd h3 (hno e0 he0)
      · obtain rfl : e1 = e0 := entry_eq_of_key ((stamped_iff es clock).1 F.stamped).2.2 he1 he0 (hk1.trans h3.symm)
        have h6 := h2 key kl hkey
        cases hf : f key with
        | none =>
          exfalso
          rw [hf] at h6
          have h8 : y1 = (.held e1.val, []) := (Option.some.inj hRv).symm
          have h7 : DataW.held e1.val = .nil := by
            have h7 := atKey_of_not_has h6.1 .nil
            rw [hat, h8] at h7
            exact h7
          cases h7
        | some v =>
          have h8 : y1 = (.held e1.val, []) := (Option.some.inj hRv).symm
          have h7 : DataW.held e1.val = .held v := by
            have h7 := h6.2 v hf .nil
            rw [hat, h8] at h7
            exact h7
          exact congrArg some (DataW.held.inj h7).symm
    have hsame : es.modify j (fun e => { e with key := key }) = es := by
      apply Array.ext'
      rw [Array.toList_modify, ChangeMaps.modify_eq_set _ _ _ _ h4]
      have : ({ e0 with key := key } : MapEntry) = e0 := by rw [← h3]
      rw [this]
      exact WideElems.set_self _ _ _ h4
    have hsame2 : es.modify j (fun e' => { e' with key := key, val := e0.val }) = es := by
      apply Array.ext'
      rw [Array.toList_modify, ChangeMaps.modify_eq_set _ _ _ _ h4]
      have : ({ e0 with key := key, val := e0.val } : MapEntry) = e0 := by rw [← h3]
      rw [this]
      exact WideElems.set_self _ _ _ h4
    rw [hf] at hrun
    have e1 : (Instr.mapUpdate t (.map (some b)) key e0.val).run Try.prog w = .ok () (ChangeMaps.setBlock w b (.map es clock)) := by
      simp [Instr.mapUpdate, run_underlying ht, MapKept.run_getObj_map hb, K.check w false hkey, h1, hj, h3, K.stays w hkey, MapKept.run_setObj_map _ hb, Result.andThen, ChangeMaps.setBlock, hsame2]
    rw [show (some e0.val).getD z = e0.val from rfl, e1] at hrun
    injection hrun with _ hrun
    subst hrun
    refine ⟨e0.born, _, ?_, ⟨hm, es, clock, e0, heap_setBlock_same hb _, he0, h3, rfl⟩, hu⟩
    rw [hf]
    simp [Instr.mapEntry, run_underlying ht, MapKept.run_getObj_map hb, K.check w false hkey, h1, hj, h3, K.stays w hkey, hsame, MapKept.run_setObj_map _ hb, Result.andThen, ChangeMaps.setBlock, goInt]
/-- What is stored at a marked entry. -/
theorem EntryV.store {w : World} {key : Value} {st : Nat} (h : EntryV w kt b n f key st) (K : Keyed Try.prog kt) (ht : Try.prog.underlying t = some (.map kt et)) (hn : n < maxLen) (hk : KeyV kt key) (v : Value) :
    ∃ w', (Instr.entryStore t (.map (some b)) (.int .i64 (st : Int)) v).run Try.prog w = .ok () w' ∧ MapV w' kt b (n + 1) (putV f key v) ∧ Upd (fun k => k = b) w w' := by
  obtain ⟨h, es0, clock0, e0, hb0, he0, hek, hst⟩ := h
  obtain ⟨w', hrun, hm, hu⟩ := h.put K ht hn hk v
  obtain ⟨D, ⟨es, clock, hb, F, hs, rfl⟩, h2⟩ := h
  rw [hb] at hb0
  injection hb0 with hb0
  injection hb0 with e1 e2
  subst e1; subst e2
  obtain ⟨kl, hkey⟩ := hk
  obtain ⟨s1, s2, _⟩ := F.stamped
  rcases K.find w hkey es.toList F.keys with ⟨h1, h3⟩ | ⟨j, e1, h1, h4, h3⟩
  · exact absurd hek (h3 e0 he0)
  · obtain rfl : e1 = e0 := entry_eq_of_key ((stamped_iff es clock).1 F.stamped).2.2 (List.mem_of_getElem? h4) he0 (h3.trans hek.symm)
    have hj : es[j]? = some e1 := by simpa using h4
    have hidx : es.findIdx? (fun e => ((e.born : Nat) : Int) == ((e1.born : Nat) : Int)) = some j := by
      rw [WideElems.findIdx_arr]
      exact WideElems.findIdx_born s2 h4
    have hmod : es.modify j (fun e => { e with val := v }) = es.modify j (fun e' => { e' with key := key, val := v }) := by
      apply Array.ext'
      rw [Array.toList_modify, Array.toList_modify, ChangeMaps.modify_eq_set _ _ _ _ h4, ChangeMaps.modify_eq_set _ _ _ _ h4, ← h3]
    have e2 : (Instr.mapUpdate t (.map (some b)) key v).run Try.prog w = .ok () (ChangeMaps.setBlock w b (.map (es.modify j (fun e' => { e' with key := key, val := v })) clock)) := by
      simp [Instr.mapUpdate, run_underlying ht, MapKept.run_getObj_map hb, K.check w false hkey, h1, hj, h3, K.stays w hkey, MapKept.run_setObj_map _ hb, Result.andThen, ChangeMaps.setBlock]
    rw [e2] at hrun
    injection hrun with _ hrun
    subst hrun
    refine ⟨_, ?_, hm, hu⟩
    rw [← hst]
    simp [Instr.entryStore, MapKept.run_getObj_map hb, asInt, asIntOf, hidx, hmod, MapKept.run_setObj_map _ hb, Result.andThen, ChangeMaps.setBlock]
end
/-! At the operation: in a plain region (wpList), and at a step of one that draws its order. -/
section
variable {kt et t : TypeId} {b r n cnt : Nat} {f : Value → Option Value} {todo : Value → Bool} {ops : Array Oper} {rest : List Oper} {o : Oper} {a : Act} {w : World} {Q : Exit → Act → World → Prop} {K' : Act → World → Prop} {E : Prop}
theorem mapv_look (h : MapV w kt b n f) (K : Keyed Try.prog kt) (ht : Try.prog.underlying t = some (.map kt et)) (hg : o.guard = none) (m x : Operand) (hop : o.op = Op.lookup t m x false) {z : Value} (hz : (zeroValue et).run Try.prog w = .ok z w) (key : Value) (hk : KeyV kt key) (hm : a.eval m = .map (some b)) (hx : a.eval x = key) (u : Value) (hu : (f key).getD z = u)
    (hK : wpList Try.prog ops Q rest (a.put o.dst (u)) w) : wpList Try.prog ops Q (o :: rest) a w := by
  refine wpList_plain hg fun K'' hK' => ?_
  have hrun := (h.look K ht hz hk).1
  rw [hu] at hrun
  unfold Oper.wp
  simp [execOp, hop, hm, hx, hrun, Result.andThen]
  exact hK' _ _ (hK)
theorem mapv_lookOk (h : MapV w kt b n f) (K : Keyed Try.prog kt) (ht : Try.prog.underlying t = some (.map kt et)) (hg : o.guard = none) (m x : Operand) (hop : o.op = Op.lookup t m x true) {z : Value} (hz : (zeroValue et).run Try.prog w = .ok z w) (key : Value) (hk : KeyV kt key) (hm : a.eval m = .map (some b)) (hx : a.eval x = key) (u : Value) (hu : (f key).getD z = u) (ok : Bool) (hok : (f key).isSome = ok)
    (hK : wpList Try.prog ops Q rest (a.put o.dst (.tuple #[u, .bool ok])) w) : wpList Try.prog ops Q (o :: rest) a w := by
  refine wpList_plain hg fun K'' hK' => ?_
  have hrun := (h.look K ht hz hk).2
  rw [hu, hok] at hrun
  unfold Oper.wp
  simp [execOp, hop, hm, hx, hrun, Result.andThen]
  exact hK' _ _ (hK)
theorem mapv_put (h : MapV w kt b n f) (K : Keyed Try.prog kt) (ht : Try.prog.underlying t = some (.map kt et)) (hg : o.guard = none) (m x v : Operand) (hop : o.op = Op.mapUpdate t m x v) (hn : n < maxLen) (key val : Value) (hk : KeyV kt key) (hm : a.eval m = .map (some b)) (hx : a.eval x = key) (hv : a.eval v = val)
    (hK : ∀ w', MapV w' kt b (n + 1) (putV f key val) → Upd (fun k => k = b) w w' → wpList Try.prog ops Q rest (a.put o.dst (undef)) w') : wpList Try.prog ops Q (o :: rest) a w := by
  refine wpList_plain hg fun K'' hK' => ?_
  obtain ⟨w', hrun, h1, h2⟩ := h.put K ht hn hk val
  unfold Oper.wp
  simp [execOp, hop, hm, hx, hv, hrun, Result.andThen]
  exact hK' _ _ (hK w' h1 h2)
theorem mapv_entry (h : MapV w kt b n f) (K : Keyed Try.prog kt) (ht : Try.prog.underlying t = some (.map kt et)) (hg : o.guard = none) (m x : Operand) (hop : o.op = Op.mapEntry t m x) (hn : n < maxLen) {z : Value} (hz : (zeroValue et).run Try.prog w = .ok z w) (key : Value) (hk : KeyV kt key) (hm : a.eval m = .map (some b)) (hx : a.eval x = key) (u : Value) (hu : (f key).getD z = u)
    (hK : ∀ (st : Nat) w', EntryV w' kt b (n + 1) (putV f key u) key st → Upd (fun k => k = b) w w' → wpList Try.prog ops Q rest (a.put o.dst (.tuple #[u, .int .i64 (st : Int)])) w') : wpList Try.prog ops Q (o :: rest) a w := by
  refine wpList_plain hg fun K'' hK' => ?_
  obtain ⟨st, w', hrun, h1, h2⟩ := h.entry K ht hn hz hk
  rw [hu] at hrun h1
  unfold Oper.wp
  simp [execOp, hop, hm, hx, hrun, Result.andThen]
  exact hK' _ _ (hK st w' h1 h2)
theorem mapv_estore {key : Value} {st : Nat} (h : EntryV w kt b n f key st) (K : Keyed Try.prog kt) (ht : Try.prog.underlying t = some (.map kt et)) (hg : o.guard = none) (m x v : Operand) (hop : o.op = Op.entryStore t m x v) (hn : n < maxLen) (val : Value) (hk : KeyV kt key) (hm : a.eval m = .map (some b)) (hx : a.eval x = .int .i64 (st : Int)) (hv : a.eval v = val)
    (hK : ∀ w', MapV w' kt b (n + 1) (putV f key val) → Upd (fun k => k = b) w w' → wpList Try.prog ops Q rest (a.put o.dst (undef)) w') : wpList Try.prog ops Q (o :: rest) a w := by
  refine wpList_plain hg fun K'' hK' => ?_
  obtain ⟨w', hrun, h1, h2⟩ := h.store K ht hn hk val
  unfold Oper.wp
  simp [execOp, hop, hm, hx, hv, hrun, Result.andThen]
  exact hK' _ _ (hK w' h1 h2)
theorem mapv_len (h : MapV w kt b n f) (K : Keyed Try.prog kt) (ht : Try.prog.underlying t = some (.map kt et)) (hg : o.guard = none) (m : Operand) (hop : o.op = Op.call { callee := Callee.builtin Builtin.len, args := #[m], argTypes := #[t] }) (hm : a.eval m = .map (some b))
    (hK : ∀ N : Nat, N ≤ n → ((∀ key, KeyV kt key → f key = none) → N = 0) → (N = 0 → ∀ key, KeyV kt key → f key = none) → wpList Try.prog ops Q rest (a.put o.dst (.int .i64 (N : Int))) w) : wpList Try.prog ops Q (o :: rest) a w := by
  refine wpList_plain hg fun K'' hK' => ?_
  obtain ⟨N, hrun, h1, h2, h3⟩ := h.len K ht
  unfold Oper.wp
  simp [execOp, hop, resolve, invoke, builtin, hm, hrun o.type, Result.andThen]
  exact hK' _ _ (hK N h1 h2 h3)
theorem mapv_del (h : MapV w kt b n f) (K : Keyed Try.prog kt) (ht : Try.prog.underlying t = some (.map kt et)) (hg : o.guard = none) (m x : Operand) (hop : o.op = Op.call { callee := Callee.builtin Builtin.delete, args := #[m, x], argTypes := #[t, kt] }) (key : Value) (hk : KeyV kt key) (hm : a.eval m = .map (some b)) (hx : a.eval x = key)
    (hK : ∀ w', MapV w' kt b n (delV f key) → Upd (fun k => k = b) w w' → wpList Try.prog ops Q rest (a.put o.dst (.tuple #[])) w') : wpList Try.prog ops Q (o :: rest) a w := by
  refine wpList_plain hg fun K'' hK' => ?_
  obtain ⟨w', hrun, h1, h2⟩ := h.drop K ht hk o.type
  unfold Oper.wp
  simp [execOp, hop, resolve, invoke, builtin, hm, hx, hrun, Result.andThen]
  exact hK' _ _ (hK w' h1 h2)
theorem mapv_range (h : MapV w kt b n f) (K : Keyed Try.prog kt) (ht : Try.prog.underlying t = some (.map kt et)) (hg : o.guard = none) (m : Operand) (hop : o.op = Op.range t m) {g : Nat} (hgs : w.heap.size = g) (hm : a.eval m = .map (some b))
    (hK : ∀ w' cnt, RangeV w' kt b g n f (fun k => (f k).isSome) cnt → cnt ≤ n → Below w.heap.size w w' → wpList Try.prog ops Q rest (a.put o.dst (.pointer (some ⟨g, 0, none⟩))) w') : wpList Try.prog ops Q (o :: rest) a w := by
  subst hgs
  refine wpList_plain hg fun K'' hK' => ?_
  obtain ⟨w', cnt, hrun, h1, h2, h3⟩ := h.range K ht
  unfold Oper.wp
  simp [execOp, hop, hm, hrun, Result.andThen]
  exact hK' _ _ (hK w' cnt h1 h2 h3)
theorem mapv_next (h : RangeV w kt b r n f todo cnt) (K : Keyed Try.prog kt) (hg : o.guard = none) (it : Operand) (hop : o.op = Op.next it false) (hit : a.eval it = .pointer (some ⟨r, 0, none⟩))
    (hD : (∀ key, KeyV kt key → todo key = false) → wpList Try.prog ops Q rest (a.put o.dst (.tuple #[.bool false])) w)
    (hM : ∀ key v w' cnt', KeyV kt key → todo key = true → f key = some v → AtV w' kt b r n f (strikeV todo key) cnt' key v → cnt' < cnt → Upd (fun k => k = r) w w' → wpList Try.prog ops Q rest (a.put o.dst (.tuple #[.bool true, key, v])) w') : wpList Try.prog ops Q (o :: rest) a w := by
  refine wpList_plain hg fun K'' hK' => ?_
  unfold Oper.wp
  rcases h.next K o.type with ⟨h0, hrun⟩ | ⟨key, v, w', cnt', h1, h2, h3, hrun, h4, h5, h6⟩
  · simp [execOp, hop, hit, hrun, Result.andThen]
    exact hK' _ _ (hD h0)
  · simp [execOp, hop, hit, hrun, Result.andThen]
    exact hK' _ _ (hM key v w' cnt' h1 h2 h3 h4 h5 h6)
theorem stepv_look (h : MapV w kt b n f) (K : Keyed Try.prog kt) (ht : Try.prog.underlying t = some (.map kt et)) (hg : o.guard = none) (m x : Operand) (hop : o.op = Op.lookup t m x false) {z : Value} (hz : (zeroValue et).run Try.prog w = .ok z w) (key : Value) (hk : KeyV kt key) (hm : a.eval m = .map (some b)) (hx : a.eval x = key) (u : Value) (hu : (f key).getD z = u)
    (hK : K' (a.put o.dst (u)) w) : if Region.wanted o (yielded ops a.tmps) = true then Oper.wp Try.prog o a w K' Q else E := by
  have hw : Region.wanted o (yielded ops a.tmps) = true := by simp [Region.wanted, hg]
  rw [if_pos hw]
  have hrun := (h.look K ht hz hk).1
  rw [hu] at hrun
  unfold Oper.wp
  simp [execOp, hop, hm, hx, hrun, Result.andThen]
  exact hK
theorem stepv_lookOk (h : MapV w kt b n f) (K : Keyed Try.prog kt) (ht : Try.prog.underlying t = some (.map kt et)) (hg : o.guard = none) (m x : Operand) (hop : o.op = Op.lookup t m x true) {z : Value} (hz : (zeroValue et).run Try.prog w = .ok z w) (key : Value) (hk : KeyV kt key) (hm : a.eval m = .map (some b)) (hx : a.eval x = key) (u : Value) (hu : (f key).getD z = u) (ok : Bool) (hok : (f key).isSome = ok)
    (hK : K' (a.put o.dst (.tuple #[u, .bool ok])) w) : if Region.wanted o (yielded ops a.tmps) = true then Oper.wp Try.prog o a w K' Q else E := by
  have hw : Region.wanted o (yielded ops a.tmps) = true := by simp [Region.wanted, hg]
  rw [if_pos hw]
  have hrun := (h.look K ht hz hk).2
  rw [hu, hok] at hrun
  unfold Oper.wp
  simp [execOp, hop, hm, hx, hrun, Result.andThen]
  exact hK
theorem stepv_put (h : MapV w kt b n f) (K : Keyed Try.prog kt) (ht : Try.prog.underlying t = some (.map kt et)) (hg : o.guard = none) (m x v : Operand) (hop : o.op = Op.mapUpdate t m x v) (hn : n < maxLen) (key val : Value) (hk : KeyV kt key) (hm : a.eval m = .map (some b)) (hx : a.eval x = key) (hv : a.eval v = val)
    (hK : ∀ w', MapV w' kt b (n + 1) (putV f key val) → Upd (fun k => k = b) w w' → K' (a.put o.dst (undef)) w') : if Region.wanted o (yielded ops a.tmps) = true then Oper.wp Try.prog o a w K' Q else E := by
  have hw : Region.wanted o (yielded ops a.tmps) = true := by simp [Region.wanted, hg]
  rw [if_pos hw]
  obtain ⟨w', hrun, h1, h2⟩ := h.put K ht hn hk val
  unfold Oper.wp
  simp [execOp, hop, hm, hx, hv, hrun, Result.andThen]
  exact hK w' h1 h2
theorem stepv_entry (h : MapV w kt b n f) (K : Keyed Try.prog kt) (ht : Try.prog.underlying t = some (.map kt et)) (hg : o.guard = none) (m x : Operand) (hop : o.op = Op.mapEntry t m x) (hn : n < maxLen) {z : Value} (hz : (zeroValue et).run Try.prog w = .ok z w) (key : Value) (hk : KeyV kt key) (hm : a.eval m = .map (some b)) (hx : a.eval x = key) (u : Value) (hu : (f key).getD z = u)
    (hK : ∀ (st : Nat) w', EntryV w' kt b (n + 1) (putV f key u) key st → Upd (fun k => k = b) w w' → K' (a.put o.dst (.tuple #[u, .int .i64 (st : Int)])) w') : if Region.wanted o (yielded ops a.tmps) = true then Oper.wp Try.prog o a w K' Q else E := by
  have hw : Region.wanted o (yielded ops a.tmps) = true := by simp [Region.wanted, hg]
  rw [if_pos hw]
  obtain ⟨st, w', hrun, h1, h2⟩ := h.entry K ht hn hz hk
  rw [hu] at hrun h1
  unfold Oper.wp
  simp [execOp, hop, hm, hx, hrun, Result.andThen]
  exact hK st w' h1 h2
theorem stepv_estore {key : Value} {st : Nat} (h : EntryV w kt b n f key st) (K : Keyed Try.prog kt) (ht : Try.prog.underlying t = some (.map kt et)) (hg : o.guard = none) (m x v : Operand) (hop : o.op = Op.entryStore t m x v) (hn : n < maxLen) (val : Value) (hk : KeyV kt key) (hm : a.eval m = .map (some b)) (hx : a.eval x = .int .i64 (st : Int)) (hv : a.eval v = val)
    (hK : ∀ w', MapV w' kt b (n + 1) (putV f key val) → Upd (fun k => k = b) w w' → K' (a.put o.dst (undef)) w') : if Region.wanted o (yielded ops a.tmps) = true then Oper.wp Try.prog o a w K' Q else E := by
  have hw : Region.wanted o (yielded ops a.tmps) = true := by simp [Region.wanted, hg]
  rw [if_pos hw]
  obtain ⟨w', hrun, h1, h2⟩ := h.store K ht hn hk val
  unfold Oper.wp
  simp [execOp, hop, hm, hx, hv, hrun, Result.andThen]
  exact hK w' h1 h2
end
/-! Among other things. -/
section
variable {w W W1 : World} {l : List Th} {kt : TypeId} {b r n n' cnt cnt' st : Nat} {f f' : Value → Option Value} {todo todo' : Value → Bool} {key : Value}
theorem Sep.mapPut (h : Sep w W (tMapV kt b n f :: l)) (hm : MapV W1 kt b n' f') (u : Upd (fun k => k = b) W W1) : Sep w W1 (tMapV kt b n' f' :: l) :=
  h.op (t' := tMapV kt b n' f') hm u (fun k hk => .inl hk)
theorem Sep.mapMark (h : Sep w W (tMapV kt b n f :: l)) (hm : EntryV W1 kt b n' f' key st) (u : Upd (fun k => k = b) W W1) : Sep w W1 (tEntryV kt b n' f' key st :: l) :=
  h.op (t' := tEntryV kt b n' f' key st) hm u (fun k hk => .inl hk)
theorem Sep.markPut (h : Sep w W (tEntryV kt b n f key st :: l)) (hm : MapV W1 kt b n' f') (u : Upd (fun k => k = b) W W1) : Sep w W1 (tMapV kt b n' f' :: l) :=
  h.op (t' := tMapV kt b n' f') hm u (fun k hk => .inl hk)
theorem Sep.newMap (h : Sep w W l) (kt : TypeId) {b : Nat} (hb : W.heap.size = b) : Sep w (W.alloc (.map #[] 0)) (tMapV kt b 0 (fun _ => none) :: l) :=
  h.new (t := tMapV kt b 0 (fun _ => none)) ((Below.refl _ _).alloc (Nat.le_refl _) _) (MapV.made W kt hb) (fun k hk => by
    have hk : k = b := hk
    omega)
theorem Sep.mapRange (h : Sep w W (tMapV kt b n f :: l)) (hr : RangeV W1 kt b r n f todo cnt) (hW : W.heap.size = r) (u : Below W.heap.size W W1) : Sep w W1 (tRangeV kt b r n f todo cnt :: l) :=
  h.op (t' := tRangeV kt b r n f todo cnt) hr (Upd.of_below u) (fun k hk => by
    rcases hk with hk | hk
    · exact .inl hk
    · exact .inr (by omega))
theorem Sep.rangeNext (h : Sep w W (tRangeV kt b r n f todo cnt :: l)) (hr : RangeV W1 kt b r n f todo' cnt') (u : Upd (fun k => k = r) W W1) : Sep w W1 (tRangeV kt b r n f todo' cnt' :: l) :=
  h.op (t' := tRangeV kt b r n f todo' cnt') hr (u.mono fun k _ hk => .inr hk) (fun k hk => .inl hk)
theorem Sep.rangeMap (h : Sep w W (tRangeV kt b r n f todo cnt :: l)) : Sep w W (tMapV kt b n f :: l) :=
  h.as (t' := tMapV kt b n f) (RangeV.owns h.hd) (fun k hk => .inl hk)
end
end Go.Proofs.Ytkajkomljgdghaa
