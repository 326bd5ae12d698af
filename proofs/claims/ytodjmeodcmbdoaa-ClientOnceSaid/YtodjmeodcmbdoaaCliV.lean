/- A client in memory, as a thing of its own; what stores make of it. No condition. -/
import Derived.Test.YtodjmeodcmbdoaaCliM
import Derived.Test.YtodjmeodcmbdoaaBox
set_option linter.unusedVariables false
set_option linter.unusedSimpArgs false
namespace Go.Proofs.Ytodjmeodcmbdoaa
open Go.RowKit
abbrev tCa : TypeId := 31
abbrev tRs : TypeId := 51
abbrev tLt : TypeId := 39
abbrev tCl : TypeId := 67
abbrev tRc : TypeId := 46
theorem Try.infoCa : (Try.prog.info? tCa).map (fun i => (i.zero, i.size, i.bytes)) = some (some (.agg #[.int .i64 0, .int .i64 0, .string ByteArray.empty]), 3, 32) := by kernel_rfl
theorem Try.infoRs : (Try.prog.info? tRs).map (fun i => (i.zero, i.size, i.bytes)) = some (some (.agg #[.int .i64 0, .string ByteArray.empty]), 2, 24) := by kernel_rfl
def eC : Enc Cal := ⟨fun x => [.int .i64 x.op, .int .i64 x.blk, .string x.data], 3, fun _ => rfl, fun _ u hu => by
  simp only [List.mem_cons, List.not_mem_nil, or_false] at hu
  rcases hu with rfl | rfl | rfl <;> rfl⟩
def eRs : Enc Res := ⟨fun x => [.int .i64 x.e, .string x.data], 2, fun _ => rfl, fun _ u hu => by
  simp only [List.mem_cons, List.not_mem_nil, or_false] at hu
  rcases hu with rfl | rfl <;> rfl⟩
def Let.cs (l : Let) : Array Value := #[.int .i64 l.fr, .int .i64 l.rcv, .string l.body]
theorem Own.neOwn {w : World} {e e' : TypeId} {sz sz' n n' : Nat} {v v' : Value} {xs xs' : List Value} (h : Own w e sz v n xs) (h' : Own w e' sz' v' n' xs') (he : e ≠ e') {g : Nat} (hg : v.ownBlock = some g) : v'.ownBlock ≠ some g := by
  intro hg'
  rcases h.2 with ⟨rfl, _⟩ | ⟨g1, cap, cur, rfl, hh, _⟩
  · simp [Value.ownBlock] at hg
  · rcases h'.2 with ⟨rfl, _⟩ | ⟨g2, cap', cur', rfl, hh', _⟩
    · simp [Value.ownBlock] at hg'
    · simp only [Value.ownBlock, Option.some.injEq] at hg hg'
      subst hg
      subst hg'
      rw [hh] at hh'
      injection hh' with hh'
      injection hh' with _ ht
      exact he ht
def tCli (T : TypeId) (b : Nat) (cv rv : Value) (c : Cst) : Th where
  ok W := Blk W b #[.int .i64 c.place, cv, rv, .int .i64 c.node] T ∧ Own W tCa 3 cv c.calls.length (eC.fl c.calls) ∧ Own W tRs 2 rv c.rs.length (eRs.fl c.rs) ∧ tCa ≠ T ∧ tRs ≠ T
  fp k := k = b ∨ cv.ownBlock = some k ∨ rv.ownBlock = some k
  lt W h k hk := by
    rcases hk with rfl | hk | hk
    · exact h.1.lt
    · exact h.2.1.lt hk
    · exact h.2.2.1.lt hk
  keep W W' h hl hk := ⟨(tBlk b _ _).keep W W' h.1 hl (fun k hk1 e => hk k hk1 (.inl e)), h.2.1.keep (fun k hk1 e => hk k hk1 (.inr (.inl e))), h.2.2.1.keep (fun k hk1 e => hk k hk1 (.inr (.inr e))), h.2.2.2⟩
section
variable {w W W1 : World} {l r2 : List Th} {T : TypeId} {b m : Nat} {cv rv v2 : Value} {c : Cst} {rs2 : List Res}
theorem Sep.cli (h : Sep w W (tCli T b cv rv c :: l)) : Blk W b #[.int .i64 c.place, cv, rv, .int .i64 c.node] T ∧ Own W tCa 3 cv c.calls.length (eC.fl c.calls) ∧ Own W tRs 2 rv c.rs.length (eRs.fl c.rs) ∧ tCa ≠ T ∧ tRs ≠ T := h.hd
/-- The results have been appended to, and the new slice is laid into the client. -/
theorem Sep.cliApp (h : Sep w W (tCli T b cv rv c :: l)) {W0 : World} (k : Below W.heap.size W W0) (ho : Own W1 tRs 2 v2 m (eRs.fl rs2)) (hg : W0.grownBy W1 rv.ownBlock) (hat : v2.ownBlock = rv.ownBlock ∨ ∃ q, v2.ownBlock = some q ∧ W0.heap.size ≤ q) (hm : rs2.length = m) :
    Sep w (W1.setCell ⟨b, 2, none⟩ v2) (tCli T b cv v2 (c.put rs2) :: l) := by
  subst hm
  obtain ⟨h1, h2, h3, h4, h5⟩ := h.cli
  have u1 : Upd (fun k => rv.ownBlock = some k) W W1 := (Upd.of_below (S := fun k => rv.ownBlock = some k) k).then (Upd.of_grown hg) (fun i _ hi => hi.symm)
  have hb := h1.upd u1 (fun e' => h3.ne h1 h5 e')
  have hc := h2.upd u1 (fun g hg1 e' => h2.neOwn h3 (by decide) hg1 e')
  refine h.op (t' := tCli T b cv v2 (c.put rs2)) ⟨hb.set 2 v2, hc.setOther (p := ⟨b, 2, none⟩) (hc.ne hb h4) v2, ho.setOther (p := ⟨b, 2, none⟩) (ho.ne hb h5) v2, h4, h5⟩ (Upd.setCell (p := ⟨b, 2, none⟩) (u1.mono fun k _ hk => .inr (.inr hk)) (.inr (.inl rfl)) _) (fun q hq => ?_)
  rcases hq with rfl | hq | hq
  · exact .inl (.inl rfl)
  · exact .inl (.inr (.inl hq))
  · have hq : v2.ownBlock = some q := hq
    rcases hat with e' | ⟨q', e', hq'⟩
    · exact .inl (.inr (.inr (by rw [← e']; exact hq)))
    · rw [e'] at hq; cases hq; exact .inr (Nat.le_trans k.size hq')
/-- A new row of results is laid into the client. -/
theorem Sep.cliSet (h : Sep w W (tCli T b cv rv c :: l)) (k : Sep W W1 (tOwn tRs 2 v2 m (eRs.fl rs2) :: r2)) (hm : rs2.length = m) : Sep w (W1.setCell ⟨b, 2, none⟩ v2) (tCli T b cv v2 (c.put rs2) :: l) := by
  subst hm
  obtain ⟨h1, h2, h3, h4, h5⟩ := h.cli
  have ho : Own W1 tRs 2 v2 rs2.length (eRs.fl rs2) := k.hd
  have hb := h1.upd (Upd.of_below (S := fun _ => False) k.bel) (fun h => h)
  have hc := h2.below k.bel
  refine h.opc (t' := tCli T b cv v2 (c.put rs2)) (S := fun k => k = b) ⟨hb.set 2 v2, hc.setOther (p := ⟨b, 2, none⟩) (hc.ne hb h4) v2, ho.setOther (p := ⟨b, 2, none⟩) (ho.ne hb h5) v2, h4, h5⟩ (Upd.setCell (S := fun k => k = b) (p := ⟨b, 2, none⟩) ((Upd.of_below k.bel)) (.inr rfl) _) (fun k _ e => .inl e) (fun q hq => ?_)
  rcases hq with rfl | hq | hq
  · exact .inl (.inl rfl)
  · exact .inl (.inr (.inl hq))
  · exact .inr (k.ge _ (List.mem_cons_self ..) q hq)
theorem Sep.cliTurn (h : Sep w W (tCli T b cv rv c :: l)) : Sep w (W.setCell ⟨b, 3, none⟩ (.int .i64 (1 - c.node))) (tCli T b cv rv c.turn :: l) := by
  obtain ⟨h1, h2, h3, h4, h5⟩ := h.cli
  refine h.opc (t' := tCli T b cv rv c.turn) (S := fun k => k = b) ⟨h1.set 3 _, h2.setOther (p := ⟨b, 3, none⟩) (h2.ne h1 h4) _, h3.setOther (p := ⟨b, 3, none⟩) (h3.ne h1 h5) _, h4, h5⟩ (Upd.setCell (S := fun k => k = b) (p := ⟨b, 3, none⟩) (Upd.refl _ W) (.inr rfl) _) (fun k _ e => .inl e) (fun q hq => .inl hq)
/-- A new client over a row of calls of one's own. -/
theorem Sep.cliNew (h : Sep w W (tOwn tCa 3 cv m (eC.fl c.calls) :: l)) (hm : c.calls.length = m) (hr : c.rs = []) (hT : tCa ≠ T ∧ tRs ≠ T) (hb : W.heap.size = b) :
    Sep w (W.alloc (.cells #[.int .i64 c.place, cv, .slice none 0 0, .int .i64 c.node] T)) (tCli T b cv (.slice none 0 0) c :: l) := by
  subst hm
  have h1 := (h.newBlk #[.int .i64 c.place, cv, .slice none 0 0, .int .i64 c.node] T hb).and
  refine h1.as (t' := tCli T b cv (.slice none 0 0) c) ⟨h1.hd.1, h1.hd.2, ?_, hT.1, hT.2⟩ (fun k hk => ?_)
  · rw [hr]; exact Own.nil _ _ _
  · rcases hk with rfl | hk | hk
    · exact .inl rfl
    · exact .inr hk
    · simp [Value.ownBlock] at hk
/-- The cells of a client's block. -/
theorem Sep.cliCells (h : Sep w W (tCli T b cv rv c :: l)) : W.cell? ⟨b, 0, none⟩ = some (.int .i64 c.place) ∧ W.cell? ⟨b, 1, none⟩ = some cv ∧ W.cell? ⟨b, 2, none⟩ = some rv ∧ W.cell? ⟨b, 3, none⟩ = some (.int .i64 c.node) := by
  have hb := h.cli.1
  exact ⟨hb.cell 0, hb.cell 1, hb.cell 2, hb.cell 3⟩
theorem Sep.cliForm (h : Sep w W (tCli T b cv rv c :: l)) : (∃ A q, cv = .slice A c.calls.length q ∧ c.calls.length ≤ q ∧ (A = none → c.calls.length = 0 ∧ q = 0) ∧ Rd W A (eC.fl c.calls)) ∧ (∃ A q, rv = .slice A c.rs.length q ∧ c.rs.length ≤ q ∧ (A = none → c.rs.length = 0 ∧ q = 0) ∧ Rd W A (eRs.fl c.rs)) :=
  ⟨h.cli.2.1.form, h.cli.2.2.1.form⟩
end
theorem Rd.cal {w : World} {A : Option Addr} {l : List Cal} (h : Rd w A (eC.fl l)) (k : Nat) (x : Cal) (hx : l[k]? = some x) :
    ∃ b o, A = some ⟨b, o, none⟩ ∧ w.cell? ⟨b, o + k * 3, none⟩ = some (.int .i64 x.op) ∧ w.cell? ⟨b, o + k * 3 + 1, none⟩ = some (.int .i64 x.blk) ∧ w.cell? ⟨b, o + k * 3 + 2, none⟩ = some (.string x.data) := by
  obtain ⟨hk, rfl⟩ := List.getElem?_eq_some_iff.1 hx
  obtain ⟨b, o, e, hc⟩ := h.elem k hk (by decide)
  exact ⟨b, o, e, hc 0 _ rfl, hc 1 _ rfl, hc 2 _ rfl⟩
theorem Rd.res {w : World} {A : Option Addr} {l : List Res} (h : Rd w A (eRs.fl l)) (k : Nat) (x : Res) (hx : l[k]? = some x) :
    ∃ b o, A = some ⟨b, o, none⟩ ∧ w.cell? ⟨b, o + k * 2, none⟩ = some (.int .i64 x.e) ∧ w.cell? ⟨b, o + k * 2 + 1, none⟩ = some (.string x.data) := by
  obtain ⟨hk, rfl⟩ := List.getElem?_eq_some_iff.1 hx
  obtain ⟨b, o, e, hc⟩ := h.elem k hk (by decide)
  exact ⟨b, o, e, hc 0 _ rfl, hc 1 _ rfl⟩
end Go.Proofs.Ytodjmeodcmbdoaa
