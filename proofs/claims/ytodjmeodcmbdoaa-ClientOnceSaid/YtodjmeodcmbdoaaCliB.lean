/- Calls and acts as the laws' rows have them; a store into a row of one's own. No condition. -/
import Derived.Test.YtodjmeodcmbdoaaCliA
import Derived.Test.YtodjmeodcmbdoaaMaiB
set_option linter.unusedVariables false
set_option linter.unusedSimpArgs false
namespace Go.Proofs.Ytodjmeodcmbdoaa
open Go.RowKit
theorem is_calls {w : World} {A : Option Addr} {n c : Nat} (h : Sh.Is w (.slice 32 (.pair (.int .i64) (.pair (.int .i64) (.pair .str .unit)))) [.slice A n c]) :
    ∃ cs : List Cal, cs.length = n ∧ (A = none → n = 0 ∧ c = 0) ∧ Rd w A (eC.fl cs) ∧ n ≤ 140737488351232 := by
  obtain ⟨xs, h1, h2, h3, h4, h5, _⟩ := Enc.of_slice (E := eC) (p := fun _ => True) h (fun cs hc => by
    obtain ⟨_, _, rfl, ⟨x, rfl, _⟩, _, _, rfl, ⟨y, rfl, _⟩, _, _, rfl, ⟨s, rfl, _⟩, rfl⟩ := hc
    exact ⟨⟨x, y, s⟩, rfl, trivial⟩)
  exact ⟨xs, h1, fun e => ⟨by have := h4 e; omega, h4 e⟩, h5, by omega⟩
theorem is_act {w : World} {cs : List Value} (h : Sh.Is w (.pair (.int .i64) (.pair (.int .i64) (.pair (.int .i64) (.pair (.pair (.int .i64) (.pair (.int .i64) (.pair (.int .i64) (.pair (.int .i64) (.pair (.int .i64) (.pair (.int .i64) (.pair (.int .i64) (.pair (.pair (.int .i64) (.pair (.int .i64) (.pair (.int .i64) (.pair (.int .i64) .unit)))) (.pair .str (.pair .str .unit)))))))))) (.pair .str .unit))))) cs) : ∃ x : Ac, cs = eAc.f x ∧ True := by
  obtain ⟨_, _, rfl, ⟨kd, rfl, _⟩, _, _, rfl, ⟨fr, rfl, _⟩, _, _, rfl, ⟨rc, rfl, _⟩, _, _, rfl, hm, _, _, rfl, ⟨s, rfl, _⟩, rfl⟩ := h
  obtain ⟨m, rfl, _⟩ := is_msg hm
  exact ⟨⟨kd, fr, rc, m, s⟩, rfl, trivial⟩
theorem is_acts {w : World} {A : Option Addr} {n c : Nat} (h : Sh.Is w (.slice 160 (.pair (.int .i64) (.pair (.int .i64) (.pair (.int .i64) (.pair (.pair (.int .i64) (.pair (.int .i64) (.pair (.int .i64) (.pair (.int .i64) (.pair (.int .i64) (.pair (.int .i64) (.pair (.int .i64) (.pair (.pair (.int .i64) (.pair (.int .i64) (.pair (.int .i64) (.pair (.int .i64) .unit)))) (.pair .str (.pair .str .unit)))))))))) (.pair .str .unit)))))) [.slice A n c]) :
    ∃ la : List Ac, la.length = n ∧ Rd w A (eAc.fl la) ∧ n ≤ 140737488355328 := by
  obtain ⟨xs, h1, h2, h3, h4, h5, _⟩ := Enc.of_slice (E := eAc) (p := fun _ => True) h (fun cs hc => is_act hc)
  exact ⟨xs, h1, h5, by omega⟩
theorem Sep.ownSet {w W : World} {l : List Th} {e : TypeId} {sz n g c : Nat} {xs : List Value} (h : Sep w W (tOwn e sz (.slice (some ⟨g, 0, none⟩) n c) n xs :: l)) (j : Nat) (u : Value) :
    Sep w (W.setCell ⟨g, j, none⟩ u) (tOwn e sz (.slice (some ⟨g, 0, none⟩) n c) n (xs.set j u) :: l) :=
  h.op (t' := tOwn e sz (.slice (some ⟨g, 0, none⟩) n c) n (xs.set j u)) (h.own.set j u) (Upd.setCell (S := fun k => (Value.slice (some ⟨g, 0, none⟩) n c).ownBlock = some k) (p := ⟨g, j, none⟩) (Upd.refl _ W) (.inr rfl) u) (fun k hk => .inl hk)
section
variable {P : Program} {ops : Array Oper} {rest : List Oper} {op : Oper} {a : Act} {w : World} {Q : Exit → Act → World → Prop} {S : World → Prop}
/-- A whole struct that is loaded, in a region that draws its order. -/
theorem yields_row {T : TypeId} {g : Nat} {cs : Array Value} (d : TypeDesc) (hw : Region.wanted op (yielded ops a.tmps) = true) (x : Operand) (ho : op.op = .load T x) (hx : a.eval x = .pointer (some ⟨g, 0, none⟩)) (hS : ∀ w, S w → Blk w g cs T)
    (hu : P.underlying T = some d) (hd : (match d with | .struct _ | .array _ _ => true | _ => false) = true) (hi : (P.info? T).map (·.size) = some cs.size) : YieldsIf P ops S op (.agg cs) a :=
  .inl ⟨hw, fun w h => by
    unfold execOp
    simp only [ho, hx, Instr.loadAt, Instr.sureAddr, Sem.run_bind, Sem.run_pure, Result.andThen_ok, run_loadVar_row w g T T cs (0, 0) d (hS w h) hu hd hi]⟩
/-- A whole struct that is loaded out of the midst of a block. -/
theorem loadMid {T : TypeId} {b o : Nat} {cs : Array Value} (d : TypeDesc) (hgd : op.guard = none) (x : Operand) (ho : op.op = .load T x) (hx : a.eval x = .pointer (some ⟨b, o, none⟩)) (hc : w.rangeAt b o cs.toList)
    (hu : P.underlying T = some d) (hd : d.isRow = true) (hi : (P.info? T).map (·.size) = some cs.size) (h : wpList P ops Q rest (a.put op.dst (.agg cs)) w) : wpList P ops Q (op :: rest) a w :=
  wpList_load_mid hgd T x ho b o hx cs.toList d hc hu hd (by rw [hi, Array.length_toList]) (by rw [Array.toArray_toList]; exact h)
end
theorem infoAc : (Try.prog.info? tAc).map (·.size) = some 17 := by kernel_rfl
theorem Ac.size {x : Ac} : x.cs.size = 17 := rfl
theorem ac1 (x : Ac) : x.cs.all (·.oneCell') = true := by simp [Ac.cs, Value.oneCell']
end Go.Proofs.Ytodjmeodcmbdoaa
