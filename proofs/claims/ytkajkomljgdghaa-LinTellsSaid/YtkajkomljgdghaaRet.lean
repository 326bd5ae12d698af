/- Results that live in a cell: a struct that a function hands back. No condition. -/
import Derived.Test.YtkajkomljgdghaaMem
import Derived.Laws.Rows
import Derived.WalkSpells
import Derived.Handy
import Derived.Deep.MidRow
set_option linter.unusedVariables false
set_option linter.unusedSimpArgs false
namespace Go.Proofs.Ytkajkomljgdghaa
open Go.RowKit

theorem Blk.bel {w w' : World} {b : Nat} {cs : Array Value} {T : TypeId} (h : Blk w b cs T) (hB : Below w.heap.size w w') : Blk w' b cs T := (hB.block b h.lt).trans h
theorem ret_cell {P : Program} {fn : Func} {Q : Ending → World → Prop} {a : Act} {w : World} {k g : Nat} {T : TypeId} {cs : Array Value} (h : fn.results = #[.cell k T]) (hp : a.tmps.getD k undef = .pointer (some ⟨g, 0, none⟩)) (hd0 : a.defers = []) (hb : Blk w g cs T)
    (hu : (P.underlying T).map TypeDesc.isRow = some true) (hi : (P.info? T).map (·.size) = some cs.size) (hq : Q (.returned (.agg cs)) w) : bodyPost P fn Q .ret a w := by
  obtain ⟨d, h1, h2⟩ := Option.map_eq_some_iff.1 hu
  refine bodyPost_ret (results_cell_row h _ _ _ _ _ _ d hp hb h1 ?_ hi) hd0 hq
  cases d <;> simp_all [TypeDesc.isRow]
theorem ret_cell_tmp {P : Program} {fn : Func} {Q : Ending → World → Prop} {a : Act} {w : World} {k g u : Nat} {T : TypeId} {cs : Array Value} (h : fn.results = #[.cell k T, .tmp u]) (hp : a.tmps.getD k undef = .pointer (some ⟨g, 0, none⟩)) (hd0 : a.defers = []) (hb : Blk w g cs T)
    (hu : (P.underlying T).map TypeDesc.isRow = some true) (hi : (P.info? T).map (·.size) = some cs.size) (hq : Q (.returned (.tuple #[.agg cs, a.tmps.getD u undef])) w) : bodyPost P fn Q .ret a w := by
  obtain ⟨d, h1, h2⟩ := Option.map_eq_some_iff.1 hu
  refine bodyPost_ret (v := .tuple #[.agg cs, a.tmps.getD u undef]) ?_ hd0 hq
  rw [results_cell_tmp h, hp]
  simp only [asAddr, Sem.run_pure, Result.andThen_ok]
  rw [run_loadVar_row w g T T cs (0, 0) d hb h1 (by cases d <;> simp_all [TypeDesc.isRow]) hi]
  rfl

end Go.Proofs.Ytkajkomljgdghaa
