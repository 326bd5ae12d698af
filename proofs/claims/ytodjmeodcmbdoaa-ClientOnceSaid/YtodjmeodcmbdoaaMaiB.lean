/- Messages as the laws' rows have them; a message that is loaded, stored and made whole. No condition. -/
import Derived.Test.YtodjmeodcmbdoaaMaiD
import Derived.Test.YtodjmeodcmbdoaaMaiQ
import Derived.Test.YtodjmeodcmbdoaaRow
set_option linter.unusedVariables false
set_option linter.unusedSimpArgs false
namespace Go.Proofs.Ytodjmeodcmbdoaa
open Go.RowKit
theorem is_msg {w : World} {cs : List Value} (h : Sh.Is w (.pair (.int .i64) (.pair (.int .i64) (.pair (.int .i64) (.pair (.int .i64) (.pair (.int .i64) (.pair (.int .i64) (.pair (.int .i64) (.pair (.pair (.int .i64) (.pair (.int .i64) (.pair (.int .i64) (.pair (.int .i64) .unit)))) (.pair .str (.pair .str .unit)))))))))) cs) :
    ∃ m : Msg, cs = m.cs.toList ∧ m.s.size ≤ 140737488351232 ∧ m.t.size ≤ 140737488351232 := by
  obtain ⟨_, _, rfl, ⟨x0, rfl, _⟩, _, _, rfl, ⟨x1, rfl, _⟩, _, _, rfl, ⟨x2, rfl, _⟩, _, _, rfl, ⟨x3, rfl, _⟩, _, _, rfl, ⟨x4, rfl, _⟩, _, _, rfl, ⟨x5, rfl, _⟩, _, _, rfl, ⟨x6, rfl, _⟩, _, _, rfl, ⟨_, _, rfl, ⟨p0, rfl, _⟩, _, _, rfl, ⟨p1, rfl, _⟩, _, _, rfl, ⟨p2, rfl, _⟩, _, _, rfl, ⟨p3, rfl, _⟩, rfl⟩, _, _, rfl, ⟨s, rfl, hs⟩, _, _, rfl, ⟨t, rfl, ht⟩, rfl⟩ := h
  exact ⟨⟨x0, x1, x2, x3, x4, x5, x6, p0, p1, p2, p3, s, t⟩, rfl, hs, ht⟩
theorem agg_msg {a : Array Value} {m : Msg} (h : a.toList = m.cs.toList) : a = m.cs := by
  rw [← Array.toList_inj]; exact h
theorem Blk.loadM {w : World} {g : Nat} {m : Msg} (h : Blk w g m.cs tMsg) : (Instr.loadAt tMsg (.pointer (some ⟨g, 0, none⟩))).run Try.prog w = .ok (.agg m.cs) w := by
  simp only [Instr.loadAt, Instr.sureAddr, Sem.run_bind, Sem.run_pure, Result.andThen_ok, run_loadVar_row w g tMsg tMsg m.cs (0, 0) _ h Try.underlying35 rfl msgI]
theorem setRow_new (w : World) (old cs : Array Value) (T : TypeId) : (w.alloc (.cells old T)).setRow w.heap.size cs = w.alloc (.cells cs T) := by
  show ({ w.alloc (.cells old T) with heap := (w.heap.push (.cells old T)).modify w.heap.size _ } : World) = _
  have hm : ∀ (a : Array Obj) (x : Obj) (f : Obj → Obj), (a.push x).modify a.size f = a.push (f x) := by
    intro a x f
    apply Array.ext
    · simp
    · intro i h1 h2
      simp only [Array.getElem_modify, Array.getElem_push]
      by_cases h : a.size = i
      · subst h
        simp
      · have hi : i < a.size := by simp at h1; omega
        simp [h, hi]
  rw [hm]
  rfl
abbrev zCells : Array Value := #[.int .i64 0, .int .i64 0, .int .i64 0, .int .i64 0, .int .i64 0, .int .i64 0, .int .i64 0, .int .i64 0, .int .i64 0, .int .i64 0, .int .i64 0, .string { data := #[] }, .string { data := #[] }]
/-- What the walk meets: a new variable, and a message laid into it. -/
theorem storeM (w : World) (m : Msg) : (Instr.storeAt tMsg (.pointer (some ⟨w.heap.size, 0, none⟩)) (.agg m.cs)).run Try.prog (w.alloc (.cells zCells tMsg)) = .ok () (w.alloc (.cells m.cs tMsg)) := by
  simp only [Instr.storeAt, Instr.sureAddr, Sem.run_bind, Sem.run_pure, Result.andThen_ok]
  rw [run_storeVar_row _ w.heap.size tMsg tMsg zCells m.cs (Blk.new w zCells tMsg) msgI rfl (msg1 m), setRow_new]
theorem buildZ (w : World) : (Instr.build tMsg #[]).run Try.prog w = .ok (.agg zM.cs) w := run_build w tMsg _ _ (by kernel_rfl)
theorem neq_msg (m k : Msg) (w : World) : (binOp .neq tMsg (.agg m.cs) (.agg k.cs)).run Try.prog w = .ok (.bool (!sameM m k)) w := by
  have h := eql_msg m k w
  rw [run_eql_struct] at h
  rw [run_neq_struct]
  cases hr : (Op.equalIn 10000 tMsg (.agg m.cs) (.agg k.cs)).run Try.prog w with
  | ok b w' =>
    rw [hr] at h
    simp only [Result.andThen_ok, Result.ok.injEq, Value.bool.injEq] at h ⊢
    rw [h.1]
    exact ⟨rfl, h.2⟩
  | _ => rw [hr] at h; cases h
end Go.Proofs.Ytodjmeodcmbdoaa
