/- Strings and rows. No condition. -/
import Derived.Test.YtodjmeodcmbdoaaCodI
set_option linter.unusedVariables false
set_option linter.unusedSimpArgs false
namespace Go.Proofs.Ytodjmeodcmbdoaa
open Go.RowKit
theorem str_inj {l m : List UInt8} : ((⟨l.toArray⟩ : ByteArray) = ⟨m.toArray⟩) ↔ l = m := by
  constructor
  · intro h
    have := congrArg (fun b : ByteArray => b.data.toList) h
    simpa using this
  · rintro rfl; rfl
theorem str_beq (s t : ByteArray) : (s.toList == t.toList) = decide (s = t) := by
  rw [ByteArray.toList_eq, ByteArray.toList_eq, Bool.eq_iff_iff, decide_eq_true_eq, beq_iff_eq]
  cases s; cases t
  simp
theorem str_ne {s t : ByteArray} (h : s ≠ t) : (s.toList == t.toList) = false := by rw [str_beq]; exact decide_eq_false h
theorem Own.big {w : World} {e : TypeId} {sz n c : Nat} {A : Option Addr} {xs : List Value} (h : Own w e sz (.slice A n c) n xs) : c ≤ 9223372036854775807 := by
  rcases h.2 with ⟨h1, _⟩ | ⟨g, cap, cur, h1, _, _, h2, _⟩
  · cases h1; decide
  · cases h1; exact h2
end Go.Proofs.Ytodjmeodcmbdoaa
