/- Bytes as the laws' rows have them. No condition. -/
import Derived.Test.YtodjmeodcmbdoaaCodK
set_option linter.unusedVariables false
set_option linter.unusedSimpArgs false
namespace Go.Proofs.Ytodjmeodcmbdoaa
open Go.RowKit
theorem is_bytes {w : World} {A : Option Addr} {n c : Nat} (h : Sh.Is w (.slice 1 (.int .u8)) [.slice A n c]) : ∃ l : List UInt8, l.length = n ∧ n ≤ c ∧ (A = none → c = 0) ∧ Rd w A (eB.fl l) ∧ c ≤ 140737488351232 := by
  obtain ⟨l, h1, h2, h3, h4, h5, _⟩ := Enc.of_slice (E := eB) (p := fun _ => True) h (fun cs hc => by
    obtain ⟨x, rfl, hx⟩ := hc
    have := bd_u8 hx
    refine ⟨b8 x.toNat, ?_, trivial⟩
    simp [eB, b8_toNat (show x.toNat < 256 by omega)]
    omega)
  exact ⟨l, h1, h3, h4, h5, by omega⟩
end Go.Proofs.Ytodjmeodcmbdoaa
