/- Whole structs that are loaded, in a region that draws its order too, out of the midst of a block too; words of 64 bits. No condition. -/
import Derived.Test.YtkajkomljgdghaaFill
import Derived.Test.YtkajkomljgdghaaReg
import Derived.Deep.MidRow
set_option linter.unusedVariables false
set_option linter.unusedSimpArgs false
namespace Go.Proofs.Ytkajkomljgdghaa
open Go.RowKit
theorem Sep.ownSet {w W : World} {l : List Th} {e : TypeId} {sz n g c : Nat} {xs : List Value} (h : Sep w W (tOwn e sz (.slice (some ⟨g, 0, none⟩) n c) n xs :: l)) (j : Nat) (u : Value) :
    Sep w (W.setCell ⟨g, j, none⟩ u) (tOwn e sz (.slice (some ⟨g, 0, none⟩) n c) n (xs.set j u) :: l) :=
  h.op (t' := tOwn e sz (.slice (some ⟨g, 0, none⟩) n c) n (xs.set j u)) (h.own.set j u) (Upd.setCell (S := fun k => (Value.slice (some ⟨g, 0, none⟩) n c).ownBlock = some k) (p := ⟨g, j, none⟩) (Upd.refl _ W) (.inr rfl) u) (fun k hk => .inl hk)
section
variable {P : Program} {ops : Array Oper} {rest : List Oper} {op : Oper} {a : Act} {w : World} {Q : Exit → Act → World → Prop} {S : World → Prop}
/-- A whole struct that is loaded, in a region that draws its order. -/
theorem yields_row {T : TypeId} {g : Nat} {cs : Array Value} (d : TypeDesc) (hw : Region.wanted op (yielded ops a.tmps) = true) (x : Operand) (ho : op.op = .load T x) (hx : a.eval x = .pointer (some ⟨g, 0, none⟩)) (hS : ∀ w, S w → Blk w g cs T)
    (hu : P.underlying T = some d) (hd : (match d with | .struct _ | .array _ _ => true | _ => false) = true) (hi : (P.info? T).map (·.size) = some cs.size) : YieldsIf P ops S op (.agg cs) a :=
  .inl ⟨hw, fun w h => by
    unfold execOp
    simp only [ho, hx, Instr.loadAt, Instr.sureAddr, Sem.run_bind, Sem.run_pure, Result.andThen_ok, run_loadVar_row w g T T cs (0, 0) d (hS w h) hu hd hi]⟩
/-- A whole struct that is loaded out of the midst of a block. -/
theorem loadMid {T : TypeId} {b o : Nat} {cs : Array Value} (d : TypeDesc) (hgd : op.guard = none) (x : Operand) (ho : op.op = .load T x) (hx : a.eval x = .pointer (some ⟨b, o, none⟩)) (hc : w.rangeAt b o cs.toList)
    (hu : P.underlying T = some d) (hd : d.isRow = true) (hi : (P.info? T).map (·.size) = some cs.size) (h : wpList P ops Q rest (a.put op.dst (.agg cs)) w) : wpList P ops Q (op :: rest) a w :=
  wpList_load_mid hgd T x ho b o hx cs.toList d hc hu hd (by rw [hi, Array.length_toList]) (by rw [Array.toArray_toList]; exact h)
end
theorem Sep.blkSet {w W : World} {l : List Th} {T : TypeId} {g : Nat} {cs : Array Value} (h : Sep w W (tBlk g cs T :: l)) (j : Nat) (u : Value) : Sep w (W.setCell ⟨g, j, none⟩ u) (tBlk g (cs.setIfInBounds j u) T :: l) :=
  h.op (t' := tBlk g (cs.setIfInBounds j u) T) ((show Blk W g cs T from h.hd).set j u) (Upd.setCell (S := fun k => k = g) (p := ⟨g, j, none⟩) (Upd.refl _ W) (.inr rfl) u) (fun k hk => .inl hk)
theorem p64 : (2 : Nat) ^ 64 = 18446744073709551616 := by decide
theorem or_lt64 {a b : Nat} (ha : a < 18446744073709551616) (hb : b < 18446744073709551616) : a ||| b < 18446744073709551616 := by
  have := @Nat.or_lt_two_pow a b 64 (by omega) (by omega)
  omega
theorem wraps_u64 (n : Int) (h0 : 0 ≤ n) (h1 : n < 2 ^ 64) : IntKind.u64.wrap n = n := by
  simp [IntKind.wrap, IntKind.bits, IntKind.signed]; omega
theorem or64 {a b : Nat} (ha : a < 18446744073709551616) (hb : b < 18446744073709551616) : bits .or .u64 (a : Int) (b : Int) = ((a ||| b : Nat) : Int) := by
  have h := or_lt64 ha hb
  have ha' : a % 2 ^ 64 = a := Nat.mod_eq_of_lt (by omega)
  have hb' : b % 2 ^ 64 = b := Nat.mod_eq_of_lt (by omega)
  have e : (BitVec.ofInt 64 (a : Int) ||| BitVec.ofInt 64 (b : Int)).toNat = a ||| b := by
    rw [BitVec.ofInt_natCast, BitVec.ofInt_natCast, BitVec.toNat_or, BitVec.toNat_ofNat, BitVec.toNat_ofNat, ha', hb']
  show IntKind.u64.wrap ((BitVec.ofInt 64 (a : Int) ||| BitVec.ofInt 64 (b : Int)).toNat : Int) = _
  rw [e]
  refine wraps_u64 _ ?_ ?_ <;> omega
theorem and64 {a b : Nat} (ha : a < 18446744073709551616) (hb : b < 18446744073709551616) : bits .and .u64 (a : Int) (b : Int) = ((a &&& b : Nat) : Int) := by
  have h : a &&& b ≤ a := Nat.and_le_left
  have ha' : a % 2 ^ 64 = a := Nat.mod_eq_of_lt (by omega)
  have hb' : b % 2 ^ 64 = b := Nat.mod_eq_of_lt (by omega)
  have e : (BitVec.ofInt 64 (a : Int) &&& BitVec.ofInt 64 (b : Int)).toNat = a &&& b := by
    rw [BitVec.ofInt_natCast, BitVec.ofInt_natCast, BitVec.toNat_and, BitVec.toNat_ofNat, BitVec.toNat_ofNat, ha', hb']
  show IntKind.u64.wrap ((BitVec.ofInt 64 (a : Int) &&& BitVec.ofInt 64 (b : Int)).toNat : Int) = _
  rw [e]
  refine wraps_u64 _ ?_ ?_ <;> omega
theorem and64_1 {a : Nat} (ha : a < 18446744073709551616) : bits .and .u64 (a : Int) 1 = ((a % 2 : Nat) : Int) := by
  have := and64 (b := 1) ha (by decide)
  rw [Nat.and_one_is_mod] at this
  exact this
theorem shl64 {k : Nat} (h : k < 64) : ((2 : Int) ^ k % 18446744073709551616) = ((2 ^ k : Nat) : Int) := by
  have h2 : 2 ^ k < 18446744073709551616 := by rw [← p64]; exact Nat.pow_lt_pow_right (by decide) h
  have e : ((2 ^ k : Nat) : Int) = (2 : Int) ^ k := by simp
  rw [← e]
  generalize 2 ^ k = x at *
  omega
/-- b >> i & 1 == 1. -/
theorem bit_at (b k : Nat) : (((b / 2 ^ k % 2 : Nat) : Int) == 1) = b.testBit k := by
  rw [Nat.testBit_eq_decide_div_mod_eq]
  by_cases h : b / 2 ^ k % 2 = 1
  · rw [h]; simp
  · rw [decide_eq_false h]
    exact beq_eq_false_iff_ne.2 (by omega)
/-- b >> k & 1 == 1, as the walk leaves it. -/
theorem bit_walk {b k : Nat} (hb : b < 18446744073709551616) : (bits BinOp.and IntKind.u64 ((b : Int) / 2 ^ k) 1 == 1) = b.testBit k := by
  have e : ((b : Int) / 2 ^ k) = ((b / 2 ^ k : Nat) : Int) := by push_cast; rfl
  rw [e, and64_1 (Nat.lt_of_le_of_lt (Nat.div_le_self _ _) hb), bit_at]

theorem wrapu (n : Int) : IntKind.u64.wrap n = n % 18446744073709551616 := by simp [IntKind.wrap, IntKind.bits, IntKind.signed]
theorem bit_walk0 {b k : Nat} (hb : b < 18446744073709551616) : (bits BinOp.and IntKind.u64 ((b : Int) / 2 ^ k) 1 == 0) = !b.testBit k := by
  have e : ((b : Int) / 2 ^ k) = ((b / 2 ^ k : Nat) : Int) := by push_cast; rfl
  rw [e, and64_1 (Nat.lt_of_le_of_lt (Nat.div_le_self _ _) hb), Nat.testBit_eq_decide_div_mod_eq]
  by_cases h : b / 2 ^ k % 2 = 1
  · rw [h]; simp
  · rw [decide_eq_false h]
    exact beq_iff_eq.2 (by omega)
theorem or_walk {b k : Nat} (hb : b < 18446744073709551616) (hk : k < 64) : bits BinOp.or IntKind.u64 (b : Int) (IntKind.u64.wrap (2 ^ k)) = ((b ||| 2 ^ k : Nat) : Int) := by
  rw [wrapu, shl64 hk, or64 hb (Nat.lt_of_lt_of_eq (Nat.pow_lt_pow_right (by decide) hk) p64)]
theorem str_inj {l m : List UInt8} : ((⟨l.toArray⟩ : ByteArray) = ⟨m.toArray⟩) ↔ l = m := by
  constructor
  · intro h
    have := congrArg (fun b : ByteArray => b.data.toList) h
    simpa using this
  · rintro rfl; rfl
theorem str_beq (s t : ByteArray) : (s.toList == t.toList) = decide (s = t) := by
  rw [ByteArray.toList_eq, ByteArray.toList_eq, Bool.eq_iff_iff, decide_eq_true_eq, beq_iff_eq]
  cases s; cases t
  simp
theorem str_ne {s t : ByteArray} (h : s ≠ t) : (s.toList == t.toList) = false := by rw [str_beq]; exact decide_eq_false h
theorem str_same (s : ByteArray) : (s.toList == s.toList) = true := by rw [str_beq]; exact decide_eq_true rfl
end Go.Proofs.Ytkajkomljgdghaa
