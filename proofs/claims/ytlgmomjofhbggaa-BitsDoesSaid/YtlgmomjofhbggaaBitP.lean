/- What BitsDoes needs: whole structs in blocks of their own, guarded operations; Put, Set, Del, Or in one form each. Conditions: sizes. -/
import Derived.Test.YtlgmomjofhbggaaBitO
set_option linter.unusedVariables false
set_option linter.unusedSimpArgs false
namespace Go.Proofs.Ytlgmomjofhbggaa
open Go.RowKit
abbrev tBR : TypeId := 26
theorem infoBR : (Try.prog.info? tBR).map (·.size) = some 2 := by kernel_rfl
theorem info65' (n b : Nat) : (Try.prog.info? rT).map (·.size) = some (rf n b).toArray.size := by rw [info65]; simp [rf]
theorem ones_rf (n b : Nat) : (rf n b).toArray.all (·.oneCell') = true := all_oneCell_toArray (rf_one n b)
theorem Blk.setRow {w : World} {g : Nat} {old : Array Value} {T : TypeId} (h : Blk w g old T) (cs : Array Value) : Blk (w.setRow g cs) g cs T := setRow_heap w g old cs T (0, 0) h
theorem Upd.setRow (w : World) (g : Nat) (cs : Array Value) : Upd (fun k => k = g) w (w.setRow g cs) :=
  ⟨rfl, rfl, rfl, by simp [World.setRow], fun k _ hk => setRow_other w g k cs hk⟩
section
variable {P : Program} {ops : Array Oper} {rest : List Oper} {o : Oper} {a : Act} {W : World} {Q : Exit → Act → World → Prop}
theorem storeR {T : TypeId} {g : Nat} {old : Array Value} (cs : Array Value) (hb : Blk W g old T) (hs : old.size = cs.size) (hi : (P.info? T).map (·.size) = some cs.size) (h1 : cs.all (·.oneCell') = true)
    (hgd : o.guard = none) (x y : Operand) (ho : o.op = .store T x y) (hx : a.eval x = .pointer (some ⟨g, 0, none⟩)) (hy : a.eval y = .agg cs)
    (h : ∀ w', Blk w' g cs T → Upd (fun k => k = g) W w' → wpList P ops Q rest (a.put o.dst undef) w') : wpList P ops Q (o :: rest) a W :=
  wpList_store_row hgd T x y ho g cs hx hy T old hb hi hs h1 (h _ (hb.setRow cs) (Upd.setRow W g cs))
theorem stepStoreR {K : Act → World → Prop} {E : Prop} {T : TypeId} {g : Nat} {old : Array Value} (cs : Array Value) (hb : Blk W g old T) (hs : old.size = cs.size) (hi : (P.info? T).map (·.size) = some cs.size) (h1 : cs.all (·.oneCell') = true)
    (hgd : o.guard = none) (x y : Operand) (ho : o.op = .store T x y) (hx : a.eval x = .pointer (some ⟨g, 0, none⟩)) (hy : a.eval y = .agg cs)
    (h : ∀ w', Blk w' g cs T → Upd (fun k => k = g) W w' → K (a.put o.dst undef) w') : if Region.wanted o (yielded ops a.tmps) = true then Oper.wp P o a W K Q else E := by
  have hw : Region.wanted o (yielded ops a.tmps) = true := by simp [Region.wanted, hgd]
  rw [if_pos hw]
  exact wp_store_row T x y ho g cs hx hy T old hb hi hs h1 (h _ (hb.setRow cs) (Upd.setRow W g cs))
theorem loadR {T : TypeId} {g : Nat} {cs : Array Value} (d : TypeDesc) (hb : Blk W g cs T) (hu : P.underlying T = some d) (hd : (match d with | .struct _ | .array _ _ => true | _ => false) = true) (hi : (P.info? T).map (·.size) = some cs.size)
    (hgd : o.guard = none) (x : Operand) (ho : o.op = .load T x) (hx : a.eval x = .pointer (some ⟨g, 0, none⟩))
    (h : wpList P ops Q rest (a.put o.dst (.agg cs)) W) : wpList P ops Q (o :: rest) a W :=
  wpList_load_row hgd T x ho g hx T cs (0, 0) d hb hu hd hi h
theorem wpList_on (hw : Region.wanted o (yielded ops a.tmps) = true)
    (h : ∀ K : Act → World → Prop, (∀ a w, wpList P ops Q rest a w → K a w) → o.wp P a W K Q) : wpList P ops Q (o :: rest) a W :=
  wpList_step fun K hK => by rw [if_pos hw]; exact h K hK
/-- A guarded load of a whole struct. -/
theorem loadOn {T : TypeId} {g : Nat} {cs : Array Value} (d : TypeDesc) (hb : Blk W g cs T) (hu : P.underlying T = some d) (hd : (match d with | .struct _ | .array _ _ => true | _ => false) = true) (hi : (P.info? T).map (·.size) = some cs.size)
    (hw : Region.wanted o (yielded ops a.tmps) = true) (x : Operand) (ho : o.op = .load T x) (hx : a.eval x = .pointer (some ⟨g, 0, none⟩))
    (h : wpList P ops Q rest (a.put o.dst (.agg cs)) W) : wpList P ops Q (o :: rest) a W :=
  wpList_on hw fun K hK => by
    unfold Oper.wp execOp
    simp only [ho, hx, Instr.loadAt, Instr.sureAddr, Sem.run_bind, Sem.run_pure, Result.andThen_ok, run_loadVar_row W g T T cs (0, 0) d hb hu hd hi]
    exact hK _ _ h
theorem yields_row {S : World → Prop} {op : Oper} {T : TypeId} {g : Nat} {cs : Array Value} (d : TypeDesc) (hw : Region.wanted op (yielded ops a.tmps) = true) (x : Operand) (ho : op.op = .load T x) (hx : a.eval x = .pointer (some ⟨g, 0, none⟩)) (hS : ∀ w, S w → Blk w g cs T)
    (hu : P.underlying T = some d) (hd : (match d with | .struct _ | .array _ _ => true | _ => false) = true) (hi : (P.info? T).map (·.size) = some cs.size) : YieldsIf P ops S op (.agg cs) a :=
  .inl ⟨hw, fun w h => by
    unfold execOp
    simp only [ho, hx, Instr.loadAt, Instr.sureAddr, Sem.run_bind, Sem.run_pure, Result.andThen_ok, run_loadVar_row w g T T cs (0, 0) d (hS w h) hu hd hi]⟩
end
section
variable {w W W1 : World} {l : List Th}
theorem Sep.put {T : TypeId} {g : Nat} {old cs : Array Value} (h : Sep w W (tBlk g old T :: l)) (hb : Blk W1 g cs T) (u : Upd (fun k => k = g) W W1) : Sep w W1 (tBlk g cs T :: l) :=
  h.op (t' := tBlk g cs T) hb u (fun k hk => .inl hk)
end
/-! What is done to a row: places, marks, errno. -/
abbrev Row3 : Type := Nat × Nat × Int
def setO (n b : Nat) (i : Int) (q : Bool) : Row3 := if inn n i = true then (n, if q = true then put b i.toNat else del b i.toNat, 0) else (0, 0, 2)
def orO (n b m c : Nat) : Row3 := if n = m then (n, b ||| c, 0) else (0, 0, 1)
structure Fine (n : Nat) (x : Row3) : Prop where
  le : x.1 ≤ 64
  lt : x.2.1 < 2 ^ x.1
  same : x.2.2 = 0 → x.1 = n
theorem Fine.u64 {n : Nat} {x : Row3} (h : Fine n x) : x.2.1 < 18446744073709551616 := by
  have h1 := h.lt
  have h2 : 2 ^ x.1 ≤ 2 ^ 64 := Nat.pow_le_pow_right (by decide) h.le
  rw [p64] at h2
  omega
theorem setO_fine {n b : Nat} {i : Int} {q : Bool} (hn : n ≤ 64) (hb : b < 2 ^ n) : Fine n (setO n b i q) := by
  unfold setO
  split
  · rename_i h
    simp only [inn, Bool.and_eq_true, decide_eq_true_eq] at h
    have hi : i.toNat < n := by omega
    have h2 : (2 : Nat) ^ i.toNat < 2 ^ n := Nat.pow_lt_pow_right (by decide) hi
    refine ⟨hn, ?_, fun _ => rfl⟩
    simp only
    split
    · exact Nat.or_lt_two_pow hb h2
    · exact Nat.xor_lt_two_pow (Nat.or_lt_two_pow hb h2) h2
  · exact ⟨by simp, by simp, fun h => by simp at h⟩
theorem orO_fine {n b m c : Nat} (hn : n ≤ 64) (hb : b < 2 ^ n) (hc : c < 2 ^ m) : Fine n (orO n b m c) := by
  unfold orO
  split
  · rename_i h
    subst h
    exact ⟨hn, Nat.or_lt_two_pow hb hc, fun _ => rfl⟩
  · exact ⟨by simp, by simp, fun h => by simp at h⟩
abbrev rcV (x : Row3) : Value := .tuple #[.agg (rc x.1 x.2.1), .int .i64 x.2.2]
abbrev rfV (x : Row3) : Value := .tuple #[.agg (rf x.1 x.2.1).toArray, .int .i64 x.2.2]
theorem put3 (n b : Nat) (i : Int) (x : Row3) (w : World) (hx : setO n b i true = x) (hn : n ≤ 64) (hb : b < 18446744073709551616) :
    Calls Try.prog 13 #[.agg (rc n b), .int .i64 i] w fun e w' => e = .returned (rcV x) ∧ Below w.heap.size w w' := by
  subst hx
  refine (bput_any n b i w hn hb).mono fun e w' h => ⟨h.1.trans ?_, h.2⟩
  unfold setO
  split <;> rfl
theorem del3 (n b : Nat) (i : Int) (x : Row3) (w : World) (hx : setO n b i false = x) (hn : n ≤ 64) (hb : b < 18446744073709551616) :
    Calls Try.prog 15 #[.agg (rc n b), .int .i64 i] w fun e w' => e = .returned (rcV x) ∧ Below w.heap.size w w' := by
  subst hx
  refine (bdel_any n b i w hn hb).mono fun e w' h => ⟨h.1.trans ?_, h.2⟩
  unfold setO
  split <;> rfl
theorem or3 (n b m c : Nat) (x : Row3) (w : World) (hx : orO n b m c = x) (hb : b < 18446744073709551616) (hc : c < 18446744073709551616) :
    Calls Try.prog 16 #[.agg (rc n b), .agg (rc m c)] w fun e w' => e = .returned (rcV x) ∧ Below w.heap.size w w' := by
  subst hx
  refine (bor_any n b m c w hb hc).mono fun e w' h => ⟨h.1.trans ?_, h.2⟩
  unfold orO
  split <;> rfl
theorem set3 (n b : Nat) (i : Int) (q : Bool) (x : Row3) (w : World) (hx : setO n b i q = x) (hn : n ≤ 64) :
    Calls Try.prog 14 #[.agg (rf n b).toArray, .int .i64 i, .bool q] w fun e w' => e = .returned (rfV x) ∧ Below w.heap.size w w' := by
  subst hx
  refine (rset_any n b i q w hn).mono fun e w' h => ⟨h.1.trans ?_, h.2⟩
  unfold setO
  split <;> rfl
theorem ror3 (n b m c : Nat) (x : Row3) (w : World) (hx : orO n b m c = x) (hn : n ≤ 64) (hm : m ≤ 64) (hc : c < 2 ^ m) :
    Calls Try.prog 17 #[.agg (rf n b).toArray, .agg (rf m c).toArray] w fun e w' => e = .returned (rfV x) ∧ Below w.heap.size w w' := by
  subst hx
  refine (ror_any n b m c w hn hm hc).mono fun e w' h => ⟨h.1.trans ?_, h.2⟩
  unfold orO
  split <;> rfl
theorem bnew3 (n : Int) (m : Nat) (w : World) (h : newOf n = m) :
    Calls Try.prog 11 #[.int .i64 n] w fun e w' => e = .returned (.agg (rc m 0)) ∧ Below w.heap.size w w' := by
  subst h; exact bnew_any n w
theorem rnew3 (n : Int) (m : Nat) (w : World) (h : newOf n = m) :
    Calls Try.prog 12 #[.int .i64 n] w fun e w' => e = .returned (.agg (rf m 0).toArray) ∧ Below w.heap.size w w' := by
  subst h; exact rnew_any n w
end Go.Proofs.Ytlgmomjofhbggaa
