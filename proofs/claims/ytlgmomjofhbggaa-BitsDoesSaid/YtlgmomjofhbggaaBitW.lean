/- The walks of the rows of places. No condition but sizes. -/
import Derived.Test.YtlgmomjofhbggaaProg
import Derived.Test.YtlgmomjofhbggaaBitM
import Derived.Test.YtlgmomjofhbggaaMem
import Derived.Deep.MidRow
import Derived.Deep.QuietTactic
import Derived.BigQuiet
import Derived.WalkSpells
import Derived.Deep.DeepCutAuto
import Derived.Deep.RegionLaw
import Derived.Handy
set_option linter.unusedVariables false
set_option linter.unusedSimpArgs false
namespace Go.Proofs.Ytlgmomjofhbggaa
open Go.RowKit

/-- A row of places. -/
def rw_ (n b : Nat) : Value := .agg #[.int .i64 (n : Int), .int .u64 (b : Int)]

theorem Blk.below {w w' : World} {b : Nat} {cs : Array Value} {T : TypeId} (h : Blk w b cs T) (hB : Below w.heap.size w w') : Blk w' b cs T := (hB.block b h.lt).trans h
theorem Blk.below' {B : Nat} {w w' : World} {b : Nat} {cs : Array Value} {T : TypeId} (h : Blk w b cs T) (hB : Below B w w') (hb : b < B) : Blk w' b cs T := (hB.block b hb).trans h
theorem box2 {w w1 : World} {x y : Value} {T : TypeId} (B : Below (w.alloc (.cells #[x, y] T)).heap.size (w.alloc (.cells #[x, y] T)) w1) :
    w1.cell? ⟨w.heap.size, 0, none⟩ = some x ∧ w1.cell? ⟨w.heap.size, 1, none⟩ = some y ∧ Blk w1 w.heap.size #[x, y] T ∧ Below w.heap.size w w1 :=
  have h := (Blk.new w #[x, y] T).below B
  ⟨h.cell 0, h.cell 1, h, ((Below.refl _ _).alloc (Nat.le_refl _) _).trans (B.mono (by simp))⟩
/-- A row of places that is returned out of its cell. -/
theorem ret_cell {P : Program} {fn : Func} {Q : Ending → World → Prop} {a : Act} {w : World} {k g : Nat} {T : TypeId} {cs : Array Value} (h : fn.results = #[.cell k T]) (hp : a.tmps.getD k undef = .pointer (some ⟨g, 0, none⟩)) (hd0 : a.defers = []) (hb : Blk w g cs T)
    (hu : (P.underlying T).map TypeDesc.isRow = some true) (hi : (P.info? T).map (·.size) = some cs.size) (hq : Q (.returned (.agg cs)) w) : bodyPost P fn Q .ret a w := by
  obtain ⟨d, h1, h2⟩ := Option.map_eq_some_iff.1 hu
  refine bodyPost_ret (results_cell_row h _ _ _ _ _ _ d hp hb h1 ?_ hi) hd0 hq
  cases d <;> simp_all [TypeDesc.isRow]
theorem ret_cell_tmp {P : Program} {fn : Func} {Q : Ending → World → Prop} {a : Act} {w : World} {k g u : Nat} {T : TypeId} {cs : Array Value} (h : fn.results = #[.cell k T, .tmp u]) (hp : a.tmps.getD k undef = .pointer (some ⟨g, 0, none⟩)) (hd0 : a.defers = []) (hb : Blk w g cs T)
    (hu : (P.underlying T).map TypeDesc.isRow = some true) (hi : (P.info? T).map (·.size) = some cs.size) (hq : Q (.returned (.tuple #[.agg cs, a.tmps.getD u undef])) w) : bodyPost P fn Q .ret a w := by
  obtain ⟨d, h1, h2⟩ := Option.map_eq_some_iff.1 hu
  refine bodyPost_ret (v := .tuple #[.agg cs, a.tmps.getD u undef]) ?_ hd0 hq
  rw [results_cell_tmp h, hp]
  simp only [asAddr, Sem.run_pure, Result.andThen_ok]
  rw [run_loadVar_row w g T T cs (0, 0) d hb h1 (by cases d <;> simp_all [TypeDesc.isRow]) hi]
  rfl

theorem bin_any (n b : Nat) (i : Int) (w : World) :
    Calls Try.prog 29 #[.agg #[.int .i64 (n : Int), .int .u64 (b : Int)], .int .i64 i] w fun e w' => e = .returned (.bool (inn n i)) ∧ Below w.heap.size w w' := by
  by_cases h0 : 0 ≤ i
  · have k0 : decide (0 ≤ i) = true := decide_eq_true h0
    go_enter Try.func29, Try.ntmps29
    go_wp2
    go_ret
    exact ⟨ret_bool (by simp [inn, k0]), (Below.refl _ _).alloc (Nat.le_refl _) _⟩
  · have k0 : decide (0 ≤ i) = false := decide_eq_false h0
    go_enter Try.func29, Try.ntmps29
    go_wp2
    go_ret
    exact ⟨ret_bool (by simp [inn, k0]), (Below.refl _ _).alloc (Nat.le_refl _) _⟩

theorem blen_any (n b : Nat) (w : World) :
    Calls Try.prog 25 #[.agg #[.int .i64 (n : Int), .int .u64 (b : Int)]] w fun e w' => e = .returned (.int .i64 n) ∧ Below w.heap.size w w' := by
  go_enter Try.func25, Try.ntmps25
  go_wp2
  go_ret
  exact ⟨rfl, (Below.refl _ _).alloc (Nat.le_refl _) _⟩

theorem bnew_any (n : Int) (w : World) :
    Calls Try.prog 11 #[.int .i64 n] w fun e w' => e = .returned (.agg #[.int .i64 (newOf n : Nat), .int .u64 0]) ∧ Below w.heap.size w w' := by
  by_cases h0 : n < 0
  · have k0 : decide (n < 0) = true := decide_eq_true h0
    have e : newOf n = 0 := by unfold newOf; rw [if_pos (.inl h0)]
    go_enter Try.func11, Try.ntmps11
    go_wp2
    go_returns
    exact ⟨by rw [e]; rfl, ((Below.refl _ _).alloc (Nat.le_refl _) _)⟩
  have k0 : decide (n < 0) = false := decide_eq_false h0
  by_cases h1 : 64 < n
  · have k1 : decide (64 < n) = true := decide_eq_true h1
    have e : newOf n = 0 := by unfold newOf; rw [if_pos (.inr h1)]
    go_enter Try.func11, Try.ntmps11
    go_wp2
    go_returns
    exact ⟨rfl, ((Below.refl _ _).alloc (Nat.le_refl _) _)⟩
  · have k1 : decide (64 < n) = false := decide_eq_false h1
    have e : newOf n = n := by unfold newOf; rw [if_neg (by omega)]; omega
    go_enter Try.func11, Try.ntmps11
    go_wp2
    go_returns
    exact ⟨rfl, ((Below.refl _ _).alloc (Nat.le_refl _) _)⟩

/-- b >> k & 1 == 1, as the walk leaves it. -/
theorem bit_walk {b k : Nat} (hb : b < 18446744073709551616) : (bits BinOp.and IntKind.u64 ((b : Int) / 2 ^ k) 1 == 1) = b.testBit k := by
  have e : ((b : Int) / 2 ^ k) = ((b / 2 ^ k : Nat) : Int) := by push_cast; rfl
  rw [e, and64_1 (Nat.lt_of_le_of_lt (Nat.div_le_self _ _) hb), bit_at]
theorem wrapu (n : Int) : IntKind.u64.wrap n = n % 18446744073709551616 := by simp [IntKind.wrap, IntKind.bits, IntKind.signed]
theorem byte_walk (b j : Nat) : ((b : Int) / 2 ^ j) % 256 = ((b / 2 ^ j % 256 : Nat) : Int) := by
  rw [Int.natCast_emod, Int.natCast_ediv, Int.natCast_pow]; rfl
theorem put_walk {b k : Nat} (hb : b < 18446744073709551616) (hk : k < 64) : bits BinOp.or IntKind.u64 (b : Int) (IntKind.u64.wrap (2 ^ k)) = ((put b k : Nat) : Int) := by
  rw [wrapu, shl64 hk, or64 hb (Nat.lt_of_lt_of_eq (Nat.pow_lt_pow_right (by decide) hk) p64)]; rfl
theorem del_walk {b k : Nat} (hb : b < 18446744073709551616) (hk : k < 64) : bits BinOp.andNot IntKind.u64 (b : Int) (IntKind.u64.wrap (2 ^ k)) = ((del b k : Nat) : Int) := by
  rw [wrapu, shl64 hk, andNot64 hb hk]
theorem box22 {w w1 : World} {x y x' y' : Value} {T T' : TypeId} (B : Below ((w.alloc (.cells #[x, y] T)).alloc (.cells #[x', y'] T')).heap.size ((w.alloc (.cells #[x, y] T)).alloc (.cells #[x', y'] T')) w1) :
    Blk w1 w.heap.size #[x, y] T ∧ Blk w1 (w.heap.size + 1) #[x', y'] T' ∧ Below w.heap.size w w1 := by
  have h := ((Blk.new w #[x, y] T).alloc (.cells #[x', y'] T')).below B
  have h' := (Blk.new' (w := w.alloc (.cells #[x, y] T)) (g := w.heap.size + 1) (by simp) #[x', y'] T').below B
  exact ⟨h, h', (((Below.refl _ _).alloc (Nat.le_refl _) _).alloc (by simp) _).trans (B.mono (by simp; omega))⟩
theorem Blk.c2 {w : World} {b : Nat} {x y : Value} {T : TypeId} (h : Blk w b #[x, y] T) : w.cell? ⟨b, 0, none⟩ = some x ∧ w.cell? ⟨b, 1, none⟩ = some y ∧ w.frozen? ⟨b, 0, none⟩ = false ∧ w.frozen? ⟨b, 1, none⟩ = false :=
  ⟨h.cell 0, h.cell 1, h.frozen 0, h.frozen 1⟩

theorem bhas_any (n b : Nat) (i : Int) (w : World) (hn : n ≤ 64) (hb : b < 18446744073709551616) :
    Calls Try.prog 26 #[.agg #[.int .i64 (n : Int), .int .u64 (b : Int)], .int .i64 i] w fun e w' => e = .returned (.bool (has n b i)) ∧ Below w.heap.size w w' := by
  by_cases h0 : inn n i = true
  · have h0' := h0
    simp only [inn, Bool.and_eq_true, decide_eq_true_eq] at h0'
    obtain ⟨k, rfl⟩ := Int.eq_ofNat_of_zero_le h0'.1
    have hk : k < n := by omega
    have hand := bit_walk (k := k) hb
    go_enter Try.func26, Try.ntmps26
    go_wp2_with (go_at_call 29; refine (bin_any n b k _).mono ?_; rw [h0]; rintro e1 w1 ⟨rfl, B1⟩; obtain ⟨c0, c1, hbk, B2⟩ := box2 B1; clear B1)
    go_ret
    exact ⟨ret_bool (by rw [has, h0]; rfl), B2⟩
  · have h0' : inn n i = false := by simpa using h0
    go_enter Try.func26, Try.ntmps26
    go_wp2_with (go_at_call 29; refine (bin_any n b i _).mono ?_; rw [h0']; rintro e1 w1 ⟨rfl, B1⟩)
    go_ret
    exact ⟨ret_bool (by rw [has, h0']; rfl), ((Below.refl _ _).alloc (Nat.le_refl _) _).trans (B1.mono (by simp))⟩

theorem bput_any (n b : Nat) (i : Int) (w : World) (hn : n ≤ 64) (hb : b < 18446744073709551616) :
    Calls Try.prog 13 #[.agg #[.int .i64 (n : Int), .int .u64 (b : Int)], .int .i64 i] w fun e w' =>
      e = .returned (if inn n i then .tuple #[.agg #[.int .i64 n, .int .u64 (put b i.toNat : Nat)], .int .i64 0] else .tuple #[.agg #[.int .i64 0, .int .u64 0], .int .i64 2]) ∧ Below w.heap.size w w' := by
  by_cases h0 : inn n i = true
  · have h0' := h0
    simp only [inn, Bool.and_eq_true, decide_eq_true_eq] at h0'
    obtain ⟨k, rfl⟩ := Int.eq_ofNat_of_zero_le h0'.1
    have hk : k < n := by omega
    have hor := Lib.hid (put_walk (b := b) (k := k) hb (by omega))
    rw [if_pos h0]
    go_enter Try.func13, Try.ntmps13
    go_wp2_with (go_at_call 29; refine (bin_any n b k _).mono ?_; rw [h0]; rintro e1 w1 ⟨rfl, B1⟩; obtain ⟨hA, hB, hb1⟩ := box22 B1; obtain ⟨ca0, ca1, fa0, fa1⟩ := hA.c2; obtain ⟨cb0, cb1, fb0, fb1⟩ := hB.c2; have HA := Lib.hid hA; have HB := Lib.hid hB; clear B1 hA hB)
    go_region
    rw [hor.out]
    have hA2 := (HA.out.set 1 (.int .u64 (put b k : Nat))).drew
    have hB2 := (HB.out.setOther (p := ⟨w.heap.size, 1, none⟩) (by simp) (.int .u64 (put b k : Nat))).drew
    have B2 := Lib.hid (show Below w.heap.size w (w1.setCell ⟨w.heap.size, 1, none⟩ (.int .u64 (put b k : Nat))).drew from (hb1.setCell (by simp) _).drew)
    clear ca0 ca1 fa0 fa1 cb0 cb1 fb0 fb1 HA HB hb1
    generalize (w1.setCell _ _).drew = w2 at *
    obtain ⟨ca0, ca1, fa0, fa1⟩ := Blk.c2 hA2
    obtain ⟨cb0, cb1, fb0, fb1⟩ := hB2.c2
    have HB := Lib.hid hB2
    clear hA2 hB2
    go_wp2
    refine ret_cell_tmp (k := 4) (u := 5) (by kernel_rfl) rfl rfl ((HB.out.set 0 _).set 1 _) (by kernel_rfl) (by kernel_rfl) ⟨rfl, (B2.out.setCell (by simp) _).setCell (by simp) _⟩
  · have h0' : inn n i = false := by simpa using h0
    rw [if_neg h0]
    go_enter Try.func13, Try.ntmps13
    go_wp2_with (go_at_call 29; refine (bin_any n b i _).mono ?_; rw [h0']; rintro e1 w1 ⟨rfl, B1⟩; obtain ⟨hA, hB, hb1⟩ := box22 B1; obtain ⟨ca0, ca1, fa0, fa1⟩ := hA.c2; obtain ⟨cb0, cb1, fb0, fb1⟩ := hB.c2; have HA := Lib.hid hA; have HB := Lib.hid hB; clear B1 hA hB)
    refine ret_cell_tmp (k := 4) (u := 5) (by kernel_rfl) rfl rfl ((HB.out.set 0 _).set 1 _) (by kernel_rfl) (by kernel_rfl) ⟨rfl, (hb1.setCell (by simp) _).setCell (by simp) _⟩

theorem bdel_any (n b : Nat) (i : Int) (w : World) (hn : n ≤ 64) (hb : b < 18446744073709551616) :
    Calls Try.prog 15 #[.agg #[.int .i64 (n : Int), .int .u64 (b : Int)], .int .i64 i] w fun e w' =>
      e = .returned (if inn n i then .tuple #[.agg #[.int .i64 n, .int .u64 (del b i.toNat : Nat)], .int .i64 0] else .tuple #[.agg #[.int .i64 0, .int .u64 0], .int .i64 2]) ∧ Below w.heap.size w w' := by
  by_cases h0 : inn n i = true
  · have h0' := h0
    simp only [inn, Bool.and_eq_true, decide_eq_true_eq] at h0'
    obtain ⟨k, rfl⟩ := Int.eq_ofNat_of_zero_le h0'.1
    have hk : k < n := by omega
    have hor := Lib.hid (del_walk (b := b) (k := k) hb (by omega))
    rw [if_pos h0]
    go_enter Try.func15, Try.ntmps15
    go_wp2_with (go_at_call 29; refine (bin_any n b k _).mono ?_; rw [h0]; rintro e1 w1 ⟨rfl, B1⟩; obtain ⟨hA, hB, hb1⟩ := box22 B1; obtain ⟨ca0, ca1, fa0, fa1⟩ := hA.c2; obtain ⟨cb0, cb1, fb0, fb1⟩ := hB.c2; have HA := Lib.hid hA; have HB := Lib.hid hB; clear B1 hA hB)
    go_region
    rw [hor.out]
    have hA2 := (HA.out.set 1 (.int .u64 (del b k : Nat))).drew
    have hB2 := (HB.out.setOther (p := ⟨w.heap.size, 1, none⟩) (by simp) (.int .u64 (del b k : Nat))).drew
    have B2 := Lib.hid (show Below w.heap.size w (w1.setCell ⟨w.heap.size, 1, none⟩ (.int .u64 (del b k : Nat))).drew from (hb1.setCell (by simp) _).drew)
    clear ca0 ca1 fa0 fa1 cb0 cb1 fb0 fb1 HA HB hb1
    generalize (w1.setCell _ _).drew = w2 at *
    obtain ⟨ca0, ca1, fa0, fa1⟩ := Blk.c2 hA2
    obtain ⟨cb0, cb1, fb0, fb1⟩ := hB2.c2
    have HB := Lib.hid hB2
    clear hA2 hB2
    go_wp2
    refine ret_cell_tmp (k := 4) (u := 5) (by kernel_rfl) rfl rfl ((HB.out.set 0 _).set 1 _) (by kernel_rfl) (by kernel_rfl) ⟨rfl, (B2.out.setCell (by simp) _).setCell (by simp) _⟩
  · have h0' : inn n i = false := by simpa using h0
    rw [if_neg h0]
    go_enter Try.func15, Try.ntmps15
    go_wp2_with (go_at_call 29; refine (bin_any n b i _).mono ?_; rw [h0']; rintro e1 w1 ⟨rfl, B1⟩; obtain ⟨hA, hB, hb1⟩ := box22 B1; obtain ⟨ca0, ca1, fa0, fa1⟩ := hA.c2; obtain ⟨cb0, cb1, fb0, fb1⟩ := hB.c2; have HA := Lib.hid hA; have HB := Lib.hid hB; clear B1 hA hB)
    refine ret_cell_tmp (k := 4) (u := 5) (by kernel_rfl) rfl rfl ((HB.out.set 0 _).set 1 _) (by kernel_rfl) (by kernel_rfl) ⟨rfl, (hb1.setCell (by simp) _).setCell (by simp) _⟩

theorem bor_any (n b m c : Nat) (w : World) (hb : b < 18446744073709551616) (hc : c < 18446744073709551616) :
    Calls Try.prog 16 #[.agg #[.int .i64 (n : Int), .int .u64 (b : Int)], .agg #[.int .i64 (m : Int), .int .u64 (c : Int)]] w fun e w' =>
      e = .returned (if n = m then .tuple #[.agg #[.int .i64 n, .int .u64 (b ||| c : Nat)], .int .i64 0] else .tuple #[.agg #[.int .i64 0, .int .u64 0], .int .i64 1]) ∧ Below w.heap.size w w' := by
  by_cases h0 : n = m
  · rw [if_pos h0]
    subst h0
    have hor := or64 hb hc
    go_enter Try.func16, Try.ntmps16
    go_wp2
    refine ret_cell_tmp (k := 4) (u := 5) (by kernel_rfl) rfl rfl (Blk.new' (by simp) _ _) (by kernel_rfl) (by kernel_rfl) ⟨rfl, (((Below.refl _ _).alloc (Nat.le_refl _) _).alloc (by simp) _).alloc (by simp; omega) _⟩
  · have h0' : ((n : Int) == (m : Int)) = false := beq_eq_false_iff_ne.2 (by omega)
    have h0'' : ((n : Int) != (m : Int)) = true := by rw [bne, h0']; rfl
    rw [if_neg h0]
    go_enter Try.func16, Try.ntmps16
    go_wp2
    refine ret_cell_tmp (k := 4) (u := 5) (by kernel_rfl) rfl rfl (Blk.new' (by simp) _ _) (by kernel_rfl) (by kernel_rfl) ⟨rfl, (((Below.refl _ _).alloc (Nat.le_refl _) _).alloc (by simp) _).alloc (by simp; omega) _⟩

/-! ### The rows of marks -/
def ivals (xs : List Nat) : List Value := xs.map fun x : Nat => Value.int .i64 (x : Int)
def by8 (xs : List Nat) : List Value := xs.map fun x : Nat => Value.int .u8 (x : Int)
theorem infoInt : (Try.prog.info? 3).map (fun i => (i.zero, i.size, i.bytes)) = some (some (.int .i64 0), 1, 8) := by kernel_rfl
theorem infoU8 : (Try.prog.info? 5).map (fun i => (i.zero, i.size, i.bytes)) = some (some (.int .u8 0), 1, 1) := by kernel_rfl
theorem own_nil' (w : World) (base : Nat) (e : TypeId) (sz : Nat) : w.ownsRow base e sz (.slice none 0 0) 0 [] := World.ownsRow_nil _ _ _ _

theorem own_below {w w' : World} {base n sz : Nat} {e : TypeId} {v : Value} {xs : List Value} (h : w.ownsRow base e sz v n xs) (hB : Below w.heap.size w w') : w'.ownsRow base e sz v n xs :=
  own_upd h (Upd.of_below (S := fun _ => False) hB) (fun _ _ h => h)
theorem blk_grown {w w' : World} {g base n sz : Nat} {e T : TypeId} {v : Value} {xs cs : List Value} (h : Blk w g cs.toArray T) (hg : w.grownBy w' v.ownBlock) (ho : w.ownsRow base e sz v n xs) (hb : g < base) : Blk w' g cs.toArray T :=
  (hg.block g h.lt (fun he => by have := (ho.lt g he.symm).1; omega)).trans h
structure AllRel (w wr : World) (n b : Nat) (lv i : Value) (k : Nat) : Prop where
  hk : k ≤ n
  hi : i = .int .i64 k
  own : wr.ownsRow (w.heap.size + 1) 3 1 lv (all k b).length (ivals (all k b))
  blk : Blk wr w.heap.size #[.int .i64 n, .int .u64 b] 26
  bel : Below w.heap.size w wr

theorem ball_any (n b : Nat) (w : World) (hn : n ≤ 64) (hb : b < 18446744073709551616) :
    Calls Try.prog 24 #[.agg #[.int .i64 (n : Int), .int .u64 (b : Int)]] w fun e w' => ∃ v, e = .returned v ∧ w'.ownsRow w.heap.size 3 1 v (all n b).length (ivals (all n b)) ∧ Below w.heap.size w w' := by
  go_enter Try.func24, Try.ntmps24
  go_wp2
  have R0 := Lib.hid (show AllRel w (w.alloc (.cells #[.int .i64 n, .int .u64 b] 26)) n b (.slice none 0 0) (.int .i64 0) 0 from
    ⟨by omega, rfl, own_nil' _ _ _ _, Blk.new _ _ _, (Below.refl _ _).alloc (Nat.le_refl _) _⟩)
  generalize w.alloc (.cells #[.int .i64 n, .int .u64 b] 26) = w0 at *
  go_loopw [3, 7] (fun lv i wr => ∃ (k : Nat), AllRel w wr n b lv i k) (fun _ i _ => n - (intOf i).toNat)
  case atStart => exact ⟨0, R0.out⟩
  case round =>
    obtain ⟨k, hk, rfl, hown, hblk, hbel⟩ := hrel
    by_cases hlt : k < n
    · have hlt' : decide ((k : Int) < (n : Int)) = true := by simp; omega
      have HO := Lib.hid hown
      have hlen := all_len k b
      have hin : inn n (k : Int) = true := by simp [inn]; omega
      obtain ⟨ca0, ca1, _, _⟩ := hblk.c2
      have HK := Lib.hid hblk
      have HB := Lib.hid hbel
      clear hown hblk hbel
      have hsum : IntKind.i64.wrap ((k : Int) + 1) = (k : Int) + 1 := IntWalk.i64_in _ (by omega)
      have HS := Lib.hid (all_succ k b)
      by_cases ht : b.testBit k = true
      · have hh : has n b k = true := by simp [has, hin, ht]
        go_wp2_with (first
          | (go_at_call 26; refine (bhas_any n b k _ hn hb).mono ?_; rw [hh]; rintro e1 w1 ⟨rfl, B1⟩; have HO1 := Lib.hid (own_below HO.out B1); have HK1 := Lib.hid (HK.out.below B1); have HB1 := Lib.hid (HB.out.trans (B1.mono HB.out.size)); clear B1)
          | (at_builtin; refine app1 (w.heap.size + 1) 49 3 (.int .i64 0) 1 8 [.int .i64 k] HO1.out (by have := HK1.out.lt; omega) (by omega) Try.underlying49 infoInt rfl (by decide) (by decide) rfl (by simp [Value.oneCell']) (.tmp 13) (.tmp 15) rfl rfl rfl rfl ?_
             intro v1 x1 hown1 hg1 _
             have HX := Lib.hid (blk_grown HK1.out hg1 HO1.out (by omega))
             have HY := Lib.hid (Below.grown HB1.out hg1 HB1.out.size (fun q hq => by have := (HO1.out.lt q hq).1; omega))
             have HZ := Lib.hid hown1
             clear hg1 hown1))
        go_roundw
        case rel =>
          refine ⟨k + 1, by omega, by push_cast; rfl, ?_, HX.out, HY.out⟩
          have h := HZ.out
          rw [HS.out, if_pos ht, List.length_append, ivals, List.map_append]
          exact h
        case measure => simp [intOf]; omega
      · have ht' : b.testBit k = false := by simpa using ht
        have hh : has n b k = false := by simp [has, ht']
        go_wp2_with (go_at_call 26; refine (bhas_any n b k _ hn hb).mono ?_; rw [hh]; rintro e1 w1 ⟨rfl, B1⟩; have HO1 := Lib.hid (own_below HO.out B1); have HK1 := Lib.hid (HK.out.below B1); have HB1 := Lib.hid (HB.out.trans (B1.mono HB.out.size)); clear B1)
        go_roundw
        case rel =>
          refine ⟨k + 1, by omega, by push_cast; rfl, ?_, HK1.out, HB1.out⟩
          rw [HS.out, if_neg ht, List.append_nil]
          exact HO1.out
        case measure => simp [intOf]; omega
    · have hlt' : decide ((k : Int) < (n : Int)) = false := by simp; omega
      obtain rfl : k = n := by omega
      have HO := Lib.hid hown
      have HB := Lib.hid hbel
      clear hown hblk hbel
      go_wp2
      go_ret
      exact ⟨_, rfl, own_rebase HO.out (fun g hg => by have := (HO.out.lt g hg).1; omega), HB.out⟩

theorem bcount_any (n b : Nat) (w : World) (hn : n ≤ 64) (hb : b < 18446744073709551616) :
    Calls Try.prog 28 #[.agg #[.int .i64 (n : Int), .int .u64 (b : Int)]] w fun e w' => e = .returned (.int .i64 (all n b).length) ∧ Below w.heap.size w w' := by
  go_enter Try.func28, Try.ntmps28
  go_wp2_with (go_at_call 24; refine (ball_any n b _ hn hb).mono ?_; rintro e1 w1 ⟨v, rfl, hown, B1⟩; obtain ⟨A2, c2, rfl, _, R2⟩ := own_rd hown; clear hown R2)
  go_ret
  exact ⟨rfl, ((Below.refl _ _).alloc (Nat.le_refl _) _).trans (B1.mono (by simp))⟩

/-- What is read of such a row. -/
theorem own_ivals {w : World} {base : Nat} {v : Value} {xs : List Nat} (h : w.ownsRow base 3 1 v xs.length (ivals xs)) : ∃ A c, v = .slice A xs.length c ∧ xs.length ≤ c ∧ Rd w A (ivals xs) := own_rd h

structure NextRel (w wr : World) (n b : Nat) (i0 : Int) (i : Value) (k : Nat) : Prop where
  hi : i = .int .i64 k
  h0 : i0 ≤ k
  no : ∀ j, j < k → i0 ≤ (j : Int) → j < n → b.testBit j = false
  hk : k ≤ n ∨ (k : Int) = i0
  blk : Blk wr w.heap.size #[.int .i64 n, .int .u64 b] 26
  bel : Below w.heap.size w wr
def nextV : Option Nat → Value
  | some k => .tuple #[.int .i64 k, .bool true]
  | none => .tuple #[.int .i64 0, .bool false]

theorem bnext_any (n b : Nat) (i0 : Int) (w : World) (hn : n ≤ 64) (hb : b < 18446744073709551616) (hi : -9223372036854775808 ≤ i0 ∧ i0 ≤ 9223372036854775807) :
    Calls Try.prog 27 #[.agg #[.int .i64 (n : Int), .int .u64 (b : Int)], .int .i64 i0] w fun e w' => e = .returned (nextV (next n b i0)) ∧ Below w.heap.size w w' := by
  go_enter Try.func27, Try.ntmps27
  go_upto_region 2 with fail
  all_goals
   have R0 := Lib.hid (show NextRel w (w.alloc (.cells #[.int .i64 n, .int .u64 b] 26)) n b i0 (.int .i64 i0.toNat) i0.toNat from
    ⟨rfl, by omega, fun j hj hij => by omega, by omega, Blk.new _ _ _, (Below.refl _ _).alloc (Nat.le_refl _) _⟩)
   generalize w.alloc (.cells #[.int .i64 n, .int .u64 b] 26) = w0 at *
   go_loopw [1] (fun i wr => ∃ (k : Nat), NextRel w wr n b i0 i k) (fun i _ => n - (intOf i).toNat)
   case atStart =>
    first
    | (refine ⟨i0.toNat, ?_⟩; have h := R0.out; rwa [show ((i0.toNat : Nat) : Int) = 0 by omega] at h)
    | (refine ⟨i0.toNat, ?_⟩; have h := R0.out; rwa [show ((i0.toNat : Nat) : Int) = i0 by omega] at h)
   case round =>
     obtain ⟨k, rfl, h0, hno, hk, hblk, hbel⟩ := hrel
     obtain ⟨ca0, ca1, _, _⟩ := hblk.c2
     have HK := Lib.hid hblk
     have HB := Lib.hid hbel
     have HN := Lib.hid hno
     clear hblk hbel hno
     by_cases hlt : k < n
     · have hlt' : decide ((k : Int) < (n : Int)) = true := by simp; omega
       have hsum : IntKind.i64.wrap ((k : Int) + 1) = (k : Int) + 1 := IntWalk.i64_in _ (by omega)
       have hin : inn n (k : Int) = true := by simp [inn]; omega
       by_cases ht : b.testBit k = true
       · have hh : has n b k = true := by simp [has, hin, ht]
         have HE := Lib.hid (next_some (i := i0) hlt h0 ht (fun j hj hij => HN.out j hj hij (by omega)))
         go_wp2_with (go_at_call 26; refine (bhas_any n b k _ hn hb).mono ?_; rw [hh]; rintro e1 w1 ⟨rfl, B1⟩)
         go_returns
         exact ⟨by rw [HE.out]; rfl, HB.out.trans (B1.mono HB.out.size)⟩
       · have ht' : b.testBit k = false := by simpa using ht
         have hh : has n b k = false := by simp [has, ht']
         go_wp2_with (go_at_call 26; refine (bhas_any n b k _ hn hb).mono ?_; rw [hh]; rintro e1 w1 ⟨rfl, B1⟩; have HK1 := Lib.hid (HK.out.below B1); have HB1 := Lib.hid (HB.out.trans (B1.mono HB.out.size)); clear B1)
         go_roundw
         case rel =>
           refine ⟨k + 1, by push_cast; rfl, by omega, fun j hj hij hjn => ?_, by omega, HK1.out, HB1.out⟩
           by_cases hjk : j = k
           · rw [hjk]; exact ht'
           · exact HN.out j (by omega) hij hjn
         case measure => simp [intOf]; omega
     · have hlt' : decide ((k : Int) < (n : Int)) = false := by simp; omega
       have HE := Lib.hid (next_none (n := n) (b := b) (i := i0) (fun j hj hij => HN.out j (by omega) hij hj))
       go_wp2
       go_returns
       exact ⟨by rw [HE.out]; rfl, HB.out⟩

theorem run_str {w : World} {A : Option Addr} {m c : Nat} {xs : List Nat} (hr : Rd w A (by8 xs)) (hl : xs.length = m) (hb : ∀ x ∈ xs, x < 256) (hne : xs ≠ []) :
    (convert 58 9 (.slice A m c)).run Try.prog w = .ok (.string (strOf xs)) w := by
  obtain ⟨b, o, rfl, hc⟩ := hr (by intro e; exact hne (by simpa [by8] using e))
  subst hl
  have h := run_convert_bytes_back (P := Try.prog) w 58 9 5 ⟨b, o, none⟩ c (xs.map UInt8.ofNat) Try.underlying58 Try.underlying5 Try.underlying9 (fun j hj => by
    have hj' : j < xs.length := by simpa using hj
    have := hc j (.int .u8 (xs[j] : Nat)) (by simp [by8, hj'])
    rw [show (⟨b, o, none⟩ : Addr).add j = ⟨b, o + j, none⟩ by unfold Addr.add; split <;> simp_all, this]
    have hx := hb xs[j] (List.getElem_mem _)
    simp [Nat.mod_eq_of_lt hx])
  rw [List.length_map] at h
  exact h

structure TextRel (w wr : World) (n b : Nat) (lv i : Value) (k : Nat) : Prop where
  hk : 8 * k < n + 8
  hi : i = .int .i64 (8 * k : Nat)
  own : wr.ownsRow (w.heap.size + 1) 5 1 lv (k + 1) (by8 (textTo n b k))
  blk : Blk wr w.heap.size #[.int .i64 n, .int .u64 b] 26
  bel : Below w.heap.size w wr

theorem own_one (w : World) (g : Nat) (e : TypeId) (x : Value) (base : Nat) (hg : w.heap.size = g) (hb : base ≤ g) : (w.alloc (.cells #[x] e)).ownsRow base e 1 (.slice (some ⟨g, 0, none⟩) 1 1) 1 [x] := by
  subst hg
  exact ⟨by simp, .inr ⟨w.heap.size, 1, #[x], rfl, hb, heap_alloc_new w _, Nat.le_refl _, by decide, by simp, by simp⟩⟩
theorem one1 (k : IntKind) (x : Int) : ∀ u ∈ [Value.int k x], u.oneCell' = true := by
  intro u hu
  rw [List.mem_singleton] at hu
  subst hu; rfl
theorem btext_any (n b : Nat) (w : World) (hn : n ≤ 64) (hb : b < 18446744073709551616) :
    Calls Try.prog 22 #[.agg #[.int .i64 (n : Int), .int .u64 (b : Int)]] w fun e w' => e = .returned (.string (strOf (text n b))) ∧ Below w.heap.size w w' := by
  go_enter Try.func22, Try.ntmps22
  go_wp2
  have R0 := Lib.hid (show TextRel w ((w.alloc (.cells #[.int .i64 n, .int .u64 b] 26)).alloc (.cells #[.int .u8 n] 5)) n b (.slice (some ⟨w.heap.size + 1, 0, none⟩) 1 1) (.int .i64 0) 0 from
    ⟨by omega, rfl, own_one _ _ _ _ _ (by simp) (Nat.le_refl _), (Blk.new _ _ _).alloc _, ((Below.refl _ _).alloc (Nat.le_refl _) _).alloc (by simp) _⟩)
  generalize (w.alloc (.cells #[.int .i64 n, .int .u64 b] 26)).alloc (.cells #[.int .u8 n] 5) = w0 at *
  go_loopw [3, 4] (fun lv i wr => ∃ (k : Nat), TextRel w wr n b lv i k) (fun _ i _ => n - (intOf i).toNat)
  case atStart => exact ⟨0, R0.out⟩
  case round =>
    obtain ⟨k, hk, rfl, hown, hblk, hbel⟩ := hrel
    have HO := Lib.hid hown
    have HK := Lib.hid hblk
    have HB := Lib.hid hbel
    obtain ⟨ca0, ca1, _, _⟩ := hblk.c2
    clear hown hblk hbel
    by_cases hlt : 8 * k < n
    · have hlt' : decide (8 * (k : Int) < (n : Int)) = true := by simp; omega
      have hsum : IntKind.i64.wrap (8 * (k : Int) + 8) = 8 * (k : Int) + 8 := IntWalk.i64_in _ (by omega)
      have HS := Lib.hid (textTo_succ n b k)
      have HV := Lib.hid (byte_walk b (8 * k))
      have HV2 := Lib.hid (show by8 (textTo n b k) ++ [.int .u8 ((b : Int) / 2 ^ (8 * k) % 256)] = by8 (textTo n b (k + 1)) by rw [HS.out, HV.out]; simp [by8])
      go_wp2_with (
        at_builtin
        refine app1 (w.heap.size + 1) 58 5 (.int .u8 0) 1 1 [.int .u8 ((b : Int) / 2 ^ (8 * k) % 256)] HO.out (by have := HK.out.lt; omega) (by omega) Try.underlying58 infoU8 rfl (by decide) (by decide) rfl (one1 _ _) (.tmp 15) (.tmp 21) rfl rfl rfl rfl ?_
        intro v1 x1 hown1 hg1 _
        have HX := Lib.hid (blk_grown HK.out hg1 HO.out (by omega))
        have HY := Lib.hid (Below.grown HB.out hg1 HB.out.size (fun q hq => by have := (HO.out.lt q hq).1; omega))
        rw [HV2.out] at hown1
        have HZ := Lib.hid hown1
        clear hg1 hown1)
      go_roundw
      case rel => exact ⟨k + 1, by omega, by push_cast; simp [Int.mul_add], HZ.out, HX.out, HY.out⟩
      case measure => simp [intOf]; omega
    · have hlt' : decide (8 * (k : Int) < (n : Int)) = false := by simp; omega
      obtain ⟨A2, c2, rfl, _, R2⟩ := own_rd HO.out
      have hkn : k = (n + 7) / 8 := by omega
      have HT := Lib.hid (show textTo n b k = text n b by rw [hkn]; rfl)
      have hstr := run_str (c := c2) R2 (textTo_len n b k) (by rw [HT.out]; exact text_lt n b hn) (by simp [textTo])
      have HS := Lib.hid (show strOf (textTo n b k) = strOf (text n b) by rw [HT.out])
      clear HO R2 hkn
      go_wp2
      rw [HS.out]
      go_ret
      exact ⟨rfl, HB.out⟩

end Go.Proofs.Ytlgmomjofhbggaa
