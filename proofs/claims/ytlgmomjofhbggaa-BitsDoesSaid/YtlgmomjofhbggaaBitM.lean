/- Plain law of rows of places: a number's bits below 64. No condition but sizes. -/
import Derived.Laws.BitsLemmas
import Derived.Laws.BytesArg
set_option linter.unusedVariables false
set_option linter.unusedSimpArgs false
namespace Go.Proofs.Ytlgmomjofhbggaa

def newOf (n : Int) : Nat := if n < 0 ∨ 64 < n then 0 else n.toNat
theorem newOf_le (n : Int) : newOf n ≤ 64 := by unfold newOf; split <;> omega
def inn (n : Nat) (i : Int) : Bool := decide (0 ≤ i) && decide (i < (n : Int))
def has (n b : Nat) (i : Int) : Bool := inn n i && b.testBit i.toNat
def put (b i : Nat) : Nat := b ||| 2 ^ i
def del (b i : Nat) : Nat := (b ||| 2 ^ i) ^^^ 2 ^ i
def all (n b : Nat) : List Nat := (List.range n).filter fun k => b.testBit k
def next (n b : Nat) (i : Int) : Option Nat := (List.range n).find? fun k => decide (i ≤ (k : Int)) && b.testBit k
def text (n b : Nat) : List Nat := n :: (List.range ((n + 7) / 8)).map fun k => b / 2 ^ (8 * k) % 256
def num : List Nat → Nat
  | [] => 0
  | y :: ys => y + 256 * num ys
def load : List Nat → Option (Nat × Nat)
  | [] => none
  | n :: ys => if 64 < n then none else if ys.length ≠ (n + 7) / 8 then none else if n < 64 ∧ num ys / 2 ^ n ≠ 0 then none else some (n, num ys)
def strOf (xs : List Nat) : ByteArray := ⟨(xs.map UInt8.ofNat).toArray⟩

theorem p64 : (2 : Nat) ^ 64 = 18446744073709551616 := by decide
theorem put_lt {b i : Nat} (hb : b < 18446744073709551616) (hi : i < 64) : put b i < 18446744073709551616 := by
  have := @Nat.or_lt_two_pow b (2 ^ i) 64 (by omega) (Nat.pow_lt_pow_right (by decide) hi)
  unfold put; omega
theorem del_lt {b i : Nat} (hb : b < 18446744073709551616) (hi : i < 64) : del b i < 18446744073709551616 := by
  have h1 := put_lt hb hi
  have := @Nat.xor_lt_two_pow (b ||| 2 ^ i) (2 ^ i) 64 (by unfold put at h1; omega) (Nat.pow_lt_pow_right (by decide) hi)
  unfold del; omega
theorem or_lt64 {a b : Nat} (ha : a < 18446744073709551616) (hb : b < 18446744073709551616) : a ||| b < 18446744073709551616 := by
  have := @Nat.or_lt_two_pow a b 64 (by omega) (by omega)
  omega
theorem testBit_put (b i k : Nat) : (put b i).testBit k = (b.testBit k || decide (i = k)) := by
  unfold put
  rw [Nat.testBit_or, Nat.testBit_two_pow]
theorem testBit_del (b i k : Nat) : (del b i).testBit k = (b.testBit k && !decide (i = k)) := by
  unfold del
  rw [Nat.testBit_xor, Nat.testBit_or, Nat.testBit_two_pow]
  cases b.testBit k <;> cases decide (i = k) <;> rfl

theorem wraps_u64 (n : Int) (h0 : 0 ≤ n) (h1 : n < 2 ^ 64) : IntKind.u64.wrap n = n := by
  simp [IntKind.wrap, IntKind.bits, IntKind.signed]; omega
theorem or64 {a b : Nat} (ha : a < 18446744073709551616) (hb : b < 18446744073709551616) : bits .or .u64 (a : Int) (b : Int) = ((a ||| b : Nat) : Int) := by
  have h := or_lt64 ha hb
  have ha' : a % 2 ^ 64 = a := Nat.mod_eq_of_lt (by omega)
  have hb' : b % 2 ^ 64 = b := Nat.mod_eq_of_lt (by omega)
  have e : (BitVec.ofInt 64 (a : Int) ||| BitVec.ofInt 64 (b : Int)).toNat = a ||| b := by
    rw [BitVec.ofInt_natCast, BitVec.ofInt_natCast, BitVec.toNat_or, BitVec.toNat_ofNat, BitVec.toNat_ofNat, ha', hb']
  show IntKind.u64.wrap ((BitVec.ofInt 64 (a : Int) ||| BitVec.ofInt 64 (b : Int)).toNat : Int) = _
  rw [e]
  refine wraps_u64 _ ?_ ?_ <;> omega
theorem and64 {a b : Nat} (ha : a < 18446744073709551616) (hb : b < 18446744073709551616) : bits .and .u64 (a : Int) (b : Int) = ((a &&& b : Nat) : Int) := by
  have h : a &&& b ≤ a := Nat.and_le_left
  have ha' : a % 2 ^ 64 = a := Nat.mod_eq_of_lt (by omega)
  have hb' : b % 2 ^ 64 = b := Nat.mod_eq_of_lt (by omega)
  have e : (BitVec.ofInt 64 (a : Int) &&& BitVec.ofInt 64 (b : Int)).toNat = a &&& b := by
    rw [BitVec.ofInt_natCast, BitVec.ofInt_natCast, BitVec.toNat_and, BitVec.toNat_ofNat, BitVec.toNat_ofNat, ha', hb']
  show IntKind.u64.wrap ((BitVec.ofInt 64 (a : Int) &&& BitVec.ofInt 64 (b : Int)).toNat : Int) = _
  rw [e]
  refine wraps_u64 _ ?_ ?_ <;> omega
theorem and64_1 {a : Nat} (ha : a < 18446744073709551616) : bits .and .u64 (a : Int) 1 = ((a % 2 : Nat) : Int) := by
  have := and64 (b := 1) ha (by decide)
  rw [Nat.and_one_is_mod] at this
  exact this
theorem andNot64 {a i : Nat} (ha : a < 18446744073709551616) (hi : i < 64) : bits .andNot .u64 (a : Int) ((2 ^ i : Nat) : Int) = ((del a i : Nat) : Int) := by
  have h := del_lt ha hi
  have ha' : a % 2 ^ 64 = a := Nat.mod_eq_of_lt (by omega)
  have hb' : 2 ^ i % 2 ^ 64 = 2 ^ i := Nat.mod_eq_of_lt (Nat.pow_lt_pow_right (by decide) hi)
  have e : (BitVec.ofInt 64 (a : Int) &&& ~~~ BitVec.ofInt 64 ((2 ^ i : Nat) : Int)).toNat = del a i := by
    apply Nat.eq_of_testBit_eq
    intro k
    rw [testBit_del, BitVec.ofInt_natCast, BitVec.ofInt_natCast, BitVec.toNat_and, Nat.testBit_and, BitVec.testBit_toNat, BitVec.testBit_toNat, BitVec.getLsbD_not, BitVec.getLsbD_ofNat, BitVec.getLsbD_ofNat, Nat.testBit_two_pow]
    by_cases hk : k < 64
    · simp [hk]
    · have : a.testBit k = false := Nat.testBit_lt_two_pow (Nat.lt_of_lt_of_le ha (by rw [← p64]; exact Nat.pow_le_pow_right (by decide) (by omega)))
      simp [hk, this]
  show IntKind.u64.wrap ((BitVec.ofInt 64 (a : Int) &&& ~~~ BitVec.ofInt 64 ((2 ^ i : Nat) : Int)).toNat : Int) = _
  rw [e]
  refine wraps_u64 _ ?_ ?_ <;> omega
theorem shl64 {k : Nat} (h : k < 64) : ((2 : Int) ^ k % 18446744073709551616) = ((2 ^ k : Nat) : Int) := by
  have h2 : 2 ^ k < 18446744073709551616 := by rw [← p64]; exact Nat.pow_lt_pow_right (by decide) h
  have e : ((2 ^ k : Nat) : Int) = (2 : Int) ^ k := by simp
  rw [← e]
  generalize 2 ^ k = x at *
  omega
/-- b >> i & 1 == 1. -/
theorem bit_at (b k : Nat) : (((b / 2 ^ k % 2 : Nat) : Int) == 1) = b.testBit k := by
  rw [Nat.testBit_eq_decide_div_mod_eq]
  by_cases h : b / 2 ^ k % 2 = 1
  · rw [h]; simp
  · rw [decide_eq_false h]
    exact beq_eq_false_iff_ne.2 (by omega)

/-! ### The text -/
theorem num_lt : ∀ (ys : List Nat), (∀ y ∈ ys, y < 256) → num ys < 2 ^ (8 * ys.length)
  | [], _ => by simp [num]
  | y :: ys, h => by
    have ih := num_lt ys (fun z hz => h z (by simp [hz]))
    have hy := h y (by simp)
    rw [num, List.length_cons, Nat.mul_succ, Nat.pow_add, show (2 : Nat) ^ 8 = 256 from rfl]
    omega
theorem num_snoc (ys : List Nat) (y : Nat) : num (ys ++ [y]) = num ys + 2 ^ (8 * ys.length) * y := by
  induction ys with
  | nil => simp [num]
  | cons z ys ih =>
    rw [List.cons_append, num, ih, num, List.length_cons, Nat.mul_succ, Nat.pow_add, show (2 : Nat) ^ 8 = 256 from rfl, Nat.mul_add, Nat.add_assoc]
    congr 2
    rw [← Nat.mul_assoc, Nat.mul_comm 256]
theorem num_or (ys : List Nat) (y : Nat) (h : ∀ y ∈ ys, y < 256) : num (ys ++ [y]) = num ys ||| (y * 2 ^ (8 * ys.length)) := by
  rw [num_snoc, Nat.add_comm, Nat.two_pow_add_eq_or_of_lt (num_lt ys h), Nat.or_comm, Nat.mul_comm y]
theorem num_take_succ (ys : List Nat) (k : Nat) (hk : k < ys.length) (h : ∀ y ∈ ys, y < 256) : num (ys.take (k + 1)) = num (ys.take k) ||| (ys[k] * 2 ^ (8 * k)) := by
  rw [List.take_add_one, List.getElem?_eq_getElem hk]
  show num (ys.take k ++ [ys[k]]) = _
  rw [num_or _ _ (fun y hy => h y (List.mem_of_mem_take hy)), List.length_take, Nat.min_eq_left (by omega)]
/-- The bytes of a number, and back. -/
theorem num_bytes (b m : Nat) : num ((List.range m).map fun k => b / 2 ^ (8 * k) % 256) = b % 2 ^ (8 * m) := by
  induction m with
  | zero => simp [num, Nat.mod_one]
  | succ m ih =>
    rw [List.range_succ, List.map_append, List.map_singleton, num_snoc, ih, List.length_map, List.length_range, Nat.mul_succ, Nat.pow_add, Nat.mod_mul, show (2 : Nat) ^ 8 = 256 from rfl]
theorem text_lt (n b : Nat) (hn : n ≤ 64) : ∀ y ∈ text n b, y < 256 := by
  intro y hy
  simp only [text, List.mem_cons, List.mem_map, List.mem_range] at hy
  rcases hy with rfl | ⟨k, _, rfl⟩
  · omega
  · exact Nat.mod_lt _ (by decide)
theorem text_len (n b : Nat) : (text n b).length = 1 + (n + 7) / 8 := by simp [text]; omega
/-- A row that has no mark beyond its places is read back from its text. -/
theorem load_text {n b : Nat} (hn : n ≤ 64) (hb : b < 2 ^ n) : load (text n b) = some (n, b) := by
  have e : num ((List.range ((n + 7) / 8)).map fun k => b / 2 ^ (8 * k) % 256) = b := by
    rw [num_bytes]
    exact Nat.mod_eq_of_lt (Nat.lt_of_lt_of_le hb (Nat.pow_le_pow_right (by decide) (by omega)))
  simp only [load, text, e, List.length_map, List.length_range]
  rw [if_neg (by omega), if_neg (by simp), if_neg (by rw [Nat.div_eq_of_lt hb]; simp)]
/-- The bytes of a list of bytes' number. -/
theorem bytes_num (ys : List Nat) (h : ∀ y ∈ ys, y < 256) : ((List.range ys.length).map fun k => num ys / 2 ^ (8 * k) % 256) = ys := by
  induction ys with
  | nil => rfl
  | cons y ys ih =>
    have hy := h y (by simp)
    rw [List.length_cons, List.range_succ_eq_map, List.map_cons, List.map_map]
    congr 1
    · simp only [num, Nat.mul_zero, Nat.pow_zero, Nat.div_one]; omega
    · have := ih (fun z hz => h z (by simp [hz]))
      conv => rhs; rw [← this]
      apply List.map_congr_left
      intro k _
      show num (y :: ys) / 2 ^ (8 * (k + 1)) % 256 = _
      rw [num, Nat.mul_succ, Nat.add_comm (8 * k), Nat.pow_add, ← Nat.div_div_eq_div_mul, show (2 : Nat) ^ 8 = 256 from rfl]
      congr 2
      omega
theorem text_load {xs : List Nat} {n b : Nat} (hx : ∀ x ∈ xs, x < 256) (h : load xs = some (n, b)) : text n b = xs ∧ n ≤ 64 ∧ b < 2 ^ n := by
  match xs, h with
  | m :: ys, h =>
    simp only [load] at h
    split at h
    · cases h
    split at h
    · cases h
    split at h
    · cases h
    rename_i h1 h2 h3
    simp only [Option.some.injEq, Prod.mk.injEq] at h
    obtain ⟨rfl, rfl⟩ := h
    have hys : ∀ y ∈ ys, y < 256 := fun y hy => hx y (by simp [hy])
    have hl : ys.length = (m + 7) / 8 := by simpa using h2
    refine ⟨?_, by omega, ?_⟩
    · rw [text, ← hl, bytes_num ys hys]
    · have hlt := num_lt ys hys
      by_cases hm : m < 64
      · have : num ys / 2 ^ m = 0 := by
          apply Classical.byContradiction
          intro hne
          exact h3 ⟨hm, hne⟩
        rcases Nat.div_eq_zero_iff.1 this with h0 | h0
        · exact absurd h0 (Nat.ne_of_gt (Nat.two_pow_pos _))
        · exact h0
      · obtain rfl : m = 64 := by omega
        rw [hl] at hlt
        exact hlt

/-! ### The laws of places -/
theorem all_succ (k b : Nat) : all (k + 1) b = all k b ++ (if b.testBit k then [k] else []) := by
  unfold all
  rw [List.range_succ, List.filter_append]
  congr 1
  by_cases h : b.testBit k = true <;> simp [h]
theorem all_len (k b : Nat) : (all k b).length ≤ k := by
  have := List.length_filter_le (fun k => b.testBit k) (List.range k)
  simpa [all] using this
theorem next_some {n b : Nat} {i : Int} {k : Nat} (hk : k < n) (hi : i ≤ k) (hb : b.testBit k = true) (h : ∀ j, j < k → i ≤ (j : Int) → b.testBit j = false) : next n b i = some k := by
  unfold next
  rw [List.find?_range_eq_some]
  refine ⟨by simp [hi, hb], by simpa using hk, fun j hj => ?_⟩
  by_cases hij : i ≤ (j : Int)
  · simp [h j hj hij]
  · simp [hij]
theorem next_none {n b : Nat} {i : Int} (h : ∀ j, j < n → i ≤ (j : Int) → b.testBit j = false) : next n b i = none := by
  unfold next
  rw [List.find?_range_eq_none]
  intro j hj
  by_cases hij : i ≤ (j : Int)
  · simp [h j hj hij]
  · simp [hij]
theorem next_spec {n b : Nat} {i : Int} {k : Nat} (h : next n b i = some k) : k < n ∧ i ≤ k ∧ b.testBit k = true ∧ ∀ j, j < k → i ≤ (j : Int) → b.testBit j = false := by
  unfold next at h
  rw [List.find?_range_eq_some] at h
  obtain ⟨h1, h2, h3⟩ := h
  simp only [Bool.and_eq_true, decide_eq_true_eq] at h1
  refine ⟨by simpa using h2, h1.1, h1.2, fun j hj hij => ?_⟩
  have := h3 j hj
  simpa [hij] using this
theorem next_nothing {n b : Nat} {i : Int} (h : next n b i = none) : ∀ j, j < n → i ≤ (j : Int) → b.testBit j = false := by
  unfold next at h
  rw [List.find?_range_eq_none] at h
  intro j hj hij
  have := h j hj
  simpa [hij] using this
/-- A row's marks up to a place. -/
theorem low_succ (u k : Nat) : u % 2 ^ (k + 1) = if u.testBit k then put (u % 2 ^ k) k else u % 2 ^ k := by
  apply Nat.eq_of_testBit_eq
  intro j
  rw [Nat.testBit_mod_two_pow]
  split
  · rename_i h
    rw [testBit_put, Nat.testBit_mod_two_pow]
    by_cases hj : j = k
    · subst hj; simp [h]
    · by_cases hjk : j < k
      · simp [hjk, show j < k + 1 by omega, show ¬ k = j by omega]
      · simp [hjk, show ¬ j < k + 1 by omega, show ¬ k = j by omega]
  · rename_i h
    rw [Nat.testBit_mod_two_pow]
    by_cases hj : j = k
    · subst hj; simp [h]
    · by_cases hjk : j < k
      · simp [hjk, show j < k + 1 by omega]
      · simp [hjk, show ¬ j < k + 1 by omega]
def textTo (n b k : Nat) : List Nat := n :: (List.range k).map fun k => b / 2 ^ (8 * k) % 256
theorem textTo_succ (n b k : Nat) : textTo n b (k + 1) = textTo n b k ++ [b / 2 ^ (8 * k) % 256] := by simp [textTo, List.range_succ]
theorem textTo_len (n b k : Nat) : (textTo n b k).length = k + 1 := by simp [textTo]
theorem mem_all {n b k : Nat} : k ∈ all n b ↔ k < n ∧ b.testBit k = true := by simp [all]
theorem all_nil_of_zero (n : Nat) : all n 0 = [] := by simp [all]
theorem has_nat (n b k : Nat) : has n b (k : Int) = (decide (k < n) && b.testBit k) := by
  simp [has, inn]
end Go.Proofs.Ytlgmomjofhbggaa
