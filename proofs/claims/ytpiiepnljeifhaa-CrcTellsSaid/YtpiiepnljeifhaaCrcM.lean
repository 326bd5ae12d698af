/- Plain law of the sums: a linear step on numbers, and what is made of it. No condition but sizes. -/
import Derived.Laws.BitsLemmas
set_option linter.unusedVariables false
set_option linter.unusedSimpArgs false
namespace Go.Proofs.Ytpiiepnljeifhaa

/-- One bit's step. -/
def stp (s : Nat) : Nat := if s % 2 = 1 then (s / 2) ^^^ 2197175160 else s / 2
def it : Nat → Nat → Nat
  | 0, s => s
  | n + 1, s => it n (stp s)
def onB (s b : Nat) : Nat := it 8 (s ^^^ b)
def run (s : Nat) (bs : List Nat) : Nat := bs.foldl onB s
def more (s : Nat) (bs : List Nat) : Nat := 4294967295 ^^^ run (4294967295 ^^^ s) bs
def sum (bs : List Nat) : Nat := more 0 bs
def join (a b n : Nat) : Nat := if n = 0 then a else it (8 * n) a ^^^ b

theorem xor_lc (a b c : Nat) : a ^^^ (b ^^^ c) = b ^^^ (a ^^^ c) := by rw [← Nat.xor_assoc, Nat.xor_comm a, Nat.xor_assoc]
theorem xor_kill (a b : Nat) : a ^^^ (a ^^^ b) = b := by rw [← Nat.xor_assoc, Nat.xor_self, Nat.zero_xor]
theorem xor_z {a b : Nat} (h : a ^^^ b = 0) : a = b := by rw [← xor_kill b a, Nat.xor_comm b a, h, Nat.xor_zero]
theorem xor_rc {a b c : Nat} (h : a ^^^ c = b ^^^ c) : a = b := by rw [← xor_kill c a, Nat.xor_comm c a, h, Nat.xor_comm b c, xor_kill]
theorem xor_half (a b : Nat) : (a ^^^ b) / 2 = (a / 2) ^^^ (b / 2) := by
  have := Nat.shiftRight_xor_distrib (a := a) (b := b) (i := 1)
  simpa [Nat.shiftRight_eq_div_pow] using this
theorem xor_odd (a b : Nat) : (a ^^^ b) % 2 = (a % 2) ^^^ (b % 2) := by
  have := @Nat.xor_mod_two_pow a b 1
  simpa using this
theorem stp_xor (a b : Nat) : stp (a ^^^ b) = stp a ^^^ stp b := by
  unfold stp
  rw [xor_half, xor_odd]
  rcases Nat.mod_two_eq_zero_or_one a with ha | ha <;> rcases Nat.mod_two_eq_zero_or_one b with hb | hb <;> simp [ha, hb]
  · rw [Nat.xor_assoc]
  · rw [Nat.xor_assoc, Nat.xor_assoc, Nat.xor_comm (b / 2)]
  · rw [Nat.xor_assoc (a / 2), xor_lc 2197175160, Nat.xor_self, Nat.xor_zero]
theorem stp_lt {s : Nat} (h : s < 4294967296) : stp s < 4294967296 := by
  unfold stp
  split
  · exact Nat.xor_lt_two_pow (n := 32) (by omega) (by decide)
  · omega
theorem stp_zero {s : Nat} (h : s < 4294967296) (h0 : stp s = 0) : s = 0 := by
  unfold stp at h0
  split at h0
  · have := xor_z h0
    omega
  · omega
theorem it_zero (n : Nat) : it n 0 = 0 := by
  induction n with
  | zero => rfl
  | succ n ih => exact ih
theorem it_xor (n a b : Nat) : it n (a ^^^ b) = it n a ^^^ it n b := by
  induction n generalizing a b with
  | zero => rfl
  | succ n ih => simp only [it, stp_xor, ih]
theorem it_lt {s : Nat} (n : Nat) (h : s < 4294967296) : it n s < 4294967296 := by
  induction n generalizing s with
  | zero => exact h
  | succ n ih => exact ih (stp_lt h)
theorem it_add (m n s : Nat) : it (m + n) s = it n (it m s) := by
  induction m generalizing s with
  | zero => simp [it]
  | succ m ih => rw [Nat.succ_add]; exact ih _
theorem it_succ (n s : Nat) : it (n + 1) s = stp (it n s) := it_add n 1 s
theorem it_null {s : Nat} (n : Nat) (h : s < 4294967296) (h0 : it n s = 0) : s = 0 := by
  induction n generalizing s with
  | zero => exact h0
  | succ n ih => exact stp_zero h (ih (stp_lt h) h0)
theorem xor_lt {a b : Nat} (ha : a < 4294967296) (hb : b < 4294967296) : a ^^^ b < 4294967296 := Nat.xor_lt_two_pow (n := 32) ha hb
theorem it_inj {a b : Nat} (n : Nat) (ha : a < 4294967296) (hb : b < 4294967296) (h : it n a = it n b) : a = b := by
  have : it n (a ^^^ b) = 0 := by rw [it_xor, h, Nat.xor_self]
  exact xor_z (it_null n (xor_lt ha hb) this)
theorem onB_lt {s b : Nat} (hs : s < 4294967296) (hb : b < 256) : onB s b < 4294967296 := it_lt _ (xor_lt hs (by omega))
theorem run_lt {s : Nat} (bs : List Nat) (hs : s < 4294967296) (hb : ∀ b ∈ bs, b < 256) : run s bs < 4294967296 := by
  induction bs generalizing s with
  | nil => exact hs
  | cons b bs ih => exact ih (onB_lt hs (hb b (by simp))) (fun c hc => hb c (by simp [hc]))
theorem run_append (s : Nat) (a b : List Nat) : run s (a ++ b) = run (run s a) b := by simp [run]
theorem run_split (s : Nat) (bs : List Nat) : run s bs = it (8 * bs.length) s ^^^ run 0 bs := by
  induction bs generalizing s with
  | nil => simp [run, it]
  | cons b bs ih =>
    show run (onB s b) bs = it _ s ^^^ run (onB 0 b) bs
    rw [ih (onB s b), ih (onB 0 b)]
    unfold onB
    rw [it_xor, it_xor, it_xor, it_xor, it_zero, it_zero, Nat.zero_xor, List.length_cons, show 8 * (bs.length + 1) = 8 + 8 * bs.length by omega, it_add, Nat.xor_assoc]
theorem more_lt {s : Nat} (bs : List Nat) (hs : s < 4294967296) (hb : ∀ b ∈ bs, b < 256) : more s bs < 4294967296 := xor_lt (by decide) (run_lt bs (xor_lt (by decide) hs) hb)
theorem more_split (s : Nat) (bs : List Nat) : more s bs = it (8 * bs.length) s ^^^ sum bs := by
  unfold sum more
  rw [run_split (4294967295 ^^^ s), run_split (4294967295 ^^^ 0), Nat.xor_zero, it_xor]
  simp only [Nat.xor_assoc]
  rw [xor_lc (it (8 * bs.length) s), xor_lc (it (8 * bs.length) s)]
theorem more_nil (s : Nat) : more s [] = s := by
  simp [more, run, ← Nat.xor_assoc]
theorem more_append (s : Nat) (a b : List Nat) : more s (a ++ b) = more (more s a) b := by
  unfold more
  rw [run_append, ← Nat.xor_assoc 4294967295 4294967295, Nat.xor_self, Nat.zero_xor]
theorem sum_append (a b : List Nat) : sum (a ++ b) = more (sum a) b := more_append 0 a b
theorem join_sum (s : Nat) (b : List Nat) : join s (sum b) b.length = more s b := by
  unfold join
  split
  · rename_i h
    rw [List.eq_nil_of_length_eq_zero h, more_nil]
  · rw [more_split]
theorem join_join (a b c n m : Nat) (hn : n ≠ 0) (hm : m ≠ 0) : join (join a b n) c m = join a (join b c m) (n + m) := by
  unfold join
  rw [if_neg hn, if_neg hm, if_neg hm, if_neg (by omega), it_xor, Nat.mul_add, it_add, Nat.xor_assoc]
theorem join_lt {a b : Nat} (n : Nat) (ha : a < 4294967296) (hb : b < 4294967296) : join a b n < 4294967296 := by
  unfold join
  split
  · exact ha
  · exact xor_lt (it_lt _ ha) hb
theorem more_inj {a b : Nat} (bs : List Nat) (ha : a < 4294967296) (hb : b < 4294967296) (h : more a bs = more b bs) : a = b := by
  rw [more_split, more_split b] at h
  exact it_inj _ ha hb (xor_rc h)
theorem run_inj {a b : Nat} (bs : List Nat) (ha : a < 4294967296) (hb : b < 4294967296) (h : run a bs = run b bs) : a = b := by
  rw [run_split, run_split b] at h
  exact it_inj _ ha hb (xor_rc h)

/-- The sum of rows told apart. -/
theorem run_xor (s t : Nat) (a b : List Nat) (h : a.length = b.length) : run (s ^^^ t) (List.zipWith (· ^^^ ·) a b) = run s a ^^^ run t b := by
  induction a generalizing s t b with
  | nil =>
    cases b with
    | nil => rfl
    | cons _ _ => simp at h
  | cons x a ih =>
    cases b with
    | nil => simp at h
    | cons y b =>
      show run (onB (s ^^^ t) (x ^^^ y)) (List.zipWith (· ^^^ ·) a b) = run (onB s x) a ^^^ run (onB t y) b
      rw [← ih _ _ _ (by simpa using h)]
      congr 1
      unfold onB
      rw [← it_xor]
      congr 1
      rw [Nat.xor_assoc, xor_lc t, ← Nat.xor_assoc]
theorem sum_xor3 (a b c : List Nat) (h1 : a.length = b.length) (h2 : b.length = c.length) : sum (List.zipWith (· ^^^ ·) (List.zipWith (· ^^^ ·) a b) c) = sum a ^^^ sum b ^^^ sum c := by
  unfold sum more
  simp only [Nat.xor_zero]
  have e := run_xor (4294967295 ^^^ 4294967295) 4294967295 (List.zipWith (· ^^^ ·) a b) c (by simp; omega)
  rw [run_xor _ _ _ _ h1] at e
  rw [show (4294967295 ^^^ 4294967295 ^^^ 4294967295 : Nat) = 4294967295 by decide] at e
  rw [e]
  generalize run 4294967295 a = x
  generalize run 4294967295 b = y
  generalize run 4294967295 c = z
  apply Nat.eq_of_testBit_eq
  intro i
  simp only [Nat.testBit_xor]
  cases Nat.testBit 4294967295 i <;> cases x.testBit i <;> cases y.testBit i <;> cases z.testBit i <;> rfl

/-! ### The machine's numbers -/
theorem bits_xor_nat (k : IntKind) (j : Nat) (hj : j ≤ k.bits) (hk : ∀ n : Int, 0 ≤ n → n < 2 ^ j → k.wrap n = n) (a b : Nat) (ha : a < 2 ^ j) (hb : b < 2 ^ j) :
    bits .xor k a b = ((a ^^^ b : Nat) : Int) := by
  have hp : 2 ^ j ≤ 2 ^ k.bits := Nat.pow_le_pow_right (by decide) hj
  have ha' : a % 2 ^ k.bits = a := Nat.mod_eq_of_lt (Nat.lt_of_lt_of_le ha hp)
  have hb' : b % 2 ^ k.bits = b := Nat.mod_eq_of_lt (Nat.lt_of_lt_of_le hb hp)
  have cast : ∀ n : Nat, n < 2 ^ j → ((n : Nat) : Int) < 2 ^ j := fun n h => by exact_mod_cast h
  simp only [bits, BitVec.ofInt_natCast, BitVec.toNat_xor, BitVec.toNat_ofNat, ha', hb']
  exact hk _ (Int.natCast_nonneg _) (cast _ (Nat.xor_lt_two_pow ha hb))
theorem xor32 {a b : Nat} (ha : a < 4294967296) (hb : b < 4294967296) : bits .xor .u32 (a : Int) (b : Int) = ((a ^^^ b : Nat) : Int) :=
  bits_xor_nat .u32 32 (by decide) (fun n h0 h1 => by rw [IntKind.wrap_u32]; omega) a b ha hb
theorem xor8 {a b : Nat} (ha : a < 256) (hb : b < 256) : bits .xor .u8 (a : Int) (b : Int) = ((a ^^^ b : Nat) : Int) :=
  bits_xor_nat .u8 8 (by decide) wraps_u8 a b ha hb
theorem and1 {a : Nat} (ha : a < 4294967296) : bits .and .u32 (a : Int) 1 = ((a % 2 : Nat) : Int) := by
  have := bits_mask .u32 32 (by decide) (fun n h0 h1 => by rw [IntKind.wrap_u32]; omega) 1 (by decide) a (by omega) (by omega)
  simpa using this
end Go.Proofs.Ytpiiepnljeifhaa
