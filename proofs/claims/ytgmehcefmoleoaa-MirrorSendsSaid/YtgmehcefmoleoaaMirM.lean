/- The plain side of package mirror. No condition. -/
import Derived.WalkKit
set_option linter.unusedVariables false
set_option linter.unusedSimpArgs false
namespace Go.Proofs.Ytgmehcefmoleoaa

structure Item where
  seq : Int
  blk : Int
  data : ByteArray
  cl : Int
  n : Int

def Item.cells (x : Item) : List Value := [.int .i64 x.seq, .int .i64 x.blk, .string x.data, .int .i64 x.cl, .int .i64 x.n]
def flat (l : List Item) : List Value := (l.map Item.cells).flatten
theorem flat_nil : flat [] = [] := rfl
theorem flat_cons (x : Item) (l : List Item) : flat (x :: l) = x.cells ++ flat l := rfl
theorem flat_append (l m : List Item) : flat (l ++ m) = flat l ++ flat m := by simp [flat]
theorem flat_length : ∀ l : List Item, (flat l).length = l.length * 5
  | [] => rfl
  | x :: l => by rw [flat_cons, List.length_append, flat_length l]; simp [Item.cells]; omega
theorem flat_one : ∀ (l : List Item) (u : Value), u ∈ flat l → u.oneCell' = true := by
  intro l u hu
  simp only [flat, List.mem_flatten, List.mem_map] at hu
  obtain ⟨cs, ⟨x, _, rfl⟩, hu⟩ := hu
  simp only [Item.cells, List.mem_cons, List.not_mem_nil, or_false] at hu
  rcases hu with rfl | rfl | rfl | rfl | rfl <;> rfl
theorem flat_drop : ∀ (k : Nat) (l : List Item), flat (l.drop k) = (flat l).drop (k * 5)
  | 0, l => by simp
  | k + 1, [] => by simp [flat]
  | k + 1, x :: l => by
    rw [List.drop_succ_cons, flat_drop k l, flat_cons, show (k + 1) * 5 = k * 5 + 5 by omega, ← List.drop_drop]
    rw [show (x.cells ++ flat l).drop (k * 5) = (x.cells ++ flat l).drop (k * 5) from rfl, List.drop_drop, Nat.add_comm, ← List.drop_drop]
    rfl
theorem flat_get : ∀ (l : List Item) (k j : Nat) (hk : k < l.length), j < 5 → (flat l)[k * 5 + j]? = (l[k].cells)[j]?
  | x :: l, 0, j, hk, hj => by
    rw [flat_cons, List.getElem?_append_left (by simp [Item.cells]; omega)]
    simp
  | x :: l, k + 1, j, hk, hj => by
    have hl : x.cells.length = 5 := rfl
    rw [flat_cons, List.getElem?_append_right (by omega), hl, show (k + 1) * 5 + j - 5 = k * 5 + j by omega, flat_get l k j (by simpa using hk) hj]
    simp

/-- What is done with an item. -/
def nextM (le ls e s : Int) : Int :=
  if e > le then (if s = 1 then 1 else 0) else if e < le then 0 else if s ≤ ls then 2 else if s - 1 = ls then 1 else 0
end Go.Proofs.Ytgmehcefmoleoaa
