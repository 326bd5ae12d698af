/- The plain side of package net: letters, what sending, taking and copying make of them. No condition. -/
import Derived.Test.YtofljgnfbakhoaaBox
set_option linter.unusedVariables false
set_option linter.unusedSimpArgs false
namespace Go.Proofs.Ytofljgnfbakhoaa
open Go.RowKit

structure Letter where
  frm : Int
  to : Int
  body : ByteArray
def Letter.cells (x : Letter) : List Value := [.int .i64 x.frm, .int .i64 x.to, .string x.body]
def eLet : Enc Letter := ⟨Letter.cells, 3, fun _ => rfl, fun x u hu => by
  simp only [Letter.cells, List.mem_cons, List.not_mem_nil, or_false] at hu
  rcases hu with rfl | rfl | rfl <;> rfl⟩
def Letter.ok (x : Letter) : Prop := (-9223372036854775808 ≤ x.frm ∧ x.frm ≤ 9223372036854775807) ∧ (-9223372036854775808 ≤ x.to ∧ x.to ≤ 9223372036854775807) ∧ x.body.size ≤ 140737488351232
abbrev Letter.agg (x : Letter) : Value := .agg #[.int .i64 x.frm, .int .i64 x.to, .string x.body]

theorem Rd.let3 {w : World} {A : Option Addr} {l : List Letter} (h : Rd w A (eLet.fl l)) (k : Nat) (x : Letter) (hx : l[k]? = some x) :
    ∃ b o, A = some ⟨b, o, none⟩ ∧ w.cell? ⟨b, o + k * 3, none⟩ = some (.int .i64 x.frm) ∧ w.cell? ⟨b, o + k * 3 + 1, none⟩ = some (.int .i64 x.to) ∧ w.cell? ⟨b, o + k * 3 + 2, none⟩ = some (.string x.body) := by
  obtain ⟨hk, rfl⟩ := List.getElem?_eq_some_iff.1 hx
  obtain ⟨b, o, e, hc⟩ := h.elem k hk (by decide)
  exact ⟨b, o, e, hc 0 _ rfl, hc 1 _ rfl, hc 2 _ rfl⟩
def placeB (i : Int) : Bool := decide (0 ≤ i ∧ i < 8)
/-- Why a letter isn't sent; 0: it is. -/
def sendE (l : List Letter) (x : Letter) : Int :=
  if placeB x.frm = true ∧ placeB x.to = true ∧ x.frm ≠ x.to then if 200 < x.body.size then 3 else if 300 ≤ l.length then 5 else 0 else 1
def sendL (l : List Letter) (x : Letter) : List Letter := if sendE l x = 0 then l ++ [x] else l
theorem sendE_place {l : List Letter} {x : Letter} (h : ¬ (placeB x.frm = true ∧ placeB x.to = true ∧ x.frm ≠ x.to)) : sendE l x = 1 := if_neg h
theorem sendE_size {l : List Letter} {x : Letter} (h : placeB x.frm = true ∧ placeB x.to = true ∧ x.frm ≠ x.to) (h2 : 200 < x.body.size) : sendE l x = 3 := by unfold sendE; rw [if_pos h, if_pos h2]
theorem sendE_many {l : List Letter} {x : Letter} (h : placeB x.frm = true ∧ placeB x.to = true ∧ x.frm ≠ x.to) (h2 : ¬ 200 < x.body.size) (h3 : 300 ≤ l.length) : sendE l x = 5 := by unfold sendE; rw [if_pos h, if_neg h2, if_pos h3]
theorem sendE_ok {l : List Letter} {x : Letter} (h : placeB x.frm = true ∧ placeB x.to = true ∧ x.frm ≠ x.to) (h2 : ¬ 200 < x.body.size) (h3 : ¬ 300 ≤ l.length) : sendE l x = 0 := by unfold sendE; rw [if_pos h, if_neg h2, if_neg h3]
theorem sendL_no {l : List Letter} {x : Letter} (h : sendE l x ≠ 0) : sendL l x = l := if_neg h
theorem sendL_ok {l : List Letter} {x : Letter} (h : sendE l x = 0) : sendL l x = l ++ [x] := if_pos h
theorem sendE_inv {l : List Letter} {x : Letter} (h : sendE l x = 0) : (placeB x.frm = true ∧ placeB x.to = true ∧ x.frm ≠ x.to) ∧ x.body.size ≤ 200 ∧ l.length < 300 := by
  unfold sendE at h
  split at h
  · split at h
    · cases h
    · split at h
      · cases h
      · exact ⟨by assumption, by omega, by omega⟩
  · cases h
theorem sendL_le {l : List Letter} {x : Letter} (h : l.length ≤ 300) : (sendL l x).length ≤ 300 := by
  unfold sendL
  split
  · rename_i h0
    have := (sendE_inv h0).2.2
    simp; omega
  · exact h
/-- The place of a number among n. -/
def atK (i : Int) (n : Nat) : Nat := (i % (n : Int)).toNat
theorem atK_lt (i : Int) {n : Nat} (h : 0 < n) : atK i n < n := by
  unfold atK
  have h1 := Int.emod_nonneg i (show (n : Int) ≠ 0 by omega)
  have h2 := Int.emod_lt_of_pos i (show (0 : Int) < n by omega)
  omega
theorem atK_cast (i : Int) {n : Nat} (h : 0 < n) : ((atK i n : Nat) : Int) = i % (n : Int) := by
  unfold atK
  have h1 := Int.emod_nonneg i (show (n : Int) ≠ 0 by omega)
  omega
theorem tmod_bd (i : Int) {n : Nat} (h : 0 < n) : -(n : Int) < i.tmod n ∧ i.tmod n < n := by
  have h1 := Int.tmod_lt_of_pos i (show (0 : Int) < n by omega)
  refine ⟨?_, h1⟩
  have h3 := Int.tmod_lt_of_pos (-i) (show (0 : Int) < n by omega)
  rw [Int.neg_tmod] at h3
  omega
theorem tmod_emod (i : Int) {n : Nat} (h : 0 < n) : (i.tmod n + n).tmod n = i % (n : Int) := by
  have hb := tmod_bd i h
  rw [Int.tmod_eq_emod_of_nonneg (by omega), Int.add_emod_right]
  have := Int.tmod_eq_emod (a := i) (b := (n : Int))
  rw [this]
  split
  · simp
  · rw [Int.sub_emod]; simp
theorem tmod_neg (i : Int) {n : Nat} (h : 0 < n) : (if i.tmod n < 0 then i.tmod n + n else i.tmod n) = i % (n : Int) := by
  have hb := tmod_bd i h
  rw [← tmod_emod i h]
  split
  · exact (Int.tmod_eq_of_lt (a := i.tmod n + n) (by omega) (by omega)).symm
  · rw [Int.tmod_eq_emod_of_nonneg (a := i.tmod n + n) (by omega), Int.add_emod_right, Int.emod_eq_of_lt (a := i.tmod n) (by omega) (by omega)]
/-- What is left when one goes. -/
def takeL (l : List Letter) (k : Nat) : List Letter := l.take k ++ l.drop (k + 1)
theorem takeL_len (l : List Letter) (k : Nat) (h : k < l.length) : (takeL l k).length = l.length - 1 := by
  unfold takeL; rw [List.length_append, List.length_take, List.length_drop]; omega
/-- The first letter to a place. -/
def toK (l : List Letter) (p : Int) : Int := match l.findIdx? (fun x => x.to == p) with
  | some k => k
  | none => -1
end Go.Proofs.Ytofljgnfbakhoaa
