/- The net's contracts, each in one piece. Conditions: at most 300 letters are under way, each of which may be. -/
import Derived.Test.YtofljgnfbakhoaaNetS
set_option linter.unusedVariables false
set_option linter.unusedSimpArgs false
namespace Go.Proofs.Ytofljgnfbakhoaa
open Go.RowKit

def lZ : Letter := ⟨0, 0, ByteArray.empty⟩
/-- What a take hands back. -/
def tkX (l : List Letter) (i : Int) : Letter := (l[atK i l.length]?).getD lZ
def tkB (l : List Letter) : Bool := !l.isEmpty
def tkL (l : List Letter) (i : Int) : List Letter := takeL l (atK i l.length)
theorem tkL_nil (i : Int) : tkL [] i = [] := by simp [tkL, takeL]
def cpB (l : List Letter) (i : Int) : Bool := match l[atK i l.length]? with
  | some x => sendE l x == 0
  | none => false
def cpL (l : List Letter) (i : Int) : List Letter := match l[atK i l.length]? with
  | some x => sendL l x
  | none => l
/-- Letters that may be. -/
def Good (l : List Letter) : Prop := l.length ≤ 300 ∧ ∀ x ∈ l, sendE [] x = 0
theorem Good.nil : Good [] := ⟨by decide, fun x h => by cases h⟩
theorem Good.send {l : List Letter} (h : Good l) (x : Letter) : Good (sendL l x) := by
  refine ⟨sendL_le h.1, fun y hy => ?_⟩
  unfold sendL at hy
  split at hy
  · rename_i h0
    rcases List.mem_append.1 hy with hy | hy
    · exact h.2 y hy
    · rw [List.mem_singleton] at hy
      subst hy
      obtain ⟨h1, h2, _⟩ := sendE_inv h0
      exact sendE_ok h1 (by omega) (by simp)
  · exact h.2 y hy
theorem mem_takeL {l : List Letter} {k : Nat} {y : Letter} (h : y ∈ takeL l k) : y ∈ l := by
  rcases List.mem_append.1 h with h | h
  · exact List.mem_of_mem_take h
  · exact List.mem_of_mem_drop h
theorem takeL_le (l : List Letter) (k : Nat) : (takeL l k).length ≤ l.length := by
  unfold takeL; rw [List.length_append, List.length_take, List.length_drop]; omega
theorem Good.take {l : List Letter} (h : Good l) (i : Int) : Good (tkL l i) :=
  ⟨Nat.le_trans (takeL_le _ _) h.1, fun y hy => h.2 y (mem_takeL hy)⟩
theorem Good.copy {l : List Letter} (h : Good l) (i : Int) : Good (cpL l i) := by
  unfold cpL
  split
  · exact h.send _
  · exact h
theorem Good.sendE {l : List Letter} (h : Good l) {x : Letter} (hx : x ∈ l) : sendE l x = if 300 ≤ l.length then 5 else 0 := by
  obtain ⟨h1, h2, _⟩ := sendE_inv (h.2 x hx)
  by_cases hn : 300 ≤ l.length
  · rw [if_pos hn]; exact sendE_many h1 (by omega) hn
  · rw [if_neg hn]; exact sendE_ok h1 (by omega) hn
theorem at_get {l : List Letter} (i : Int) (h : l ≠ []) : ∃ x, l[atK i l.length]? = some x ∧ x ∈ l := by
  have := atK_lt i (List.length_pos_iff.2 h)
  exact ⟨_, List.getElem?_eq_getElem this, List.getElem_mem this⟩
section
variable {w W : World} {r : List Th} {b : Nat} {lv : Value} {l : List Letter}
theorem take_sep (h : Sep w W (tN b lv l :: r)) (i : Int) (hn : l.length ≤ 300) :
    Calls Try.prog 13 #[.pointer (some ⟨b, 0, none⟩), .int .i64 i] W fun e W' => e = .returned (.tuple #[(tkX l i).agg, .bool (tkB l)]) ∧ ∃ lv', Sep w W' (tN b lv' (tkL l i) :: r) := by
  by_cases h0 : l = []
  · subst h0
    rw [tkL_nil]
    exact (take_none h i).mono fun e W' k => ⟨k.1, lv, k.2⟩
  · obtain ⟨x, hx, _⟩ := at_get i h0
    refine (take_some h i _ x rfl hx hn).mono fun e W' k => ⟨?_, k.2⟩
    rw [k.1]
    unfold tkX tkB
    rw [hx]
    cases l with
    | nil => exact absurd rfl h0
    | cons y l => rfl
theorem drop_sep (h : Sep w W (tN b lv l :: r)) (i : Int) (hn : l.length ≤ 300) :
    Calls Try.prog 17 #[.pointer (some ⟨b, 0, none⟩), .int .i64 i] W fun e W' => e = .returned (.bool (tkB l)) ∧ ∃ lv', Sep w W' (tN b lv' (tkL l i) :: r) := by
  by_cases h0 : l = []
  · subst h0
    rw [tkL_nil]
    exact (drop_none h i).mono fun e W' k => ⟨k.1, lv, k.2⟩
  · refine (drop_some h i _ rfl h0 hn).mono fun e W' k => ⟨?_, k.2⟩
    rw [k.1]
    cases l with
    | nil => exact absurd rfl h0
    | cons y l => rfl
theorem copy_sep (h : Sep w W (tN b lv l :: r)) (i : Int) (hn : l.length ≤ 300) :
    Calls Try.prog 15 #[.pointer (some ⟨b, 0, none⟩), .int .i64 i] W fun e W' => e = .returned (.bool (cpB l i)) ∧ ∃ lv', Sep w W' (tN b lv' (cpL l i) :: r) := by
  by_cases h0 : l = []
  · subst h0
    exact (copy_none h i).mono fun e W' k => ⟨k.1, lv, k.2⟩
  · obtain ⟨x, hx, _⟩ := at_get i h0
    unfold cpB cpL
    rw [hx]
    exact copy_some h i _ x rfl hx hn
theorem rtake_sep (h : Sep w W (tR b lv l :: r)) (i : Int) (hn : l.length ≤ 300) :
    Calls Try.prog 14 #[.pointer (some ⟨b, 0, none⟩), .int .i64 i] W fun e W' => e = .returned (.tuple #[(tkX l i).agg, .bool (tkB l)]) ∧ ∃ lv', Sep w W' (tR b lv' (tkL l i) :: r) := by
  by_cases h0 : l = []
  · subst h0
    rw [tkL_nil]
    exact (rtake_none h i).mono fun e W' k => ⟨k.1, lv, k.2⟩
  · obtain ⟨x, hx, _⟩ := at_get i h0
    refine (rtake_some h i _ x rfl hx hn).mono fun e W' k => ⟨?_, k.2⟩
    rw [k.1]
    unfold tkX tkB
    rw [hx]
    cases l with
    | nil => exact absurd rfl h0
    | cons y l => rfl
theorem rcopy_sep (h : Sep w W (tR b lv l :: r)) (i : Int) (hg : Good l) :
    Calls Try.prog 16 #[.pointer (some ⟨b, 0, none⟩), .int .i64 i] W fun e W' => e = .returned (.bool (cpB l i)) ∧ ∃ lv', Sep w W' (tR b lv' (cpL l i) :: r) := by
  by_cases h0 : l = []
  · subst h0
    exact (rcopy_none h i).mono fun e W' k => ⟨k.1, lv, k.2⟩
  · obtain ⟨x, hx, hm⟩ := at_get i h0
    have he := hg.sendE hm
    unfold cpB cpL
    rw [hx]
    by_cases hn : 300 ≤ l.length
    · rw [if_pos hn] at he
      simp only [he]
      rw [sendL_no (by rw [he]; decide)]
      exact (rcopy_full h i (by omega) (by have := hg.1; omega)).mono fun e W' k => ⟨k.1, lv, k.2⟩
    · rw [if_neg hn] at he
      simp only [he]
      rw [sendL_ok he]
      exact rcopy_ok h i _ x rfl hx (by omega)
end
theorem atK_shift (i : Int) (n : Nat) (k : Int) : atK (i + k * n) n = atK i n := by
  unfold atK
  rw [Int.add_mul_emod_self_right]
theorem cpB_shift (l : List Letter) (i k : Int) : cpB l (i + k * l.length) = cpB l i := by unfold cpB; rw [atK_shift]
theorem cpL_shift (l : List Letter) (i k : Int) : cpL l (i + k * l.length) = cpL l i := by unfold cpL; rw [atK_shift]
theorem tkX_shift (l : List Letter) (i k : Int) : tkX l (i + k * l.length) = tkX l i := by unfold tkX; rw [atK_shift]
theorem tkL_shift (l : List Letter) (i k : Int) : tkL l (i + k * l.length) = tkL l i := by unfold tkL; rw [atK_shift]
end Go.Proofs.Ytofljgnfbakhoaa
