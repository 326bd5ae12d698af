/- Rows of structs: lists whose elements take so many cells each. No condition. -/
import Derived.Test.YtjjdefkaohbmjaaDoorMem
import Derived.Test.YtjjdefkaohbmjaaDoorRow
set_option linter.unusedVariables false
set_option linter.unusedSimpArgs false
namespace Go.Proofs.YtjjdefkaohbmjaaDoor
open Go.RowKit

/-- How a thing lies in cells. -/
structure Enc (α : Type) where
  f : α → List Value
  sz : Nat
  len : ∀ x, (f x).length = sz
  one : ∀ x, ∀ u ∈ f x, u.oneCell' = true
def Enc.fl {α : Type} (E : Enc α) (l : List α) : List Value := (l.map E.f).flatten
section
variable {α : Type} {E : Enc α}
theorem Enc.nil : E.fl [] = [] := rfl
theorem Enc.cons (x : α) (l : List α) : E.fl (x :: l) = E.f x ++ E.fl l := rfl
theorem Enc.app (l m : List α) : E.fl (l ++ m) = E.fl l ++ E.fl m := by simp [Enc.fl]
theorem Enc.single (x : α) : E.fl [x] = E.f x := by simp [Enc.fl]
theorem Enc.snoc (l : List α) (x : α) : E.fl (l ++ [x]) = E.fl l ++ E.f x := by rw [Enc.app, Enc.single]
theorem Enc.length : ∀ l : List α, (E.fl l).length = l.length * E.sz
  | [] => by simp [Enc.fl]
  | x :: l => by rw [Enc.cons, List.length_append, Enc.length l, E.len, List.length_cons, Nat.add_mul]; omega
theorem Enc.ones (l : List α) : ∀ u ∈ E.fl l, u.oneCell' = true := by
  intro u hu
  simp only [Enc.fl, List.mem_flatten, List.mem_map] at hu
  obtain ⟨cs, ⟨x, _, rfl⟩, hu⟩ := hu
  exact E.one x u hu
theorem Enc.drop : ∀ (k : Nat) (l : List α), E.fl (l.drop k) = (E.fl l).drop (k * E.sz)
  | 0, l => by simp
  | k + 1, [] => by simp [Enc.fl]
  | k + 1, x :: l => by
    rw [List.drop_succ_cons, Enc.drop k l, Enc.cons, Nat.add_mul, Nat.one_mul, Nat.add_comm, ← List.drop_drop, List.drop_left' (E.len x)]
theorem Enc.take : ∀ (k : Nat) (l : List α), E.fl (l.take k) = (E.fl l).take (k * E.sz)
  | 0, l => by simp [Enc.fl]
  | k + 1, [] => by simp [Enc.fl]
  | k + 1, x :: l => by
    have h : (E.f x).take ((k + 1) * E.sz) = E.f x := List.take_of_length_le (by rw [E.len, Nat.add_mul]; omega)
    rw [List.take_succ_cons, Enc.cons, Enc.take k l, Enc.cons, List.take_append, E.len, h, show (k + 1) * E.sz - E.sz = k * E.sz by rw [Nat.add_mul]; omega]
theorem Enc.get : ∀ (l : List α) (k j : Nat) (hk : k < l.length), j < E.sz → (E.fl l)[k * E.sz + j]? = (E.f l[k])[j]?
  | x :: l, 0, j, hk, hj => by
    rw [Enc.cons, List.getElem?_append_left (by rw [E.len]; omega)]
    simp
  | x :: l, k + 1, j, hk, hj => by
    rw [Enc.cons, List.getElem?_append_right (by rw [E.len, Nat.add_mul]; omega), E.len, show (k + 1) * E.sz + j - E.sz = k * E.sz + j by rw [Nat.add_mul]; omega, Enc.get l k j (by simpa using hk) hj]
    simp
theorem Enc.set : ∀ (l : List α) (k j : Nat) (hk : k < l.length) (v : Value) (y : α), j < E.sz → (E.f l[k]).set j v = E.f y → (E.fl l).set (k * E.sz + j) v = E.fl (l.set k y)
  | x :: l, 0, j, hk, v, y, hj, h => by
    rw [Enc.cons, List.set_append_left _ _ (by rw [E.len]; omega)]
    simp only [Nat.zero_mul, Nat.zero_add, List.set_cons_zero, Enc.cons]
    rw [← h]; rfl
  | x :: l, k + 1, j, hk, v, y, hj, h => by
    rw [Enc.cons, List.set_append_right _ _ (by rw [E.len, Nat.add_mul]; omega), E.len, show (k + 1) * E.sz + j - E.sz = k * E.sz + j by rw [Nat.add_mul]; omega, Enc.set l k j (by simpa using hk) v y hj (by simpa using h)]
    rfl
theorem Rd.elem {w : World} {A : Option Addr} {xs : List α} (h : Rd w A (E.fl xs)) (k : Nat) (hk : k < xs.length) (hs : 0 < E.sz) :
    ∃ b o, A = some ⟨b, o, none⟩ ∧ ∀ j v, (E.f xs[k])[j]? = some v → w.cell? ⟨b, o + k * E.sz + j, none⟩ = some v := by
  have hn : 0 < xs.length * E.sz := Nat.mul_pos (by omega) hs
  obtain ⟨b, o, e, rc⟩ := h (by intro e; have := Enc.length (E := E) xs; rw [e] at this; simp at this; omega)
  refine ⟨b, o, e, fun j v hv => ?_⟩
  have hj : j < E.sz := by rw [← E.len xs[k]]; exact (List.getElem?_eq_some_iff.1 hv).1
  have := rc (k * E.sz + j) v (by rw [Enc.get xs k j hk hj]; exact hv)
  rwa [← Nat.add_assoc] at this
theorem Rd.dropAt {w : World} {g : Nat} {cs : List Value} (h : Rd w (some ⟨g, 0, none⟩) cs) (p : Nat) : Rd w (some ⟨g, p, none⟩) (cs.drop p) := by
  intro hne
  obtain ⟨b, o, e, hc⟩ := h.drop p hne
  refine ⟨g, p, rfl, fun j v hv => ?_⟩
  have := hc j v hv
  simp only [Option.map_some, Option.some.injEq] at e
  have e2 : (⟨g, p, none⟩ : Addr) = ⟨b, o, none⟩ := by rw [← e]; simp only [Addr.add]; split <;> simp_all
  simp only [Addr.mk.injEq, and_true] at e2
  rw [e2.1, e2.2]; exact this
theorem Rd.pos {w : World} {A : Option Addr} {xs : List α} (h : Rd w A (E.fl xs)) (hs : 0 < E.sz) (hn : xs ≠ []) : ∃ b o, A = some ⟨b, o, none⟩ := by
  obtain ⟨x, l, rfl⟩ := List.exists_cons_of_ne_nil hn
  obtain ⟨b, o, e, _⟩ := h.elem 0 (by simp) hs
  exact ⟨b, o, e⟩
/-- The elements of a slice that came in. -/
theorem Enc.of_slice {w : World} {sh : Sh} {A : Option Addr} {n c by_ : Nat} {p : α → Prop} (h : Sh.Is w (.slice by_ sh) [.slice A n c]) (hel : ∀ cs, sh.Is w cs → ∃ x, cs = E.f x ∧ p x) :
    ∃ xs : List α, xs.length = n ∧ c * by_ ≤ 140737488351232 ∧ n ≤ c ∧ (A = none → c = 0) ∧ Rd w A (E.fl xs) ∧ ∀ x ∈ xs, p x := by
  obtain ⟨A', n', c', els, he, hl, hnc, hc, hr, hall⟩ := h
  simp only [List.cons.injEq, Value.slice.injEq, and_true] at he
  obtain ⟨rfl, rfl, rfl⟩ := he
  obtain ⟨ys, rfl, has⟩ := exists_map (f := E.f) (p := p) els (fun el hel' => hel _ (hall el hel').2)
  exact ⟨ys, by simpa using hl, hc, hnc.1, hnc.2, hr, has⟩
end
/-- Numbers, in a cell each. -/
def eI64 : Enc Int := ⟨fun x => [.int .i64 x], 1, fun _ => rfl, fun _ u hu => by simp only [List.mem_singleton] at hu; subst hu; rfl⟩
def eU8 : Enc Int := ⟨fun x => [.int .u8 x], 1, fun _ => rfl, fun _ u hu => by simp only [List.mem_singleton] at hu; subst hu; rfl⟩
def eStr : Enc ByteArray := ⟨fun x => [.string x], 1, fun _ => rfl, fun _ u hu => by simp only [List.mem_singleton] at hu; subst hu; rfl⟩
def eBool : Enc Bool := ⟨fun x => [.bool x], 1, fun _ => rfl, fun _ u hu => by simp only [List.mem_singleton] at hu; subst hu; rfl⟩
end Go.Proofs.YtjjdefkaohbmjaaDoor
