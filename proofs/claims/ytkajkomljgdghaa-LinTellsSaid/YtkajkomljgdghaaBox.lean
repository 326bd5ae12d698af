/- An object that holds one slice, in a block of one cell; what a store of a new slice makes of it. No condition. -/
import Derived.Test.YtkajkomljgdghaaOwn
set_option linter.unusedVariables false
set_option linter.unusedSimpArgs false
namespace Go.Proofs.Ytkajkomljgdghaa
open Go.RowKit

/-- A block of one cell that holds the slice lv of the list l. -/
def tBox {α : Type} (E : Enc α) (e T : TypeId) (b : Nat) (lv : Value) (l : List α) : Th where
  ok W := Blk W b #[lv] T ∧ Own W e E.sz lv l.length (E.fl l) ∧ e ≠ T
  fp k := k = b ∨ lv.ownBlock = some k
  lt W h k hk := by
    rcases hk with rfl | hk
    · exact h.1.lt
    · exact h.2.1.lt hk
  keep W W' h hl hk := ⟨(tBlk b _ _).keep W W' h.1 hl (fun k hk1 e => hk k hk1 (.inl e)), h.2.1.keep (fun k hk1 e => hk k hk1 (.inr e)), h.2.2⟩
section
variable {w W W1 : World} {r r2 : List Th} {α : Type} {E : Enc α} {e T : TypeId} {b m : Nat} {lv v2 : Value} {l l2 : List α}
theorem Sep.box (h : Sep w W (tBox E e T b lv l :: r)) : Blk W b #[lv] T ∧ ∃ A c, lv = .slice A l.length c ∧ l.length ≤ c ∧ (A = none → l.length = 0 ∧ c = 0) ∧ Rd W A (E.fl l) := by
  have h1 : Blk W b #[lv] T ∧ Own W e E.sz lv l.length (E.fl l) ∧ e ≠ T := h.hd
  exact ⟨h1.1, h1.2.1.form⟩
theorem Sep.boxOwn (h : Sep w W (tBox E e T b lv l :: r)) : Own W e E.sz lv l.length (E.fl l) :=
  (show Blk W b #[lv] T ∧ Own W e E.sz lv l.length (E.fl l) ∧ e ≠ T from h.hd).2.1
/-- A new slice is laid into it. -/
theorem Sep.boxSet (h : Sep w W (tBox E e T b lv l :: r)) (k : Sep W W1 (tOwn e E.sz v2 m (E.fl l2) :: r2)) (hm : l2.length = m) : Sep w (W1.setCell ⟨b, 0, none⟩ v2) (tBox E e T b v2 l2 :: r) := by
  subst hm
  have h1 : Blk W b #[lv] T ∧ Own W e E.sz lv l.length (E.fl l) ∧ e ≠ T := h.hd
  have h2 : Own W1 e E.sz v2 l2.length (E.fl l2) := k.hd
  have hb := h1.1.upd (Upd.of_below (S := fun _ => False) k.bel) (fun h => h)
  have ho : Own (W1.setCell ⟨b, 0, none⟩ v2) e E.sz v2 l2.length (E.fl l2) := h2.setOther (p := ⟨b, 0, none⟩) (h2.ne hb h1.2.2) v2
  refine h.opc (t' := tBox E e T b v2 l2) (S := fun k => k = b) ⟨hb.set 0 v2, ho, h1.2.2⟩ (Upd.setCell (S := fun k => k = b) (p := ⟨b, 0, none⟩) ((Upd.of_below k.bel)) (.inr rfl) _) (fun k _ e => .inl e) (fun q hq => ?_)
  rcases hq with rfl | hq
  · exact .inl (.inl rfl)
  · exact .inr (k.ge _ (List.mem_cons_self ..) q hq)
/-- The slice that it held has been appended to, and is laid into it. -/
theorem Sep.boxApp (h : Sep w W (tBox E e T b lv l :: r)) {W0 : World} (k : Below W.heap.size W W0) (ho : Own W1 e E.sz v2 m (E.fl l2)) (hg : W0.grownBy W1 lv.ownBlock) (hat : v2.ownBlock = lv.ownBlock ∨ v2.ownBlock = some W0.heap.size) (hm : l2.length = m) : Sep w (W1.setCell ⟨b, 0, none⟩ v2) (tBox E e T b v2 l2 :: r) := by
  subst hm
  have h1 : Blk W b #[lv] T ∧ Own W e E.sz lv l.length (E.fl l) ∧ e ≠ T := h.hd
  have u1 : Upd (fun k => lv.ownBlock = some k) W W1 := (Upd.of_below (S := fun k => lv.ownBlock = some k) k).then (Upd.of_grown hg) (fun i _ hi => hi.symm)
  have hb := h1.1.upd u1 (fun e' => h1.2.1.ne h1.1 h1.2.2 e')
  refine h.op (t' := tBox E e T b v2 l2) ⟨hb.set 0 v2, ho.setOther (p := ⟨b, 0, none⟩) (ho.ne hb h1.2.2) v2, h1.2.2⟩ (Upd.setCell (p := ⟨b, 0, none⟩) (u1.mono fun k _ hk => .inr hk) (.inr (.inl rfl)) _) (fun q hq => ?_)
  rcases hq with rfl | hq
  · exact .inl (.inl rfl)
  · have hq : v2.ownBlock = some q := hq
    rcases hat with e' | e'
    · exact .inl (.inr (by rw [← e']; exact hq))
    · rw [e'] at hq; cases hq; exact .inr k.size
/-- A row of one's own is laid into it. -/
theorem Sep.boxPut (h : Sep w W (tOwn e E.sz v2 m (E.fl l2) :: tBox E e T b lv l :: r)) (hm : l2.length = m) : Sep w (W.setCell ⟨b, 0, none⟩ v2) (tBox E e T b v2 l2 :: r) := by
  subst hm
  have h1 : Blk W b #[lv] T ∧ Own W e E.sz lv l.length (E.fl l) ∧ e ≠ T := h.h2
  have h2 : Own W e E.sz v2 l2.length (E.fl l2) := h.hd
  refine h.and.opc (t' := tBox E e T b v2 l2) (S := fun k => k = b) ⟨h1.1.set 0 v2, h2.setOther (p := ⟨b, 0, none⟩) (h2.ne h1.1 h1.2.2) v2, h1.2.2⟩ (Upd.setCell (S := fun k => k = b) (p := ⟨b, 0, none⟩) (Upd.refl _ W) (.inr rfl) _) (fun k _ e => .inr (.inl e)) (fun q hq => ?_)
  rcases hq with rfl | hq
  · exact .inl (.inr (.inl rfl))
  · exact .inl (.inl hq)
end
end Go.Proofs.Ytkajkomljgdghaa
