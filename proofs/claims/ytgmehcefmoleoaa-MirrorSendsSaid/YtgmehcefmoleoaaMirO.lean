/- What MirrorOnce keeps: a sender, three rows of items, a version, all apart. No condition. -/
import Derived.Test.YtgmehcefmoleoaaMirB
import Derived.Test.YtgmehcefmoleoaaMirL3
import Derived.Deep.CutBlock
set_option linter.unusedVariables false
set_option linter.unusedSimpArgs false
namespace Go.Proofs.Ytgmehcefmoleoaa
open Go.RowKit

/-- Two rows have no block in common. -/
def Ap (u v : Value) : Prop := ∀ g, u.ownBlock = some g → v.ownBlock ≠ some g
theorem Ap.symm {u v : Value} (h : Ap u v) : Ap v u := fun g hg hu => h g hu hg
theorem Ap.new {u v v' : Value} {N : Nat} (h : Ap v u) (F : ∀ g, v'.ownBlock = some g → v.ownBlock = some g ∨ N ≤ g) (hu : ∀ g, u.ownBlock = some g → g < N) : Ap v' u := fun g hg hug => by
  rcases F g hg with e | e
  · exact h g e hug
  · have := hu g hug; omega
abbrev tI : TypeId := 29
/-- The sender, what was added, what was taken, what was sent once, the receiver's version. -/
structure Q4 (w W : World) (bs g : Nat) (la vA vT vO : Value) (L : List Item) (ac : Int) (A T O : List Item) (e s : Int) : Prop where
  snd : Snd W w.heap.size bs la L ac
  ra : W.ownsRow w.heap.size tI 5 vA A.length (flat A)
  rt : W.ownsRow w.heap.size tI 5 vT T.length (flat T)
  ro : W.ownsRow w.heap.size tI 5 vO O.length (flat O)
  ver : Blk W g #[.int .i64 e, .int .i64 s] 44
  gb : w.heap.size ≤ g
  la_ : Ap la vA
  lt : Ap la vT
  lo : Ap la vO
  at_ : Ap vA vT
  ao : Ap vA vO
  to_ : Ap vT vO
  bel : Below w.heap.size w W
section
variable {w W W1 : World} {bs g : Nat} {la vA vT vO la' v' : Value} {L L' A T O : List Item} {ac ac' e s : Int}
theorem own_ltW {w : World} {base n sz : Nat} {e : TypeId} {v : Value} {xs : List Value} (h : w.ownsRow base e sz v n xs) : ∀ g, v.ownBlock = some g → g < w.heap.size := fun g hg => (h.lt g hg).2
theorem Q4.gbs (h : Q4 w W bs g la vA vT vO L ac A T O e s) : g ≠ bs := fun he => by
  have h1 := h.ver; have h2 := h.snd.blk
  rw [he] at h1
  unfold Blk at h1 h2
  rw [h1] at h2
  injection h2 with h2
  injection h2 with _ h3
  exact absurd h3 (by decide)
theorem Q4.opS (h : Q4 w W bs g la vA vT vO L ac A T O e s) (S : Snd W1 w.heap.size bs la' L' ac') (U : Upd (fun k => k = bs ∨ la.ownBlock = some k) W W1) (F : ∀ g, la'.ownBlock = some g → la.ownBlock = some g ∨ W.heap.size ≤ g) : Q4 w W1 bs g la' vA vT vO L' ac' A T O e s :=
  ⟨S, own_upd h.ra U (fun q hq hs => by rcases hs with rfl | hs; exact own_ne h.ra h.snd.blk (by decide) hq; exact h.la_ q hs hq),
    own_upd h.rt U (fun q hq hs => by rcases hs with rfl | hs; exact own_ne h.rt h.snd.blk (by decide) hq; exact h.lt q hs hq),
    own_upd h.ro U (fun q hq hs => by rcases hs with rfl | hs; exact own_ne h.ro h.snd.blk (by decide) hq; exact h.lo q hs hq),
    h.ver.upd U (fun hs => by rcases hs with hs | hs; exact h.gbs hs; exact own_ne h.snd.own h.ver (by decide) hs), h.gb,
    h.la_.new F (own_ltW h.ra), h.lt.new F (own_ltW h.rt), h.lo.new F (own_ltW h.ro), h.at_, h.ao, h.to_, h.bel.trans (h.snd.below U)⟩
theorem Q4.step (h : Q4 w W bs g la vA vT vO L ac A T O e s) (B : Below W.heap.size W W1) : Q4 w W1 bs g la vA vT vO L ac A T O e s :=
  ⟨h.snd.of_below B, own_upd h.ra (Upd.of_below (S := fun _ => False) B) (fun _ _ h => h), own_upd h.rt (Upd.of_below (S := fun _ => False) B) (fun _ _ h => h), own_upd h.ro (Upd.of_below (S := fun _ => False) B) (fun _ _ h => h),
    h.ver.upd (Upd.of_below (S := fun _ => False) B) (fun h => h), h.gb, h.la_, h.lt, h.lo, h.at_, h.ao, h.to_, h.bel.trans (B.mono h.bel.size)⟩
theorem Snd.grow {W W1 : World} {B b : Nat} {lv v : Value} {l : List Item} {ac : Int} {n : Nat} {xs : List Value} (h : Snd W B b lv l ac) (ho : W.ownsRow B tI 5 v n xs) (hg : W.grownBy W1 v.ownBlock) (ha : Ap lv v) : Snd W1 B b lv l ac :=
  h.upd (Upd.of_grown hg) (fun e => own_ne ho h.blk (by decide) e.symm) (fun q hq e => ha q hq e.symm)
theorem own_grow {W W1 : World} {B n n' : Nat} {v u : Value} {xs ys : List Value} (h : W.ownsRow B tI 5 u n ys) (ho : W.ownsRow B tI 5 v n' xs) (hg : W.grownBy W1 v.ownBlock) (ha : Ap u v) : W1.ownsRow B tI 5 u n ys :=
  own_upd h (Upd.of_grown hg) (fun q hq e => ha q hq e.symm)
theorem Q4.bg (h : Q4 w W bs g la vA vT vO L ac A T O e s) {v : Value} {n : Nat} {xs : List Value} (ho : W.ownsRow w.heap.size tI 5 v n xs) (hg : W.grownBy W1 v.ownBlock) : Below w.heap.size w W1 :=
  Below.grown h.bel hg h.bel.size (fun q hq => (ho.lt q hq).1)
theorem Q4.opA (h : Q4 w W bs g la vA vT vO L ac A T O e s) {x : Item} (ho : W1.ownsRow w.heap.size tI 5 v' (A.length + 1) (flat A ++ x.cells)) (hg : W.grownBy W1 vA.ownBlock) (hat : v'.ownBlock = vA.ownBlock ∨ ∃ b, v'.ownBlock = some b ∧ W.heap.size ≤ b) : Q4 w W1 bs g la v' vT vO L ac (A ++ [x]) T O e s :=
  have F : ∀ q, v'.ownBlock = some q → vA.ownBlock = some q ∨ W.heap.size ≤ q := fun q hq => by
    rcases hat with e | ⟨b, e, hb⟩
    · exact .inl (by rw [← e]; exact hq)
    · rw [e] at hq; cases hq; exact .inr hb
  ⟨h.snd.grow h.ra hg h.la_, by rw [List.length_append, flat_append]; simpa [flat] using ho, own_grow h.rt h.ra hg h.at_.symm, own_grow h.ro h.ra hg h.ao.symm, h.ver.upd (Upd.of_grown hg) (fun e => own_ne h.ra h.ver (by decide) e.symm), h.gb,
    (h.la_.symm.new F (own_ltW h.snd.own)).symm, h.lt, h.lo, h.at_.new F (own_ltW h.rt), h.ao.new F (own_ltW h.ro), h.to_, h.bg h.ra hg⟩
theorem Q4.opT (h : Q4 w W bs g la vA vT vO L ac A T O e s) {x : Item} (ho : W1.ownsRow w.heap.size tI 5 v' (T.length + 1) (flat T ++ x.cells)) (hg : W.grownBy W1 vT.ownBlock) (hat : v'.ownBlock = vT.ownBlock ∨ ∃ b, v'.ownBlock = some b ∧ W.heap.size ≤ b) : Q4 w W1 bs g la vA v' vO L ac A (T ++ [x]) O e s :=
  have F : ∀ q, v'.ownBlock = some q → vT.ownBlock = some q ∨ W.heap.size ≤ q := fun q hq => by
    rcases hat with e | ⟨b, e, hb⟩
    · exact .inl (by rw [← e]; exact hq)
    · rw [e] at hq; cases hq; exact .inr hb
  ⟨h.snd.grow h.rt hg h.lt, own_grow h.ra h.rt hg h.at_, by rw [List.length_append, flat_append]; simpa [flat] using ho, own_grow h.ro h.rt hg h.to_.symm, h.ver.upd (Upd.of_grown hg) (fun e => own_ne h.rt h.ver (by decide) e.symm), h.gb,
    h.la_, (h.lt.symm.new F (own_ltW h.snd.own)).symm, h.lo, (h.at_.symm.new F (own_ltW h.ra)).symm, h.ao, h.to_.new F (own_ltW h.ro), h.bg h.rt hg⟩
theorem Q4.opO (h : Q4 w W bs g la vA vT vO L ac A T O e s) {x : Item} (ho : W1.ownsRow w.heap.size tI 5 v' (O.length + 1) (flat O ++ x.cells)) (hg : W.grownBy W1 vO.ownBlock) (hat : v'.ownBlock = vO.ownBlock ∨ ∃ b, v'.ownBlock = some b ∧ W.heap.size ≤ b) : Q4 w W1 bs g la vA vT v' L ac A T (O ++ [x]) e s :=
  have F : ∀ q, v'.ownBlock = some q → vO.ownBlock = some q ∨ W.heap.size ≤ q := fun q hq => by
    rcases hat with e | ⟨b, e, hb⟩
    · exact .inl (by rw [← e]; exact hq)
    · rw [e] at hq; cases hq; exact .inr hb
  ⟨h.snd.grow h.ro hg h.lo, own_grow h.ra h.ro hg h.ao, own_grow h.rt h.ro hg h.to_, by rw [List.length_append, flat_append]; simpa [flat] using ho, h.ver.upd (Upd.of_grown hg) (fun e => own_ne h.ro h.ver (by decide) e.symm), h.gb,
    h.la_, h.lt, (h.lo.symm.new F (own_ltW h.snd.own)).symm, h.at_, (h.ao.symm.new F (own_ltW h.ra)).symm, (h.to_.symm.new F (own_ltW h.rt)).symm, h.bg h.ro hg⟩
/-- The receiver's number is turned. -/
theorem Q4.setG (h : Q4 w W bs g la vA vT vO L ac A T O e s) (s' : Int) : Q4 w (W.setCell ⟨g, 1, none⟩ (.int .i64 s')) bs g la vA vT vO L ac A T O e s' :=
  have U : Upd (fun k => k = g) W (W.setCell ⟨g, 1, none⟩ (.int .i64 s')) := (Upd.refl (fun k => k = g) W).setCell (p := ⟨g, 1, none⟩) (.inr rfl) _
  ⟨h.snd.upd U (fun e => h.gbs e.symm) (fun q hq e => own_ne h.snd.own h.ver (by decide) (by rw [← e]; exact hq)),
    own_upd h.ra U (fun q hq e => own_ne h.ra h.ver (by decide) (by rw [← e]; exact hq)), own_upd h.rt U (fun q hq e => own_ne h.rt h.ver (by decide) (by rw [← e]; exact hq)), own_upd h.ro U (fun q hq e => own_ne h.ro h.ver (by decide) (by rw [← e]; exact hq)),
    by have := h.ver.set 1 (.int .i64 s'); exact this, h.gb, h.la_, h.lt, h.lo, h.at_, h.ao, h.to_, U.below h.bel.size (fun k hk => by rw [hk]; exact h.gb) |> h.bel.trans⟩
end
end Go.Proofs.Ytgmehcefmoleoaa
