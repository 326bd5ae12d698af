/- The walk of the document's Left. Conditions: as its numbers are counted. -/
import Derived.Test.YtgmehcefmoleoaaMirT
import Derived.Test.YtgmehcefmoleoaaMirS
import Derived.Test.YtgmehcefmoleoaaSep
import Derived.Deep.LoopGhost
set_option linter.unusedVariables false
set_option linter.unusedSimpArgs false
namespace Go.Proofs.Ytgmehcefmoleoaa
open Go.RowKit

theorem own_dN {w : World} {base n sz : Nat} {e : TypeId} {v : Value} {xs : List Value} (h : w.ownsRow base e sz v n xs) (q : Nat) : (w.drewN q).ownsRow base e sz v n xs := h
theorem own_rdn {w : World} {base n sz : Nat} {e : TypeId} {A : Option Addr} {c : Nat} {xs : List Value} (h : w.ownsRow base e sz (.slice A n c) n xs) : Rd w A xs := by
  obtain ⟨A', c', he, _, hr⟩ := own_rd h
  simp only [Value.slice.injEq, true_and] at he
  rw [he.1]; exact hr
theorem RSnd.lst {w : World} {B b : Nat} {lv : Value} {l : List Item} {base acked : Int} (h : RSnd w B b lv l base acked) : ∃ A c, lv = .slice A l.length c ∧ Rd w A (flat l) := by
  obtain ⟨A, c, e, _, r⟩ := own_rd h.own
  exact ⟨A, c, e, r⟩
/-- Numbered one by one. -/
def Numb (base : Int) (l : List Item) : Prop := ∀ i (h : i < l.length), l[i].seq = base + i + 1
theorem tk_drop (l : List Item) (j k : Nat) (hj : j < l.length) (h : k ≤ j) : (l.take (j + 1)).drop k = (l.take j).drop k ++ [l[j]] := by
  rw [List.take_succ_eq_append_getElem hj, List.drop_append_of_le_length (by rw [List.length_take]; omega)]
theorem tk_none (l : List Item) (j k : Nat) (h : j ≤ k) : (l.take j).drop k = [] := by
  rw [List.drop_eq_nil_iff, List.length_take]; omega
set_option maxRecDepth 100000 in
theorem rleft_any (B b k : Nat) (lv : Value) (l : List Item) (base acked : Int) (w : World) (hs : RSnd w B b lv l base acked) (hn : Numb base l) (hk : acked = base + k) (hkl : k ≤ l.length) (hl : l.length * 48 ≤ 140737488351232) :
    Calls Try.prog 18 #[.pointer (some ⟨b, 0, none⟩)] w fun e w' => ∃ v, e = .returned v ∧ w'.ownsRow w.heap.size tI 5 v (l.length - k) (flat (l.drop k)) ∧ Below w.heap.size w w' := by
  obtain ⟨A, c, rfl, _⟩ := hs.lst
  have h0 := hs.lo; have h1 := hs.hi
  have HS := Lib.hid hs; have HN := Lib.hid hn; have HK := Lib.hid hk
  clear hs hn hk
  have HB := Lib.hid (HS.out.of_below ((Below.refl _ _).alloc (Nat.le_refl _) (.cells #[] tI)))
  go_enter Try.func18, Try.ntmps18
  go_wp2_with fail
  go_loopg [3, 4] l.length (fun gk s3 s4 wr => ∃ j : Nat, s4 = .int .i64 (j : Int) ∧ j ≤ l.length ∧ gk = l.length - j ∧ Below w.heap.size w wr ∧ wr.ownsRow w.heap.size tI 5 s3 ((l.take j).drop k).length (flat ((l.take j).drop k)))
  case atStart => exact ⟨0, rfl, by omega, by omega, (Below.refl _ _).alloc (Nat.le_refl _) _, by simpa [flat] using own_empty w tI 5⟩
  case round =>
    clear HB
    obtain ⟨j, rfl, hj, hgj, hb, ho⟩ := hrel
    have HB := Lib.hid hb; have HO := Lib.hid ho
    have hsw := HS.out.of_below hb
    have z0 : wr.cell? ⟨b, 0, none⟩ = some (.slice A l.length c) := hsw.blk.cell 0
    have z2 : wr.cell? ⟨b, 2, none⟩ = some (.int .i64 acked) := hsw.blk.cell 2
    have HR := Lib.hid (own_rdn hsw.own)
    have hBB := hb.size
    clear hb ho hsw
    by_cases hjl : j < l.length
    · have i1 : (j : Int) < (l.length : Int) := by omega
      have i0 : (0 : Int) ≤ (j : Int) := by omega
      obtain ⟨q, o, rfl, y0, y1, y2, y3, y4⟩ := HR.out.item j hjl
      have hnum := HN.out j hjl
      have hkk := HK.out
      have HE := Lib.hid (show l[j] = l[j] from rfl)
      by_cases hjk : k ≤ j
      · have HT := Lib.hid (tk_drop l j k hjl hjk)
        have p0 : decide (acked < l[j].seq) = true := by simp; omega
        have HLE := Lib.hid (show (((l.take j).drop k).length + 1) * 48 ≤ 140737488355328 by rw [List.length_drop, List.length_take]; omega)
        obtain ⟨y, hy⟩ : ∃ y, l[j] = y := ⟨_, rfl⟩
        rw [hy] at HT y0 y1 y2 y3 y4 p0
        clear hnum hkk HE hy
        obtain ⟨x0, x1, x2, x3, x4⟩ := y
        simp only at y0 y1 y2 y3 y4 p0
        go_wp2_with fail
        go_quiet (fail)
        go_wp2_with (at_builtin; refine app1 w.heap.size 36 tI (.agg #[.int .i64 0, .int .i64 0, .string ByteArray.empty, .int .i64 0, .int .i64 0]) 5 48 (Item.cells ⟨x0, x1, x2, x3, x4⟩) (own_dN HO.out nq) hBB HLE.out Try.underlying36 Try.infoItem rfl (by decide) (by decide) rfl (item_oneX _) (.tmp 28) (.tmp 36) rfl rfl rfl rfl ?_; intro v1 w1 hown1 hg1 hat1; have HO1 := Lib.hid hown1; have HG1 := Lib.hid hg1; clear hown1 hg1 hat1)
        go_roundg (l.length - (j + 1))
        case measure => omega
        case rel =>
          refine ⟨j + 1, by push_cast; rfl, by omega, rfl, ?_, ?_⟩
          · exact Below.grown (pw_drewN HB.out nq) HG1.out hBB (fun g hg => (HO.out.lt g hg).1)
          · have h := HO1.out
            rw [HT.out, List.length_append, flat_append]
            simpa [flat] using h
      · have p0 : decide (acked < l[j].seq) = false := by simp; omega
        have HT := Lib.hid (show (l.take (j + 1)).drop k = (l.take j).drop k by rw [tk_none l (j + 1) k (by omega), tk_none l j k (by omega)])
        generalize l[j].seq = sq at *
        clear hnum hkk
        go_wp2_with fail
        go_quiet (fail)
        go_wp2_with fail
        go_roundg (l.length - (j + 1))
        case measure => omega
        case rel =>
          refine ⟨j + 1, by push_cast; rfl, by omega, rfl, pw_drewN HB.out nq, ?_⟩
          rw [HT.out]
          exact own_dN HO.out nq
    · have i1 : ¬ ((j : Int) < (l.length : Int)) := by omega
      have i2 : decide ((j : Int) < (l.length : Int)) = false := by simp; omega
      go_wp2_with fail
      go_ret
      have hje : j = l.length := by omega
      subst hje
      have h := HO.out
      rw [List.take_length, List.length_drop] at h
      exact ⟨_, rfl, h, HB.out⟩

/-- The sender and the document's, as things. -/
def tSnd (b : Nat) (lv : Value) (l : List Item) (ac : Int) : Th where
  ok W := Snd W 0 b lv l ac
  fp k := k = b ∨ lv.ownBlock = some k
  lt W h k hk := by
    rcases hk with rfl | hk
    · exact h.blk.lt
    · exact (h.own.lt k hk).2
  keep W W' h hl hk := ⟨(tBlk b _ _).keep W W' h.blk hl (fun k hk1 e => hk k hk1 (.inl e)), (tRow _ _ _ _ _).keep W W' h.own hl (fun k hk1 e => hk k hk1 (.inr e)), h.ge, h.lo, h.hi⟩
def tRSnd (b : Nat) (lv : Value) (l : List Item) (base ac : Int) : Th where
  ok W := RSnd W 0 b lv l base ac
  fp k := k = b ∨ lv.ownBlock = some k
  lt W h k hk := by
    rcases hk with rfl | hk
    · exact h.blk.lt
    · exact (h.own.lt k hk).2
  keep W W' h hl hk := ⟨(tBlk b _ _).keep W W' h.blk hl (fun k hk1 e => hk k hk1 (.inl e)), (tRow _ _ _ _ _).keep W W' h.own hl (fun k hk1 e => hk k hk1 (.inr e)), h.ge, h.lo, h.hi⟩
end Go.Proofs.Ytgmehcefmoleoaa
