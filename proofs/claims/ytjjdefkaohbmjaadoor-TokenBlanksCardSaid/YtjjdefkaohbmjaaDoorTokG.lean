/- Runes that are kept: where a text is cut behind one, and where an ASCII byte follows. No condition. -/
import Derived.Test.YtjjdefkaohbmjaaDoorTokK
set_option linter.unusedVariables false
set_option linter.unusedSimpArgs false
namespace Go.Proofs.YtjjdefkaohbmjaaDoor
open Go.Lib
set_option maxHeartbeats 4000000 in
set_option maxRecDepth 100000 in
theorem decN_cut (n m b0 b1 b2 b3 c1 c2 c3 : Nat) (hr : (decodeN n b0 b1 b2 b3).1 ≠ 65533) (hm : (decodeN n b0 b1 b2 b3).2 ≤ m)
    (e1 : 1 < (decodeN n b0 b1 b2 b3).2 → c1 = b1) (e2 : 2 < (decodeN n b0 b1 b2 b3).2 → c2 = b2) (e3 : 3 < (decodeN n b0 b1 b2 b3).2 → c3 = b3) : decodeN m b0 c1 c2 c3 = decodeN n b0 b1 b2 b3 := by
  unfold decodeN at hr hm e1 e2 e3 ⊢
  by_cases h0 : b0 < 128
  · rw [if_pos h0, if_pos h0]
  rw [if_neg h0] at hr hm e1 e2 e3
  rw [if_neg h0, if_neg h0]
  by_cases h1 : b0 / 32 = 6 ∧ (1 < n ∧ b1 / 64 = 2)
  · rw [if_pos h1] at hr hm e1 e2 e3
    rw [if_pos h1]
    by_cases h2 : b0 % 32 * 64 + b1 % 64 ≥ 128
    · rw [if_pos h2] at hr hm e1 e2 e3
      rw [if_pos h2]
      have := e1 (by simp)
      subst this
      rw [if_pos ⟨h1.1, by simp at hm; omega, h1.2.2⟩, if_pos h2]
    · rw [if_neg h2] at hr
      exact absurd rfl hr
  rw [if_neg h1] at hr hm e1 e2 e3
  rw [if_neg h1]
  by_cases h3 : b0 / 16 = 14 ∧ (1 < n ∧ b1 / 64 = 2) ∧ (2 < n ∧ b2 / 64 = 2)
  · rw [if_pos h3] at hr hm e1 e2 e3
    rw [if_pos h3]
    split at hr
    · rename_i h2
      rw [if_pos h2] at hm e1 e2 e3
      rw [if_pos h2]
      have := e1 (by simp)
      subst this
      have := e2 (by simp)
      subst this
      simp at hm
      rw [if_neg (by omega), if_pos ⟨h3.1, ⟨by omega, h3.2.1.2⟩, by omega, h3.2.2.2⟩, if_pos h2]
    · exact absurd rfl hr
  rw [if_neg h3] at hr hm e1 e2 e3
  rw [if_neg h3]
  by_cases h4 : b0 / 8 = 30 ∧ (1 < n ∧ b1 / 64 = 2) ∧ (2 < n ∧ b2 / 64 = 2) ∧ (3 < n ∧ b3 / 64 = 2)
  · rw [if_pos h4] at hr hm e1 e2 e3
    rw [if_pos h4]
    split at hr
    · rename_i h2
      rw [if_pos h2] at hm e1 e2 e3
      rw [if_pos h2]
      have := e1 (by simp)
      subst this
      have := e2 (by simp)
      subst this
      have := e3 (by simp)
      subst this
      simp at hm
      rw [if_neg (by omega), if_neg (by omega), if_pos ⟨h4.1, ⟨by omega, h4.2.1.2⟩, ⟨by omega, h4.2.2.1.2⟩, by omega, h4.2.2.2.2⟩, if_pos h2]
    · exact absurd rfl hr
  rw [if_neg h4] at hr
  exact absurd rfl hr
theorem getD_front {l m : Bs} {d k : Nat} (h : k < d) (hd : d ≤ l.length) : ((l.take d ++ m).getD k 0) = l.getD k 0 := by
  rw [List.getD_eq_getElem?_getD, List.getD_eq_getElem?_getD, List.getElem?_append_left (by rw [List.length_take]; omega), List.getElem?_take, if_pos h]
/-- A rune is kept, whatever comes behind. -/
theorem dec_cut {l : Bs} (hl : l ≠ []) (h : ru l ≠ 65533) (m : Bs) : decodeL (l.take (wd l) ++ m) = decodeL l := by
  have h1 := wd_pos l
  have h2 := wd_le hl
  unfold ru at h
  rw [decodeL_N, decodeL_N l, getD_front (k := 0) (by omega) h2]
  have hw : (decodeN l.length (l.getD 0 0).toNat (l.getD 1 0).toNat (l.getD 2 0).toNat (l.getD 3 0).toNat).2 = wd l := by unfold wd; rw [decodeL_N]
  rw [decodeL_N] at h
  refine decN_cut _ _ _ _ _ _ _ _ _ h ?_ ?_ ?_ ?_
  · rw [hw, List.length_append, List.length_take]; omega
  · rw [hw]; intro h3; rw [getD_front h3 h2]
  · rw [hw]; intro h3; rw [getD_front h3 h2]
  · rw [hw]; intro h3; rw [getD_front h3 h2]
theorem ru_cut {l : Bs} (hl : l ≠ []) (h : ru l ≠ 65533) (m : Bs) : ru (l.take (wd l) ++ m) = ru l ∧ wd (l.take (wd l) ++ m) = wd l := by
  have := dec_cut hl h m
  unfold ru wd
  unfold wd at this
  rw [this]
  exact ⟨rfl, rfl⟩
set_option maxHeartbeats 4000000 in
set_option maxRecDepth 100000 in
theorem decN_ext (n n' b0 b1 b2 b3 c1 c2 c3 : Nat) (hn : 1 ≤ n) (hnn : n < n') (e1 : 1 < n → c1 = b1) (e2 : 2 < n → c2 = b2) (e3 : 3 < n → c3 = b3)
    (f1 : n = 1 → c1 / 64 ≠ 2) (f2 : n = 2 → c2 / 64 ≠ 2) (f3 : n = 3 → c3 / 64 ≠ 2) : decodeN n' b0 c1 c2 c3 = decodeN n b0 b1 b2 b3 := by
  unfold decodeN
  by_cases h0 : b0 < 128
  · rw [if_pos h0, if_pos h0]
  rw [if_neg h0, if_neg h0]
  rcases Nat.lt_or_ge 1 n with h1 | h1
  · obtain rfl := e1 h1
    rcases Nat.lt_or_ge 2 n with h2 | h2
    · obtain rfl := e2 h2
      rcases Nat.lt_or_ge 3 n with h3 | h3
      · obtain rfl := e3 h3
        have a1 : (1 < n') = (1 < n) := propext ⟨fun _ => h1, fun _ => by omega⟩
        have a2 : (2 < n') = (2 < n) := propext ⟨fun _ => h2, fun _ => by omega⟩
        have a3 : (3 < n') = (3 < n) := propext ⟨fun _ => h3, fun _ => by omega⟩
        simp only [a1, a2, a3]
      · have a1 : (1 < n') = (1 < n) := propext ⟨fun _ => h1, fun _ => by omega⟩
        have a2 : (2 < n') = (2 < n) := propext ⟨fun _ => h2, fun _ => by omega⟩
        have f := f3 (by omega)
        have x4 : ¬ (b0 / 8 = 30 ∧ (1 < n ∧ c1 / 64 = 2) ∧ (2 < n ∧ c2 / 64 = 2) ∧ (3 < n' ∧ c3 / 64 = 2)) := fun h => f h.2.2.2.2
        have y4 : ¬ (b0 / 8 = 30 ∧ (1 < n ∧ c1 / 64 = 2) ∧ (2 < n ∧ c2 / 64 = 2) ∧ (3 < n ∧ b3 / 64 = 2)) := fun h => by omega
        simp only [a1, a2]
        rw [if_neg x4, if_neg y4]
    · have a1 : (1 < n') = (1 < n) := propext ⟨fun _ => h1, fun _ => by omega⟩
      have f := f2 (by omega)
      have x3 : ¬ (b0 / 16 = 14 ∧ (1 < n ∧ c1 / 64 = 2) ∧ (2 < n' ∧ c2 / 64 = 2)) := fun h => f h.2.2.2
      have y3 : ¬ (b0 / 16 = 14 ∧ (1 < n ∧ c1 / 64 = 2) ∧ (2 < n ∧ b2 / 64 = 2)) := fun h => by omega
      have x4 : ¬ (b0 / 8 = 30 ∧ (1 < n ∧ c1 / 64 = 2) ∧ (2 < n' ∧ c2 / 64 = 2) ∧ (3 < n' ∧ c3 / 64 = 2)) := fun h => f h.2.2.1.2
      have y4 : ¬ (b0 / 8 = 30 ∧ (1 < n ∧ c1 / 64 = 2) ∧ (2 < n ∧ b2 / 64 = 2) ∧ (3 < n ∧ b3 / 64 = 2)) := fun h => by omega
      simp only [a1]
      rw [if_neg x3, if_neg y3, if_neg x4, if_neg y4]
  · have f := f1 (by omega)
    have x2 : ¬ (b0 / 32 = 6 ∧ (1 < n' ∧ c1 / 64 = 2)) := fun h => f h.2.2
    have y2 : ¬ (b0 / 32 = 6 ∧ (1 < n ∧ b1 / 64 = 2)) := fun h => by omega
    have x3 : ¬ (b0 / 16 = 14 ∧ (1 < n' ∧ c1 / 64 = 2) ∧ (2 < n' ∧ c2 / 64 = 2)) := fun h => f h.2.1.2
    have y3 : ¬ (b0 / 16 = 14 ∧ (1 < n ∧ b1 / 64 = 2) ∧ (2 < n ∧ b2 / 64 = 2)) := fun h => by omega
    have x4 : ¬ (b0 / 8 = 30 ∧ (1 < n' ∧ c1 / 64 = 2) ∧ (2 < n' ∧ c2 / 64 = 2) ∧ (3 < n' ∧ c3 / 64 = 2)) := fun h => f h.2.1.2
    have y4 : ¬ (b0 / 8 = 30 ∧ (1 < n ∧ b1 / 64 = 2) ∧ (2 < n ∧ b2 / 64 = 2) ∧ (3 < n ∧ b3 / 64 = 2)) := fun h => by omega
    rw [if_neg x2, if_neg y2, if_neg x3, if_neg y3, if_neg x4, if_neg y4]
theorem getD_app {l m : Bs} {k : Nat} (h : k < l.length) : (l ++ m).getD k 0 = l.getD k 0 := by
  rw [List.getD_eq_getElem?_getD, List.getD_eq_getElem?_getD, List.getElem?_append_left h]
theorem getD_at {l m : Bs} {x : UInt8} {k : Nat} (h : l.length = k) : (l ++ x :: m).getD k 0 = x := by
  rw [List.getD_eq_getElem?_getD, List.getElem?_append_right (by omega), h]
  simp
/-- A rune is kept where an ASCII byte follows the text. -/
theorem dec_ext {l : Bs} (hl : l ≠ []) {x : UInt8} (hx : x.toNat < 128) (m : Bs) : decodeL (l ++ x :: m) = decodeL l := by
  have h1 := ne_len hl
  have hq : x.toNat / 64 ≠ 2 := by omega
  rw [decodeL_N, decodeL_N l, getD_app (k := 0) (by omega)]
  refine decN_ext _ _ _ _ _ _ _ _ _ h1 (by rw [List.length_append]; simp) (fun h => by rw [getD_app h]) (fun h => by rw [getD_app h]) (fun h => by rw [getD_app h]) (fun h => by rw [getD_at h]; exact hq) (fun h => by rw [getD_at h]; exact hq) (fun h => by rw [getD_at h]; exact hq)
theorem ru_ext {l : Bs} (hl : l ≠ []) {x : UInt8} (hx : x.toNat < 128) (m : Bs) : ru (l ++ x :: m) = ru l ∧ wd (l ++ x :: m) = wd l := by
  unfold ru wd; rw [dec_ext hl hx m]; exact ⟨rfl, rfl⟩
/-- Behind a good rune the text may be anything. -/
theorem ru_app {l : Bs} (hl : l ≠ []) (h : ru l ≠ 65533) (m : Bs) : ru (l ++ m) = ru l ∧ wd (l ++ m) = wd l := by
  have := ru_cut hl h (l.drop (wd l) ++ m)
  rwa [← List.append_assoc, List.take_append_drop] at this
end Go.Proofs.YtjjdefkaohbmjaaDoor
