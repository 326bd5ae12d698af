/- The senders' contracts, said of things that keep apart. Conditions: as their numbers are counted. -/
import Derived.Test.YtgmehcefmoleoaaMirU
set_option linter.unusedVariables false
set_option linter.unusedSimpArgs false
namespace Go.Proofs.Ytgmehcefmoleoaa
open Go.RowKit
section
variable {w W : World} {r : List Th} {b : Nat} {lv : Value} {l : List Item} {ac base : Int}
theorem add_sep (h : Sep w W (tSnd b lv l ac :: r)) (x : Item) (hlt : ac + l.length < 4611686018427387904) (hn : (l.length + 1) * 48 ≤ 140737488351232) (v : Int) (hv : ac + l.length + 1 = v) :
    Calls Try.prog 12 #[.pointer (some ⟨b, 0, none⟩), .agg #[.int .i64 x.seq, .int .i64 x.blk, .string x.data, .int .i64 x.cl, .int .i64 x.n]] W fun e W' => e = .returned (.tuple #[.int .i64 v, .int .i64 0]) ∧ ∃ lv', Sep w W' (tSnd b lv' (l ++ [{ x with seq := v }]) ac :: r) := by
  subst hv
  refine (add_any 0 b lv l ac x W h.hd hlt hn).mono ?_
  rintro e W' ⟨rfl, lv', hs, hu, hf⟩
  refine ⟨rfl, lv', h.op (t' := tSnd b lv' _ ac) hs hu (fun k hk => ?_)⟩
  rcases hk with rfl | hk
  · exact .inl (.inl rfl)
  · exact (hf k hk).imp .inr id
theorem addF_sep (h : Sep w W (tSnd b lv l ac :: r)) (x : Item) (hlt : ac + l.length = 4611686018427387904) :
    Calls Try.prog 12 #[.pointer (some ⟨b, 0, none⟩), .agg #[.int .i64 x.seq, .int .i64 x.blk, .string x.data, .int .i64 x.cl, .int .i64 x.n]] W fun e W' => e = .returned (.tuple #[.int .i64 0, .int .i64 23]) ∧ Sep w W' (tSnd b lv l ac :: r) := by
  refine (add_full 0 b lv l ac x W h.hd hlt).mono ?_
  rintro e W' ⟨rfl, hb⟩
  exact ⟨rfl, h.step hb⟩
theorem radd_sep (h : Sep w W (tRSnd b lv l base ac :: r)) (x : Item) (hlt : base + l.length < 4611686018427387904) (hn : (l.length + 1) * 48 ≤ 140737488351232) (v : Int) (hv : base + l.length + 1 = v) :
    Calls Try.prog 13 #[.pointer (some ⟨b, 0, none⟩), .agg #[.int .i64 x.seq, .int .i64 x.blk, .string x.data, .int .i64 x.cl, .int .i64 x.n]] W fun e W' => e = .returned (.tuple #[.int .i64 v, .int .i64 0]) ∧ ∃ lv', Sep w W' (tRSnd b lv' (l ++ [{ x with seq := v }]) base ac :: r) := by
  subst hv
  obtain ⟨A, c, rfl, _⟩ := (show RSnd W 0 b lv l base ac from h.hd).lst
  refine (radd_any 0 b c A l base ac x W h.hd hlt hn).mono ?_
  rintro e W' ⟨rfl, lv', hs, hu, hf⟩
  refine ⟨rfl, lv', h.opc (t' := tRSnd b lv' _ base ac) hs hu (fun k _ e => .inl e) (fun k hk => ?_)⟩
  rcases hk with rfl | hk
  · exact .inl (.inl rfl)
  · exact .inr (hf k hk)
theorem raddF_sep (h : Sep w W (tRSnd b lv l base ac :: r)) (x : Item) (hlt : base + l.length = 4611686018427387904) :
    Calls Try.prog 13 #[.pointer (some ⟨b, 0, none⟩), .agg #[.int .i64 x.seq, .int .i64 x.blk, .string x.data, .int .i64 x.cl, .int .i64 x.n]] W fun e W' => e = .returned (.tuple #[.int .i64 0, .int .i64 23]) ∧ Sep w W' (tRSnd b lv l base ac :: r) := by
  refine (radd_full 0 b lv l base ac x W h.hd hlt).mono ?_
  rintro e W' ⟨rfl, hb⟩
  exact ⟨rfl, h.step hb⟩
theorem ack_sep (h : Sep w W (tSnd b lv l ac :: r)) (k : Nat) (seq : Int) (hseq : seq = ac + k) (hk : 0 < k) (hk2 : k ≤ l.length) (hn : l.length * 48 ≤ 140737488351232) :
    Calls Try.prog 14 #[.pointer (some ⟨b, 0, none⟩), .int .i64 seq] W fun e W' => e = .returned (.bool true) ∧ ∃ lv', Sep w W' (tSnd b lv' (l.drop k) (ac + k) :: r) := by
  subst hseq
  refine (ack_yes 0 b k lv l ac W h.hd hk hk2 hn).mono ?_
  rintro e W' ⟨rfl, lv', hs, hu, hf⟩
  refine ⟨rfl, lv', h.op (t' := tSnd b lv' _ _) hs hu (fun k hk => ?_)⟩
  rcases hk with rfl | hk
  · exact .inl (.inl rfl)
  · exact (hf k hk).imp .inr id
theorem ackN_sep (h : Sep w W (tSnd b lv l ac :: r)) (seq : Int) (hn : seq ≤ ac ∨ ac + l.length < seq) :
    Calls Try.prog 14 #[.pointer (some ⟨b, 0, none⟩), .int .i64 seq] W fun e W' => e = .returned (.bool false) ∧ Sep w W' (tSnd b lv l ac :: r) := by
  refine (ack_no 0 b lv l ac seq W h.hd hn).mono ?_
  rintro e W' ⟨rfl, hb⟩
  exact ⟨rfl, h.step hb⟩
theorem rack_sep (h : Sep w W (tRSnd b lv l base ac :: r)) (seq : Int) (h1 : ac < seq) (h2 : seq ≤ base + l.length) :
    Calls Try.prog 15 #[.pointer (some ⟨b, 0, none⟩), .int .i64 seq] W fun e W' => e = .returned (.bool true) ∧ Sep w W' (tRSnd b lv l base seq :: r) := by
  refine (rack_yes 0 b lv l base ac seq W h.hd h1 h2).mono ?_
  rintro e W' ⟨rfl, hs, hu⟩
  exact ⟨rfl, h.opc (t' := tRSnd b lv l base seq) hs hu (fun k _ e => .inl e) (fun k hk => .inl hk)⟩
theorem rackN_sep (h : Sep w W (tRSnd b lv l base ac :: r)) (seq : Int) (hn : seq ≤ ac ∨ base + l.length < seq) :
    Calls Try.prog 15 #[.pointer (some ⟨b, 0, none⟩), .int .i64 seq] W fun e W' => e = .returned (.bool false) ∧ Sep w W' (tRSnd b lv l base ac :: r) := by
  refine (rack_no 0 b lv l base ac seq W h.hd hn).mono ?_
  rintro e W' ⟨rfl, hb⟩
  exact ⟨rfl, h.step hb⟩
theorem row_sep {W' : World} (h : Sep w W r) (hb : Below W.heap.size W W') {v : Value} {n : Nat} {xs : List Value} (ho : W'.ownsRow W.heap.size tI 5 v n xs) : Sep w W' (tRow tI 5 v n xs :: r) :=
  h.new (t := tRow tI 5 v n xs) hb (own_base' ho (Nat.zero_le _)) (fun k hk => (ho.lt k hk).1)
theorem left_sep (h : Sep w W (tSnd b lv l ac :: r)) (hn : l.length * 48 ≤ 140737488351232) (n : Nat) (hl : l.length = n) :
    Calls Try.prog 16 #[.pointer (some ⟨b, 0, none⟩)] W fun e W' => ∃ A c, e = .returned (.slice A n c) ∧ Sep w W' (tRow tI 5 (.slice A n c) n (flat l) :: tSnd b lv l ac :: r) := by
  subst hl
  have hs : Snd W 0 b lv l ac := h.hd
  refine (left_any 0 b lv l ac W hs.blk hs.own hn).mono ?_
  rintro e W' ⟨v, rfl, ho, hb⟩
  obtain ⟨A, c, rfl, _⟩ := own_rd ho
  exact ⟨A, c, rfl, row_sep h hb ho⟩
theorem rleft_sep (h : Sep w W (tRSnd b lv l base ac :: r)) (k : Nat) (hn : Numb base l) (hk : ac = base + k) (hkl : k ≤ l.length) (hl : l.length * 48 ≤ 140737488351232) (n : Nat) (hl2 : l.length - k = n) :
    Calls Try.prog 18 #[.pointer (some ⟨b, 0, none⟩)] W fun e W' => ∃ A c, e = .returned (.slice A n c) ∧ Sep w W' (tRow tI 5 (.slice A n c) n (flat (l.drop k)) :: tRSnd b lv l base ac :: r) := by
  subst hl2
  refine (rleft_any 0 b k lv l base ac W h.hd hn hk hkl hl).mono ?_
  rintro e W' ⟨v, rfl, ho, hb⟩
  obtain ⟨A, c, rfl, _⟩ := own_rd ho
  exact ⟨A, c, rfl, row_sep h hb ho⟩
theorem last_sep (h : Sep w W (tSnd b lv l ac :: r)) (v : Int) (hv : ac + l.length = v) :
    Calls Try.prog 19 #[.pointer (some ⟨b, 0, none⟩)] W fun e W' => e = .returned (.int .i64 v) ∧ Sep w W' (tSnd b lv l ac :: r) := by
  subst hv
  have hs : Snd W 0 b lv l ac := h.hd
  obtain ⟨A, c, rfl, _⟩ := own_rd hs.own
  refine (last_any b A l.length c ac W hs.blk hs.lo hs.hi).mono ?_
  rintro e W' ⟨rfl, k, rfl⟩
  exact ⟨rfl, h.drewN k⟩
theorem rlast_sep (h : Sep w W (tRSnd b lv l base ac :: r)) (v : Int) (hv : base + l.length = v) :
    Calls Try.prog 20 #[.pointer (some ⟨b, 0, none⟩)] W fun e W' => e = .returned (.int .i64 v) ∧ Sep w W' (tRSnd b lv l base ac :: r) := by
  subst hv
  have hs : RSnd W 0 b lv l base ac := h.hd
  obtain ⟨A, c, rfl, _⟩ := own_rd hs.own
  refine (rlast_any b A l.length c base ac W hs.blk hs.lo hs.hi).mono ?_
  rintro e W' ⟨rfl, k, rfl⟩
  exact ⟨rfl, h.drewN k⟩
theorem new_sep (h : Sep w W []) (h0 : 0 ≤ base) (h1 : base ≤ 4611686018427387904) {g g' : Nat} (hg : W.heap.size = g) (hg' : W.heap.size + 1 = g') :
    Sep w ((W.alloc (.cells #[.slice none 0 0, .int .i64 base] 53)).alloc (.cells #[.slice none 0 0, .int .i64 base, .int .i64 base] 41)) [tSnd g (.slice none 0 0) [] base, tRSnd g' (.slice none 0 0) [] base base] := by
  subst hg hg'
  have a := h.new (t := tSnd W.heap.size (.slice none 0 0) [] base) ((Below.refl _ _).alloc (Nat.le_refl _) (.cells #[.slice none 0 0, .int .i64 base] 53))
    ⟨Blk.new _ _ _, World.ownsRow_nil _ _ _ _, Nat.zero_le _, h0, by simpa using h1⟩ (fun k hk => by rcases hk with rfl | hk; exact Nat.le_refl _; simp [Value.ownBlock] at hk)
  have c := a.new (t := tRSnd (W.heap.size + 1) (.slice none 0 0) [] base base) ((Below.refl _ _).alloc (Nat.le_refl _) (.cells #[.slice none 0 0, .int .i64 base, .int .i64 base] 41))
    ⟨Blk.new' (by simp) _ _, World.ownsRow_nil _ _ _ _, Nat.zero_le _, h0, by simpa using h1⟩ (fun k hk => by rcases hk with rfl | hk; simp; simp [Value.ownBlock] at hk)
  exact c.sw
end
theorem flat_setd (l : List Item) (k : Nat) (hk : k < l.length) (d : ByteArray) : (flat l).set (k * 5 + 2) (.string d) = flat (l.set k { l[k] with data := d }) := by
  induction l generalizing k with
  | nil => simp at hk
  | cons x l ih =>
    cases k with
    | zero => rfl
    | succ k =>
      have h := ih k (by simpa using hk)
      rw [flat_cons, List.set_append_right _ _ (by simp [Item.cells]; omega), show (k + 1) * 5 + 2 - x.cells.length = k * 5 + 2 by simp [Item.cells]; omega, h]
      rfl
theorem Numb.nil (base : Int) : Numb base [] := fun i h => by simp at h
theorem Numb.snoc {base : Int} {l : List Item} (h : Numb base l) {x : Item} {v : Int} (hv : base + l.length + 1 = v) : Numb base (l ++ [{ x with seq := v }]) := by
  intro i hi
  by_cases h1 : i < l.length
  · rw [List.getElem_append_left h1]; exact h i h1
  · have : i = l.length := by simp at hi; omega
    subst this
    simp [← hv]
end Go.Proofs.Ytgmehcefmoleoaa
