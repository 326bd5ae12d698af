/- The walk of search.from: it tells whether there is an order. Condition: at most 9 ops. -/
import Derived.Test.YtkajkomljgdghaaLinV
set_option linter.unusedVariables false
set_option linter.unusedSimpArgs false
namespace Go.Proofs.Ytkajkomljgdghaa
open Go.RowKit Go.Maps
theorem infoPt : (Try.prog.info? tPt).map (·.size) = some 2 := by kernel_rfl
theorem lawP : Keyed Try.prog tPt := Keyed.of_law (deep_law_laid (m := 2) (of_decide_eq_true (by kernel_rfl)) (by omega) (of_decide_eq_true (by kernel_rfl)) (by kernel_rfl) (by kernel_rfl))
abbrev pt (m : Nat) (d : ByteArray) : Value := .agg #[.int .u64 (m : Int), .string d]
theorem keyP {m : Nat} {d : ByteArray} (h1 : m < 18446744073709551616) (h2 : d.size ≤ maxLen) : KeyV tPt (pt m d) := by
  have w1 : (Lit.int .u64 (m : Int)).wf = true := by simp [Lit.wf, IntKind.min, IntKind.max, IntKind.signed, IntKind.bits]; omega
  have hk : Try.prog.keyType tPt = true := by kernel_rfl
  have hs : ∃ m, Try.prog.types.size = m + 1 := ⟨_, rfl⟩
  obtain ⟨j, hj⟩ := hs
  have c0 : Try.prog.cellsOf tPt = 2 := by kernel_rfl
  have c1 : Try.prog.cellsOf 62 = 1 := by kernel_rfl
  have c2 : Try.prog.cellsOf 9 = 1 := by kernel_rfl
  unfold KeyV keyOf
  rw [hj]
  simp only [Try.underlying64]
  simp [hk, Value.formed, Try.underlying64, c0, c1, c2, Program.keyLits, Value.cells, Try.underlying62, Try.underlying9, w1, h2]
theorem pt_inj {m m' : Nat} {d d' : ByteArray} (h : pt m d = pt m' d') : m = m' ∧ d = d' := by
  simp only [pt, Value.agg.injEq, Array.mk.injEq, List.cons.injEq, Value.int.injEq, Value.string.injEq, and_true, true_and] at h
  exact ⟨by omega, h.2⟩
theorem zeroB (w : World) : (zeroValue 4).run Try.prog w = .ok (.bool false) w := by kernel_rfl
/-- What is remembered of points with at most r that aren't done is so; but for one point. -/
def Memo (L : List LOp) (r : Nat) (f : Value → Option Value) : Prop := ∀ (m : Nat) (d : ByteArray) (v : Value), (leftM L m).length ≤ r → f (pt m d) = some v → v = .bool (ord (leftM L m) d)
def MemoBut (L : List LOp) (r m0 : Nat) (d0 : ByteArray) (f : Value → Option Value) : Prop := ∀ (m : Nat) (d : ByteArray) (v : Value), (leftM L m).length ≤ r → (m, d) ≠ (m0, d0) → f (pt m d) = some v → v = .bool (ord (leftM L m) d)
def Above (L : List LOp) (r : Nat) (f f' : Value → Option Value) : Prop := ∀ (m : Nat) (d : ByteArray), r < (leftM L m).length → f' (pt m d) = f (pt m d)
theorem Memo.but {L : List LOp} {r : Nat} {f : Value → Option Value} (h : Memo L r f) (m0 : Nat) (d0 : ByteArray) : MemoBut L r m0 d0 f := fun m d v h1 _ h2 => h m d v h1 h2
theorem MemoBut.put {L : List LOp} {r m0 : Nat} {d0 : ByteArray} {f : Value → Option Value} (h : MemoBut L r m0 d0 f) (v : Value) : MemoBut L r m0 d0 (putV f (pt m0 d0) v) := fun m d u h1 h2 h3 => by
  rw [putV_other _ _ (fun e => h2 (by obtain ⟨e1, e2⟩ := pt_inj e; rw [e1, e2]))] at h3
  exact h m d u h1 h2 h3
theorem MemoBut.full {L : List LOp} {r m0 : Nat} {d0 : ByteArray} {f : Value → Option Value} (h : MemoBut L r m0 d0 f) {b : Bool} (hb : b = ord (leftM L m0) d0) : Memo L r (putV f (pt m0 d0) (.bool b)) := fun m d u h1 h3 => by
  by_cases e : (m, d) = (m0, d0)
  · simp only [Prod.mk.injEq] at e
    obtain ⟨rfl, rfl⟩ := e
    rw [putV_same] at h3
    rw [← hb]; exact (Option.some.inj h3).symm
  · rw [putV_other _ _ (fun e' => e (by obtain ⟨e1, e2⟩ := pt_inj e'; rw [e1, e2]))] at h3
    exact h m d u h1 e h3
theorem MemoBut.less {L : List LOp} {r m0 : Nat} {d0 : ByteArray} {f : Value → Option Value} (h : MemoBut L r m0 d0 f) (hm : (leftM L m0).length = r) {s : Nat} (hs : s < r) : Memo L s f := fun m d v h1 h2 =>
  h m d v (by omega) (fun e => by
    simp only [Prod.mk.injEq] at e
    rw [e.1] at h1
    omega) h2
theorem MemoBut.back {L : List LOp} {r m0 : Nat} {d0 : ByteArray} {f f' : Value → Option Value} (h : MemoBut L r m0 d0 f) {s : Nat} (hs : s + 1 = r) (h1 : Memo L s f') (h2 : Above L s f f') : MemoBut L r m0 d0 f' := fun m d v h3 h4 h5 => by
  rcases Nat.lt_or_ge s (leftM L m).length with hl | hl
  · rw [h2 m d hl] at h5
    exact h m d v h3 h4 h5
  · exact h1 m d v hl h5
theorem Above.refl (L : List LOp) (r : Nat) (f : Value → Option Value) : Above L r f f := fun _ _ _ => rfl
theorem Above.put {L : List LOp} {r m0 : Nat} {d0 : ByteArray} {f f' : Value → Option Value} (h : Above L r f f') (hm : (leftM L m0).length = r) (v : Value) : Above L r f (putV f' (pt m0 d0) v) := fun m d hl => by
  rw [putV_other _ _ (fun e => by obtain ⟨e1, _⟩ := pt_inj e; rw [e1] at hl; omega)]
  exact h m d hl
theorem Above.trans {L : List LOp} {r s : Nat} {f f' f'' : Value → Option Value} (h : Above L r f f') (hs : s ≤ r) (h' : Above L s f' f'') : Above L r f f'' := fun m d hl => (h' m d (by omega)).trans (h m d hl)
/-- How many stores a search costs at most. -/
def pc : Nat → Nat
  | 0 => 0
  | r + 1 => 2 + 9 * pc r
def cost (r : Nat) : Nat := 2 + 9 * pc r
theorem pc_le : ∀ r, r ≤ 9 → pc r ≤ 4294967296 := by decide
/-- None of the first k, not done, can come first. -/
def NoneK (L : List LOp) (m : Nat) (d : ByteArray) (k : Nat) : Prop := ∀ (i : Nat) (o : LOp), i < k → L[i]? = some o → m.testBit i = false → (∀ (j : Nat) (x : LOp), L[j]? = some x → m.testBit j = false → j ≠ i → ahd x o = false) → o.fits d = true → ord (leftM L (m ||| 2 ^ i)) (o.nxt d) = false
def overK (L : List LOp) (m : Nat) : Nat → Bool
  | 0 => true
  | k + 1 => overK L m k && (match L[k]? with
    | some o => m.testBit k || !o.sure
    | none => true)
theorem overK_succ {L : List LOp} {m k : Nat} {o : LOp} (h : L[k]? = some o) : overK L m (k + 1) = (overK L m k && (m.testBit k || !o.sure)) := by
  simp only [overK, h]
theorem overK_iff {L : List LOp} {m : Nat} : ∀ {n : Nat}, overK L m n = true ↔ ∀ (i : Nat) (o : LOp), i < n → L[i]? = some o → m.testBit i = false → o.sure = false
  | 0 => by simp [overK]
  | n + 1 => by
    simp only [overK, Bool.and_eq_true, overK_iff (n := n)]
    constructor
    · rintro ⟨h1, h2⟩ i o hi ho hm
      rcases Nat.lt_or_ge i n with hin | hin
      · exact h1 i o hin ho hm
      · obtain rfl : i = n := by omega
        rw [ho] at h2
        simpa [hm] using h2
    · intro h
      refine ⟨fun i o hi => h i o (by omega), ?_⟩
      split
      · rename_i o ho
        cases hm : m.testBit n with
        | true => rfl
        | false => rw [h n o (by omega) ho hm]; rfl
      · rfl
theorem over_end {L : List LOp} {m : Nat} {d : ByteArray} (h : NoneK L m d L.length) : ord (leftM L m) d = overK L m L.length := by
  rw [Bool.eq_iff_iff, ordM_iff, overK_iff]
  constructor
  · rintro (h1 | ⟨i, o, h1, h2, h3, h4, h5⟩)
    · exact fun i o _ => h1 i o
    · have := h i o (List.getElem?_eq_some_iff.1 h1).1 h1 h2 h3 h4
      rw [this] at h5; cases h5
  · intro h1
    exact .inl fun i o ho => h1 i o (List.getElem?_eq_some_iff.1 ho).1 ho
theorem NoneK.succ {L : List LOp} {m : Nat} {d : ByteArray} {k : Nat} {o : LOp} (h : NoneK L m d k) (ho : L[k]? = some o) (hn : m.testBit k = false → (∀ (j : Nat) (x : LOp), L[j]? = some x → m.testBit j = false → j ≠ k → ahd x o = false) → o.fits d = true → ord (leftM L (m ||| 2 ^ k)) (o.nxt d) = false) : NoneK L m d (k + 1) := fun i o' hi ho' => by
  rcases Nat.lt_or_ge i k with hik | hik
  · exact h i o' hik ho'
  · obtain rfl : i = k := by omega
    rw [ho] at ho'
    cases ho'
    exact hn
theorem left_le : ∀ (L : List LOp) (m : Nat), (leftM L m).length ≤ L.length
  | [], m => Nat.le_refl _
  | x :: L, m => by
    have := left_le L (m / 2)
    simp only [leftM, List.length_append, List.length_cons]
    split <;> simp <;> omega
def FromAt (L : List LOp) (A : Option Addr) (n c bS bm r : Nat) : Prop := ∀ (m : Nat) (d : ByteArray) (q : Nat) (f : Value → Option Value) (w W : World) (l : List Th),
    (leftM L m).length = r → m < 2 ^ n → d.size ≤ 140737488351232 → Memo L r f → q + cost r ≤ 140737488351232 → (∀ W', (∀ t ∈ l, t.ok W') → Rd W' A (eOp.fl L)) → Sep w W (tBlk bS #[.slice A n c, .map (some bm)] tSe :: tMapV tPt bm q f :: l) →
    Calls Try.prog 21 #[.pointer (some ⟨bS, 0, none⟩), .agg #[.int .u64 (m : Int), .string d]] W fun e W' => e = .returned (.bool (ord (leftM L m) d)) ∧ ∃ q' f', q' ≤ q + cost r ∧ Memo L r f' ∧ Above L r f f' ∧ Sep w W' (tBlk bS #[.slice A n c, .map (some bm)] tSe :: tMapV tPt bm q' f' :: l)
theorem nxt_size {L : List LOp} (hd : ∀ o ∈ L, o.data.size ≤ 140737488351232) {k : Nat} {x : LOp} (hx : L[k]? = some x) {d : ByteArray} (h : d.size ≤ 140737488351232) : (x.nxt d).size ≤ 140737488351232 := by
  unfold LOp.nxt
  split
  · exact h
  · split
    · exact hd x (List.mem_of_getElem? hx)
    · decide
set_option maxRecDepth 100000 in
set_option maxHeartbeats 8000000 in
theorem from_step (L : List LOp) (A : Option Addr) (n c bS bm : Nat) (hl : L.length = n) (hn : n ≤ 9) (hd : ∀ o ∈ L, o.data.size ≤ 140737488351232) (r : Nat) (ih : ∀ s, s + 1 = r → FromAt L A n c bS bm s) : FromAt L A n c bS bm r := by
  intro m d q f w W l hr hm hds hmemo hq hrd hsep
  have HL := Lib.hid hl
  have HR := Lib.hid hr
  have hm64 : m < 18446744073709551616 := Nat.lt_of_lt_of_le hm (by rw [← p64]; exact Nat.pow_le_pow_right (by decide) (by omega))
  have HM := Lib.hid hm
  have HMEM := Lib.hid hmemo
  have HRD := Lib.hid hrd
  have HKEY := Lib.hid (keyP (m := m) (d := d) hm64 (by unfold maxLen; omega))
  have HD := Lib.hid hd
  have HIH := Lib.hid ih
  have hcost : cost r = 2 + 9 * pc r := rfl
  obtain ⟨cs, hcs⟩ : ∃ x, cost r = x := ⟨_, rfl⟩
  obtain ⟨pr, hpr⟩ : ∃ x, pc r = x := ⟨_, rfl⟩
  have HCO := Lib.hid (And.intro hcs hpr)
  rw [hcs, hpr] at hcost
  rw [hcs] at hq
  obtain ⟨g3, hg3⟩ : ∃ g, W.heap.size = g := ⟨_, rfl⟩
  have HT := Lib.hid ((hsep.newBlk #[.int .u64 (m : Int), .string d] tPt hg3).r3')
  have HG3 := Lib.hid hg3
  clear hl hr hm hmemo hrd hsep hd hg3 ih hcs hpr
  rw [HCO.out.1]
  have HSE : Hid (∀ (t : Th) (l' : List Th) w', Sep w w' (tBlk bS #[.slice A n c, .map (some bm)] tSe :: t :: tBlk g3 #[.int .u64 (m : Int), .string d] tPt :: l') → w'.cell? ⟨bS, 1, none⟩ = some (.map (some bm)) ∧ Blk w' g3 #[.int .u64 (m : Int), .string d] tPt) := Lib.hid (fun t l' w' h => ⟨(show Blk w' bS _ tSe from h.hd).cell 1, h.h3⟩)
  go_enter Try.func21, Try.ntmps21
  go_upto_region 1 with fail
  rw [HG3.out]
  generalize W.alloc (.cells #[.int .u64 (m : Int), .string d] tPt) = W1 at *
  clear HG3
  cases hf : f (pt m d) with
  | some v =>
    as_aux_lemma =>
      have hv := HMEM.out m d v (by rw [HR.out]; exact Nat.le_refl _) hf
      subst hv
      obtain ⟨is0, his⟩ : ∃ x, ord (leftM L m) d = x := ⟨_, rfl⟩
      have HI := Lib.hid his
      have HIS := Lib.hid (show (f (.agg #[.int .u64 (m : Int), .string d])).getD (.bool false) = .bool is0 ∧ (f (.agg #[.int .u64 (m : Int), .string d])).isSome = true by rw [hf, his]; exact ⟨rfl, rfl⟩)
      clear hf his
      have HT := Lib.hid HT.out.drew
      refine wp_region_L (fun w' => w'.cell? ⟨bS, 1, none⟩ = some (.map (some bm)) ∧ Blk w' g3 #[.int .u64 (m : Int), .string d] tPt) 11 (by kernel_rfl) (HSE.out _ _ _ HT.out) (fun hHeld => ?_)
      refine reg_take (i := 0) (d := 12) (v := ?_) [] rfl rfl (by kernel_rfl) (by kernel_rfl) (fun _ _ _ h => h) (Or.inl ⟨by rfl, ?_⟩) (by assumption) ?_
      rotate_left
      · (intro w hSw; (try dsimp only at hSw); go_simp; first | done | with_reducible rfl)
      try simp only [List.setIfInBounds_toArray, List.set_cons_zero, List.set_cons_succ]
      refine reg_take (i := 1) (d := 13) (v := ?_) [] rfl rfl (by kernel_rfl) (by kernel_rfl) (fun _ _ _ h => h) (Or.inl ⟨by rfl, ?_⟩) (by assumption) ?_
      rotate_left
      · (intro w hSw; (try dsimp only at hSw); go_simp; first | done | with_reducible rfl)
      try simp only [List.setIfInBounds_toArray, List.set_cons_zero, List.set_cons_succ]
      refine reg_take (i := 2) (d := 14) (v := ?_) [] rfl rfl (by kernel_rfl) (by kernel_rfl) (fun _ _ _ h => h) (Or.inl ⟨by rfl, ?_⟩) (by assumption) ?_
      rotate_left
      · (intro w hSw; (try dsimp only at hSw); go_simp; first | done | with_reducible rfl)
      try simp only [List.setIfInBounds_toArray, List.set_cons_zero, List.set_cons_succ]
      refine reg_take (i := 3) (d := 15) (v := ?_) [] rfl rfl (by kernel_rfl) (by kernel_rfl) (fun _ _ _ h => h) (Or.inl ⟨by rfl, ?_⟩) (by assumption) ?_
      rotate_left
      · (intro w hSw; (try dsimp only at hSw); go_simp; first | done | with_reducible rfl)
      try simp only [List.setIfInBounds_toArray, List.set_cons_zero, List.set_cons_succ]
      refine reg_take (i := 4) (d := 16) (v := .agg #[.int .u64 (m : Int), .string d]) [] rfl rfl (by kernel_rfl) (by kernel_rfl) (fun _ _ _ h => h) (yields_row _ (by rfl) (.tmp 3) rfl rfl (fun w h => h.2) Try.underlying64 rfl infoPt) (by assumption) ?_
      try simp only [List.setIfInBounds_toArray, List.set_cons_zero, List.set_cons_succ]
      refine wpAnyL_ready (rs := [5]) (by kernel_rfl) rfl ?_
      refine (AllL.cons rfl (fun K hK => ?_) AllL.nil)
      refine stepv_lookOk (HT.out.h2) lawP Try.underlying58 rfl (.tmp 15) (.tmp 16) rfl (zeroB _) (.agg #[.int .u64 (m : Int), .string d]) HKEY.out rfl rfl (.bool is0) HIS.out.1 true HIS.out.2 ?_
      refine hK.out _ _ (HSE.out _ _ _ HT.out) (fun hHeld => ?_)
      try simp only [List.setIfInBounds_toArray, List.set_cons_zero, List.set_cons_succ]
      refine reg_take (i := 6) (d := 11) (v := ?_) [] rfl rfl (by kernel_rfl) (by kernel_rfl) (fun _ _ _ h => h) (Or.inl ⟨by rfl, ?_⟩) (by assumption) ?_
      rotate_left
      · (intro w hSw; (try dsimp only at hSw); go_simp; first | done | with_reducible rfl)
      try simp only [List.setIfInBounds_toArray, List.set_cons_zero, List.set_cons_succ]
      refine reg_take (i := 7) (d := 18) (v := ?_) [] rfl rfl (by kernel_rfl) (by kernel_rfl) (fun _ _ _ h => h) (Or.inl ⟨by rfl, ?_⟩) (by assumption) ?_
      rotate_left
      · (intro w hSw; (try dsimp only at hSw); go_simp; first | done | with_reducible rfl)
      try simp only [List.setIfInBounds_toArray, List.set_cons_zero, List.set_cons_succ]
      refine reg_take (i := 8) (d := 19) (v := ?_) [] rfl rfl (by kernel_rfl) (by kernel_rfl) (fun _ _ _ h => h) (Or.inl ⟨by rfl, ?_⟩) (by assumption) ?_
      rotate_left
      · (intro w hSw; (try dsimp only at hSw); go_simp; first | done | with_reducible rfl)
      try simp only [List.setIfInBounds_toArray, List.set_cons_zero, List.set_cons_succ]
      refine reg_take (i := 9) (d := 5) (v := ?_) [] rfl rfl (by kernel_rfl) (by kernel_rfl) (fun _ _ _ h => h) (Or.inl ⟨by rfl, ?_⟩) (by assumption) ?_
      rotate_left
      · (intro w hSw; (try dsimp only at hSw); go_simp; first | done | with_reducible rfl)
      try simp only [List.setIfInBounds_toArray, List.set_cons_zero, List.set_cons_succ]
      refine reg_take (i := 10) (d := 6) (v := ?_) [] rfl rfl (by kernel_rfl) (by kernel_rfl) (fun _ _ _ h => h) (Or.inl ⟨by rfl, ?_⟩) (by assumption) ?_
      rotate_left
      · (intro w hSw; (try dsimp only at hSw); go_simp; first | done | with_reducible rfl)
      try simp only [List.setIfInBounds_toArray, List.set_cons_zero, List.set_cons_succ]
      refine wpAnyL_done (by kernel_rfl) ?_ _
      go_wp2_with fail
      go_ret
      exact ⟨by rw [HI.out]; rfl, q, f, by omega, HMEM.out, Above.refl _ _ _, HT.out.d3⟩
  | none =>
    have HIS := Lib.hid (show (f (.agg #[.int .u64 (m : Int), .string d])).getD (.bool false) = .bool false ∧ (f (.agg #[.int .u64 (m : Int), .string d])).isSome = false by rw [hf]; exact ⟨rfl, rfl⟩)
    clear hf
    have HT := Lib.hid HT.out.drew
    refine wp_region_L (fun w' => w'.cell? ⟨bS, 1, none⟩ = some (.map (some bm)) ∧ Blk w' g3 #[.int .u64 (m : Int), .string d] tPt) 11 (by kernel_rfl) (HSE.out _ _ _ HT.out) (fun hHeld => ?_)
    refine reg_take (i := 0) (d := 12) (v := ?_) [] rfl rfl (by kernel_rfl) (by kernel_rfl) (fun _ _ _ h => h) (Or.inl ⟨by rfl, ?_⟩) (by assumption) ?_
    rotate_left
    · (intro w hSw; (try dsimp only at hSw); go_simp; first | done | with_reducible rfl)
    try simp only [List.setIfInBounds_toArray, List.set_cons_zero, List.set_cons_succ]
    refine reg_take (i := 1) (d := 13) (v := ?_) [] rfl rfl (by kernel_rfl) (by kernel_rfl) (fun _ _ _ h => h) (Or.inl ⟨by rfl, ?_⟩) (by assumption) ?_
    rotate_left
    · (intro w hSw; (try dsimp only at hSw); go_simp; first | done | with_reducible rfl)
    try simp only [List.setIfInBounds_toArray, List.set_cons_zero, List.set_cons_succ]
    refine reg_take (i := 2) (d := 14) (v := ?_) [] rfl rfl (by kernel_rfl) (by kernel_rfl) (fun _ _ _ h => h) (Or.inl ⟨by rfl, ?_⟩) (by assumption) ?_
    rotate_left
    · (intro w hSw; (try dsimp only at hSw); go_simp; first | done | with_reducible rfl)
    try simp only [List.setIfInBounds_toArray, List.set_cons_zero, List.set_cons_succ]
    refine reg_take (i := 3) (d := 15) (v := ?_) [] rfl rfl (by kernel_rfl) (by kernel_rfl) (fun _ _ _ h => h) (Or.inl ⟨by rfl, ?_⟩) (by assumption) ?_
    rotate_left
    · (intro w hSw; (try dsimp only at hSw); go_simp; first | done | with_reducible rfl)
    try simp only [List.setIfInBounds_toArray, List.set_cons_zero, List.set_cons_succ]
    refine reg_take (i := 4) (d := 16) (v := .agg #[.int .u64 (m : Int), .string d]) [] rfl rfl (by kernel_rfl) (by kernel_rfl) (fun _ _ _ h => h) (yields_row _ (by rfl) (.tmp 3) rfl rfl (fun w h => h.2) Try.underlying64 rfl infoPt) (by assumption) ?_
    try simp only [List.setIfInBounds_toArray, List.set_cons_zero, List.set_cons_succ]
    refine wpAnyL_ready (rs := [5]) (by kernel_rfl) rfl ?_
    refine (AllL.cons rfl (fun K hK => ?_) AllL.nil)
    refine stepv_lookOk (HT.out.h2) lawP Try.underlying58 rfl (.tmp 15) (.tmp 16) rfl (zeroB _) (.agg #[.int .u64 (m : Int), .string d]) HKEY.out rfl rfl (.bool false) HIS.out.1 false HIS.out.2 ?_
    refine hK.out _ _ (HSE.out _ _ _ HT.out) (fun hHeld => ?_)
    try simp only [List.setIfInBounds_toArray, List.set_cons_zero, List.set_cons_succ]
    refine reg_take (i := 6) (d := 11) (v := ?_) [] rfl rfl (by kernel_rfl) (by kernel_rfl) (fun _ _ _ h => h) (Or.inl ⟨by rfl, ?_⟩) (by assumption) ?_
    rotate_left
    · (intro w hSw; (try dsimp only at hSw); go_simp; first | done | with_reducible rfl)
    try simp only [List.setIfInBounds_toArray, List.set_cons_zero, List.set_cons_succ]
    refine reg_take (i := 7) (d := 18) (v := ?_) [] rfl rfl (by kernel_rfl) (by kernel_rfl) (fun _ _ _ h => h) (Or.inl ⟨by rfl, ?_⟩) (by assumption) ?_
    rotate_left
    · (intro w hSw; (try dsimp only at hSw); go_simp; first | done | with_reducible rfl)
    try simp only [List.setIfInBounds_toArray, List.set_cons_zero, List.set_cons_succ]
    refine reg_take (i := 8) (d := 19) (v := ?_) [] rfl rfl (by kernel_rfl) (by kernel_rfl) (fun _ _ _ h => h) (Or.inl ⟨by rfl, ?_⟩) (by assumption) ?_
    rotate_left
    · (intro w hSw; (try dsimp only at hSw); go_simp; first | done | with_reducible rfl)
    try simp only [List.setIfInBounds_toArray, List.set_cons_zero, List.set_cons_succ]
    refine reg_take (i := 9) (d := 5) (v := ?_) [] rfl rfl (by kernel_rfl) (by kernel_rfl) (fun _ _ _ h => h) (Or.inl ⟨by rfl, ?_⟩) (by assumption) ?_
    rotate_left
    · (intro w hSw; (try dsimp only at hSw); go_simp; first | done | with_reducible rfl)
    try simp only [List.setIfInBounds_toArray, List.set_cons_zero, List.set_cons_succ]
    refine reg_take (i := 10) (d := 6) (v := ?_) [] rfl rfl (by kernel_rfl) (by kernel_rfl) (fun _ _ _ h => h) (Or.inl ⟨by rfl, ?_⟩) (by assumption) ?_
    rotate_left
    · (intro w hSw; (try dsimp only at hSw); go_simp; first | done | with_reducible rfl)
    try simp only [List.setIfInBounds_toArray, List.set_cons_zero, List.set_cons_succ]
    refine wpAnyL_done (by kernel_rfl) ?_ _
    go_upto_region 4 with fail
    clear HIS
    have HQ := Lib.hid (show q < maxLen by unfold maxLen; omega)
    have HT := Lib.hid HT.out.drew
    refine wp_region_L (fun w' => w'.cell? ⟨bS, 1, none⟩ = some (.map (some bm)) ∧ Blk w' g3 #[.int .u64 (m : Int), .string d] tPt) 6 (by kernel_rfl) (HSE.out _ _ _ HT.out) (fun hHeld => ?_)
    refine reg_take (i := 0) (d := 22) (v := ?_) [] rfl rfl (by kernel_rfl) (by kernel_rfl) (fun _ _ _ h => h) (Or.inl ⟨by rfl, ?_⟩) (by assumption) ?_
    rotate_left
    · (intro w hSw; (try dsimp only at hSw); go_simp; first | done | with_reducible rfl)
    try simp only [List.setIfInBounds_toArray, List.set_cons_zero, List.set_cons_succ]
    refine reg_take (i := 1) (d := 23) (v := ?_) [] rfl rfl (by kernel_rfl) (by kernel_rfl) (fun _ _ _ h => h) (Or.inl ⟨by rfl, ?_⟩) (by assumption) ?_
    rotate_left
    · (intro w hSw; (try dsimp only at hSw); go_simp; first | done | with_reducible rfl)
    try simp only [List.setIfInBounds_toArray, List.set_cons_zero, List.set_cons_succ]
    refine reg_take (i := 2) (d := 24) (v := ?_) [] rfl rfl (by kernel_rfl) (by kernel_rfl) (fun _ _ _ h => h) (Or.inl ⟨by rfl, ?_⟩) (by assumption) ?_
    rotate_left
    · (intro w hSw; (try dsimp only at hSw); go_simp; first | done | with_reducible rfl)
    try simp only [List.setIfInBounds_toArray, List.set_cons_zero, List.set_cons_succ]
    refine reg_take (i := 3) (d := 25) (v := ?_) [] rfl rfl (by kernel_rfl) (by kernel_rfl) (fun _ _ _ h => h) (Or.inl ⟨by rfl, ?_⟩) (by assumption) ?_
    rotate_left
    · (intro w hSw; (try dsimp only at hSw); go_simp; first | done | with_reducible rfl)
    try simp only [List.setIfInBounds_toArray, List.set_cons_zero, List.set_cons_succ]
    refine reg_take (i := 4) (d := 26) (v := .agg #[.int .u64 (m : Int), .string d]) [] rfl rfl (by kernel_rfl) (by kernel_rfl) (fun _ _ _ h => h) (yields_row _ (by rfl) (.tmp 3) rfl rfl (fun w h => h.2) Try.underlying64 rfl infoPt) (by assumption) ?_
    try simp only [List.setIfInBounds_toArray, List.set_cons_zero, List.set_cons_succ]
    refine wpAnyL_ready (rs := [5]) (by kernel_rfl) rfl ?_
    refine (AllL.cons rfl (fun K hK => ?_) AllL.nil)
    refine stepv_put (HT.out.h2) lawP Try.underlying58 rfl (.tmp 25) (.tmp 26) (.const (.bool false)) rfl HQ.out (.agg #[.int .u64 (m : Int), .string d]) (.bool false) HKEY.out rfl rfl rfl ?_
    intro w2 hm2 hu2
    have HT := Lib.hid ((HT.out.sw).mapPut hm2 hu2).sw
    clear hm2 hu2
    refine hK.out _ _ (HSE.out _ _ _ HT.out) (fun hHeld => ?_)
    try simp only [List.setIfInBounds_toArray, List.set_cons_zero, List.set_cons_succ]
    refine wpAnyL_done (by kernel_rfl) ?_ _
    clear HQ
    have c0 : w2.cell? ⟨bS, 0, none⟩ = some (.slice A n c) := (show Blk w2 bS _ tSe from HT.out.hd).cell 0
    go_wp2_with fail
    clear c0
    have HMB := Lib.hid ((HMEM.out.but m d).put (.bool false))
    have HAB := Lib.hid ((Above.refl L r f).put (m0 := m) (d0 := d) HR.out (.bool false))
    generalize putV f (pt m d) (.bool false) = f0 at *
    go_loopg [7, 32] n (fun gk s7 s32 wr => ∃ (k q1 : Nat) (f1 : Value → Option Value) (ov : Bool), s7 = .bool ov ∧ ov = overK L m k ∧ s32 = .int .i64 (k : Int) ∧ k ≤ n ∧ gk = n - k ∧ NoneK L m d k ∧ q1 ≤ q + 1 + k * pr ∧ MemoBut L r m d f1 ∧ Above L r f f1 ∧ Sep w wr (tBlk bS #[.slice A n c, .map (some bm)] tSe :: tMapV tPt bm q1 f1 :: tBlk g3 #[.int .u64 (m : Int), .string d] tPt :: l))
    case atStart => exact ⟨0, q + 1, _, true, rfl, rfl, rfl, by omega, by omega, fun i o h => by omega, by omega, HMB.out, HAB.out, HT.out⟩
    case round =>
    clear HT HMB HAB
    obtain ⟨k, q1, f1, ov, rfl, hov, rfl, hk, hgk, hno, hq1, hmb, hab, hs⟩ := hrel
    have HT := Lib.hid hs; have HNO := Lib.hid hno; have HMB := Lib.hid hmb; have HAB := Lib.hid hab; have HOV := Lib.hid hov
    clear hs hno hmb hab hov
    have hkp : k * pr ≤ 9 * pr := Nat.mul_le_mul_right _ (by omega)
    by_cases hkn : k < n
    case neg =>
      as_aux_lemma =>
        have j1 : decide ((k : Int) < (n : Int)) = false := by simp; omega
        have j2 : ¬ (k : Int) < (n : Int) := by omega
        have hkn : k = n := by omega
        subst hkn
        have HOR := Lib.hid (show ov = ord (leftM L m) d by rw [HOV.out]; have := over_end (L := L) (m := m) (d := d) (by rw [HL.out]; exact HNO.out); rw [HL.out] at this; exact this.symm)
        go_upto_region 23 with fail
        have HQ := Lib.hid (show q1 < maxLen by unfold maxLen; omega)
        have HT := Lib.hid HT.out.drew
        refine wp_region_L (fun w' => w'.cell? ⟨bS, 1, none⟩ = some (.map (some bm)) ∧ Blk w' g3 #[.int .u64 (m : Int), .string d] tPt) 7 (by kernel_rfl) (HSE.out _ _ _ HT.out) (fun hHeld => ?_)
        refine reg_take (i := 0) (d := 89) (v := ?_) [] rfl rfl (by kernel_rfl) (by kernel_rfl) (fun _ _ _ h => h) (Or.inl ⟨by rfl, ?_⟩) (by assumption) ?_
        rotate_left
        · (intro w hSw; (try dsimp only at hSw); go_simp; first | done | with_reducible rfl)
        try simp only [List.setIfInBounds_toArray, List.set_cons_zero, List.set_cons_succ]
        refine reg_take (i := 1) (d := 90) (v := ?_) [] rfl rfl (by kernel_rfl) (by kernel_rfl) (fun _ _ _ h => h) (Or.inl ⟨by rfl, ?_⟩) (by assumption) ?_
        rotate_left
        · (intro w hSw; (try dsimp only at hSw); go_simp; first | done | with_reducible rfl)
        try simp only [List.setIfInBounds_toArray, List.set_cons_zero, List.set_cons_succ]
        refine reg_take (i := 2) (d := 91) (v := ?_) [] rfl rfl (by kernel_rfl) (by kernel_rfl) (fun _ _ _ h => h) (Or.inl ⟨by rfl, ?_⟩) (by assumption) ?_
        rotate_left
        · (intro w hSw; (try dsimp only at hSw); go_simp; first | done | with_reducible rfl)
        try simp only [List.setIfInBounds_toArray, List.set_cons_zero, List.set_cons_succ]
        refine reg_take (i := 3) (d := 92) (v := ?_) [] rfl rfl (by kernel_rfl) (by kernel_rfl) (fun _ _ _ h => h) (Or.inl ⟨by rfl, ?_⟩) (by assumption) ?_
        rotate_left
        · (intro w hSw; (try dsimp only at hSw); go_simp; first | done | with_reducible rfl)
        try simp only [List.setIfInBounds_toArray, List.set_cons_zero, List.set_cons_succ]
        refine reg_take (i := 4) (d := 93) (v := .agg #[.int .u64 (m : Int), .string d]) [] rfl rfl (by kernel_rfl) (by kernel_rfl) (fun _ _ _ h => h) (yields_row _ (by rfl) (.tmp 3) rfl rfl (fun w h => h.2) Try.underlying64 rfl infoPt) (by assumption) ?_
        try simp only [List.setIfInBounds_toArray, List.set_cons_zero, List.set_cons_succ]
        refine reg_take (i := 5) (d := 94) (v := ?_) [] rfl rfl (by kernel_rfl) (by kernel_rfl) (fun _ _ _ h => h) (Or.inl ⟨by rfl, ?_⟩) (by assumption) ?_
        rotate_left
        · (intro w hSw; (try dsimp only at hSw); go_simp; first | done | with_reducible rfl)
        try simp only [List.setIfInBounds_toArray, List.set_cons_zero, List.set_cons_succ]
        refine wpAnyL_ready (rs := [6]) (by kernel_rfl) rfl ?_
        refine (AllL.cons rfl (fun K hK => ?_) AllL.nil)
        refine stepv_put (HT.out.h2) lawP Try.underlying58 rfl (.tmp 92) (.tmp 93) (.tmp 94) rfl HQ.out (.agg #[.int .u64 (m : Int), .string d]) (.bool ov) HKEY.out rfl rfl rfl ?_
        intro w2 hm2 hu2
        have HT := Lib.hid ((HT.out.sw).mapPut hm2 hu2).sw
        clear hm2 hu2
        refine hK.out _ _ (HSE.out _ _ _ HT.out) (fun hHeld => ?_)
        try simp only [List.setIfInBounds_toArray, List.set_cons_zero, List.set_cons_succ]
        refine wpAnyL_done (by kernel_rfl) ?_ _
        go_wp2_with fail
        go_ret
        exact ⟨by rw [← HOR.out]; rfl, q1 + 1, by omega, putV f1 (pt m d) (.bool ov), HMB.out.full (b := ov) HOR.out, HAB.out.put (m0 := m) (d0 := d) HR.out (.bool ov), HT.out.d3⟩
    have j1 : decide ((k : Int) < (n : Int)) = true := by simp; omega
    have j2 : (k : Int) < (n : Int) := by omega
    have j3 : (0 : Int) ≤ (k : Int) := by omega
    have hwk : IntKind.i64.wrap ((k : Int) + 1) = (k : Int) + 1 := IntWalk.i64_in _ (by omega)
    have HX := Lib.hid (List.getElem?_eq_getElem (l := L) (i := k) (by rw [HL.out]; exact hkn))
    generalize L[k]'(by rw [HL.out]; exact hkn) = x at *
    have HR4 : Hid (∀ (a b e g : Th) w', Sep w w' (a :: b :: e :: g :: l) → Rd w' A (eOp.fl L)) := Lib.hid (fun a b e g w' h => HRD.out w' (fun t ht => h.ok t (List.mem_cons_of_mem _ (List.mem_cons_of_mem _ (List.mem_cons_of_mem _ (List.mem_cons_of_mem _ ht))))))
    have HR5 : Hid (∀ (a b e g z : Th) w', Sep w w' (a :: b :: e :: g :: z :: l) → Rd w' A (eOp.fl L)) := Lib.hid (fun a b e g z w' h => HRD.out w' (fun t ht => h.ok t (List.mem_cons_of_mem _ (List.mem_cons_of_mem _ (List.mem_cons_of_mem _ (List.mem_cons_of_mem _ (List.mem_cons_of_mem _ ht)))))))
    obtain ⟨gb, go, rfl, hu⟩ := (HRD.out wr (fun t ht => HT.out.ok t (List.mem_cons_of_mem _ (List.mem_cons_of_mem _ (List.mem_cons_of_mem _ ht))))).op k x HX.out
    obtain ⟨g8, hg8⟩ : ∃ g, wr.heap.size = g := ⟨_, rfl⟩
    have HT := Lib.hid ((HT.out.newBlk #[.int .i64 0, .int .i64 0, .string { data := #[] }, .int .i64 0, .int .i64 0, .bool false, .int .i64 0, .string { data := #[] }] tOp hg8).r3')
    have HG8 := Lib.hid hg8
    clear hg8
    go_upto_region 8 with fail
    refine wp_region_lit (l := [_, _, _, _, _, _]) ?_
    iterate 2 (refine wpList_plain rfl fun _ hK => ?_; go_simp; refine hK _ _ ?_)
    refine loadMid (cs := x.cs) _ rfl (.tmp 35) rfl rfl hu Try.underlying44 rfl infoOp ?_
    iterate 2 (refine wpList_plain rfl fun _ hK => ?_; go_simp; (try rw [HG8.out]); refine hK _ _ ?_)
    refine storeR x.cs (show Blk _ g8 #[.int .i64 0, .int .i64 0, .string { data := #[] }, .int .i64 0, .int .i64 0, .bool false, .int .i64 0, .string { data := #[] }] tOp from HT.out.h3) rfl infoOp (op1 x) rfl (.tmp 9) (.tmp 36) rfl rfl rfl ?_
    intro W8 hb8 hu8
    have HT := Lib.hid ((HT.out.r3.put hb8 hu8).r3')
    clear hb8 hu8 hu HG8
    obtain ⟨xo, xb, xd, xf, xt, xk, xe, xr⟩ := x
    unfold LOp.cs at HT
    simp only at HT
    obtain ⟨su, hsu⟩ : ∃ s, (LOp.mk xo xb xd xf xt xk xe xr).sure = s := ⟨_, rfl⟩
    have HSU := Lib.hid hsu
    have HOV2 := Lib.hid (show overK L m (k + 1) = (ov && (m.testBit k || !su)) by rw [overK_succ HX.out, hsu, ← HOV.out])
    clear hsu
    have p3 : W8.cell? ⟨g3, 0, none⟩ = some (.int .u64 (m : Int)) := (show Blk W8 g3 _ tPt from HT.out.h4).cell 0
    cases hbit : m.testBit k
    case true =>
      as_aux_lemma =>
        have p0 : (bits BinOp.and IntKind.u64 ((m : Int) / 2 ^ k) 1 == 1) = true := by rw [bit_walk hm64, hbit]
        have HNO2 := Lib.hid (NoneK.succ HNO.out HX.out (fun h => by rw [hbit] at h; cases h))
        have HOV3 := Lib.hid (show ov = overK L m (k + 1) by rw [HOV2.out, hbit]; simp)
        clear hbit
        go_wp2_with fail
        go_roundg (n - (k + 1))
        case measure => omega
        case rel => exact ⟨k + 1, q1, f1, ov, rfl, HOV3.out, by push_cast; rfl, by omega, rfl, HNO2.out, by rw [Nat.add_one_mul]; omega, HMB.out, HAB.out, HT.out.d3⟩
    have p0 : (bits BinOp.and IntKind.u64 ((m : Int) / 2 ^ k) 1 == 1) = false := by rw [bit_walk hm64, hbit]
    have HOV3 := Lib.hid (show (ov && !su) = overK L m (k + 1) by rw [HOV2.out, hbit]; simp)
    have HBIT := Lib.hid hbit
    clear hbit HOV2
    obtain ⟨ab, hab⟩ : ∃ b, aheadB L m k ⟨xo, xb, xd, xf, xt, xk, xe, xr⟩ n = b := ⟨_, rfl⟩
    have HA2 := Lib.hid hab
    clear hab
    have z0 : W8.cell? ⟨g8, 0, none⟩ = some (.int .i64 xo) := (show Blk W8 g8 _ tOp from HT.out.h3).cell 0
    have z1 : W8.cell? ⟨g8, 1, none⟩ = some (.int .i64 xb) := (show Blk W8 g8 _ tOp from HT.out.h3).cell 1
    have z2 : W8.cell? ⟨g8, 2, none⟩ = some (.string xd) := (show Blk W8 g8 _ tOp from HT.out.h3).cell 2
    have z3 : W8.cell? ⟨g8, 3, none⟩ = some (.int .i64 xf) := (show Blk W8 g8 _ tOp from HT.out.h3).cell 3
    have z4 : W8.cell? ⟨g8, 4, none⟩ = some (.int .i64 xt) := (show Blk W8 g8 _ tOp from HT.out.h3).cell 4
    have z5 : W8.cell? ⟨g8, 5, none⟩ = some (.bool xk) := (show Blk W8 g8 _ tOp from HT.out.h3).cell 5
    have z6 : W8.cell? ⟨g8, 6, none⟩ = some (.int .i64 xe) := (show Blk W8 g8 _ tOp from HT.out.h3).cell 6
    have z7 : W8.cell? ⟨g8, 7, none⟩ = some (.string xr) := (show Blk W8 g8 _ tOp from HT.out.h3).cell 7
    have HP2 : Hid (∀ (a b e : Th) w', Sep w w' (a :: b :: e :: tBlk g3 #[.int .u64 (m : Int), .string d] tPt :: l) → w'.cell? ⟨g3, 0, none⟩ = some (.int .u64 (m : Int)) ∧ w'.cell? ⟨g3, 1, none⟩ = some (.string d)) := Lib.hid (fun a b e w' h => ⟨(show Blk w' g3 _ tPt from h.h4).cell 0, (show Blk w' g3 _ tPt from h.h4).cell 1⟩)
    have HP3 : Hid (∀ (a b e g : Th) w', Sep w w' (a :: b :: e :: g :: tBlk g3 #[.int .u64 (m : Int), .string d] tPt :: l) → w'.cell? ⟨g3, 0, none⟩ = some (.int .u64 (m : Int)) ∧ w'.cell? ⟨g3, 1, none⟩ = some (.string d)) := Lib.hid (fun a b e g w' h => ⟨(show Blk w' g3 _ tPt from h.h5).cell 0, (show Blk w' g3 _ tPt from h.h5).cell 1⟩)
    cases ab
    case true =>
      as_aux_lemma =>
        have HNO2 := Lib.hid (NoneK.succ HNO.out HX.out (fun _ h _ => absurd HA2.out (by rw [aheadB_false.2 (fun j x _ hx hj hne => h j x hx hj hne)]; simp)))
        cases ov
        all_goals (
          go_wp2_with (first | (go_at_call 26; refine (sure_any ⟨xo, xb, xd, xf, xt, xk, xe, xr⟩ _).mono ?_; rw [HSU.out]; rintro e w9 ⟨rfl, hB⟩; have HT := Lib.hid (HT.out.step hB); have p9 : w9.cell? ⟨g3, 0, none⟩ = some (.int .u64 (m : Int)) := (show Blk w9 g3 _ tPt from HT.out.h4).cell 0; clear hB) | (go_at_call 27; refine (ahead_any L (some ⟨gb, go, none⟩) n c bS _ m k ⟨xo, xb, xd, xf, xt, xk, xe, xr⟩ _ HL.out (by omega) hm64 HX.out (HR4.out _ _ _ _ _ HT.out) HT.out.hd).mono ?_; rw [HA2.out]; rintro e w10 ⟨rfl, hB⟩; have HT := Lib.hid (HT.out.step hB); clear hB))
          go_roundg (n - (k + 1))
          case measure => omega
          case rel => exact ⟨k + 1, q1, f1, _, rfl, (by rw [← HOV3.out]; rfl), by push_cast; rfl, by omega, rfl, HNO2.out, by rw [Nat.add_one_mul]; omega, HMB.out, HAB.out, HT.out.d3⟩)
    have hor : bits BinOp.or IntKind.u64 (m : Int) (IntKind.u64.wrap (2 ^ k)) = ((m ||| 2 ^ k : Nat) : Int) := or_walk hm64 (by omega)
    cases ov
    case false =>
      as_aux_lemma =>
        go_upto_region 12 with (go_at_call 27; refine (ahead_any L (some ⟨gb, go, none⟩) n c bS _ m k ⟨xo, xb, xd, xf, xt, xk, xe, xr⟩ _ HL.out (by omega) hm64 HX.out (HR4.out _ _ _ _ _ HT.out) HT.out.hd).mono ?_; rw [HA2.out]; rintro e w10 ⟨rfl, hB⟩; have HT := Lib.hid (HT.out.step hB); clear hB)
        clear z0 z1 z2 z3 z4 z5 z6 z7 p3
        have HT := Lib.hid HT.out.drew
        refine wp_region_L (fun w' => w'.cell? ⟨g3, 0, none⟩ = some (.int .u64 (m : Int)) ∧ w'.cell? ⟨g3, 1, none⟩ = some (.string d)) 9 (by kernel_rfl) (HP2.out _ _ _ _ HT.out) (fun hHeld => ?_)
        refine reg_take (i := 0) (d := 54) (v := ?_) [] rfl rfl (by kernel_rfl) (by kernel_rfl) (fun _ _ _ h => h) (Or.inl ⟨by rfl, ?_⟩) (by assumption) ?_
        rotate_left
        · (intro w hSw; (try dsimp only at hSw); go_simp; first | done | with_reducible rfl)
        try simp only [List.setIfInBounds_toArray, List.set_cons_zero, List.set_cons_succ]
        refine reg_take (i := 1) (d := 55) (v := ?_) [] rfl rfl (by kernel_rfl) (by kernel_rfl) (fun _ _ _ h => h) (Or.inl ⟨by rfl, ?_⟩) (by assumption) ?_
        rotate_left
        · (intro w hSw; (try dsimp only at hSw); go_simp; first | done | with_reducible rfl)
        try simp only [List.setIfInBounds_toArray, List.set_cons_zero, List.set_cons_succ]
        refine reg_take (i := 2) (d := 56) (v := ?_) [] rfl rfl (by kernel_rfl) (by kernel_rfl) (fun _ _ _ h => h) (Or.inl ⟨by rfl, ?_⟩) (by assumption) ?_
        rotate_left
        · (intro w hSw; (try dsimp only at hSw); go_simp; first | done | with_reducible rfl)
        try simp only [List.setIfInBounds_toArray, List.set_cons_zero, List.set_cons_succ]
        refine reg_take (i := 3) (d := 57) (v := ?_) [] rfl rfl (by kernel_rfl) (by kernel_rfl) (fun _ _ _ h => h) (Or.inl ⟨by rfl, ?_⟩) (by assumption) ?_
        rotate_left
        · (intro w hSw; (try dsimp only at hSw); go_simp; first | done | with_reducible rfl)
        try simp only [List.setIfInBounds_toArray, List.set_cons_zero, List.set_cons_succ]
        refine reg_take (i := 4) (d := 58) (v := ?_) [] rfl rfl (by kernel_rfl) (by kernel_rfl) (fun _ _ _ h => h) (Or.inl ⟨by rfl, ?_⟩) (by assumption) ?_
        rotate_left
        · (intro w hSw; (try dsimp only at hSw); go_simp; first | done | with_reducible rfl)
        try simp only [List.setIfInBounds_toArray, List.set_cons_zero, List.set_cons_succ]
        refine reg_take (i := 5) (d := 59) (v := ?_) [] rfl rfl (by kernel_rfl) (by kernel_rfl) (fun _ _ _ h => h) (Or.inl ⟨by rfl, ?_⟩) (by assumption) ?_
        rotate_left
        · (intro w hSw; (try dsimp only at hSw); go_simp; first | done | with_reducible rfl)
        try simp only [List.setIfInBounds_toArray, List.set_cons_zero, List.set_cons_succ]
        refine reg_take (i := 6) (d := 60) (v := ?_) [] rfl rfl (by kernel_rfl) (by kernel_rfl) (fun _ _ _ h => h) (Or.inl ⟨by rfl, ?_⟩) (by assumption) ?_
        rotate_left
        · (intro w hSw; (try dsimp only at hSw); go_simp; first | done | with_reducible rfl)
        try simp only [List.setIfInBounds_toArray, List.set_cons_zero, List.set_cons_succ]
        refine reg_take (i := 7) (d := 61) (v := ?_) [] rfl rfl (by kernel_rfl) (by kernel_rfl) (fun _ _ _ h => h) (Or.inl ⟨by rfl, ?_⟩) (by assumption) ?_
        rotate_left
        · (intro w hSw; (try dsimp only at hSw); go_simp; first | done | with_reducible rfl)
        try simp only [List.setIfInBounds_toArray, List.set_cons_zero, List.set_cons_succ]
        refine wpAnyL_ready (rs := [8]) (by kernel_rfl) rfl ?_
        refine (AllL.cons rfl (fun K hK => ?_) AllL.nil)
        go_simp
        have HT := Lib.hid ((HT.out.newBlk #[.int .u64 0, .string { data := #[] }] tPt (g := w10.heap.size) (by simp)).r3')
        refine hK.out _ _ (HP3.out _ _ _ _ _ HT.out) (fun hHeld => ?_)
        try simp only [List.setIfInBounds_toArray, List.set_cons_zero, List.set_cons_succ]
        refine wpAnyL_ready (rs := [9]) (by kernel_rfl) rfl ?_
        refine (AllL.consJ rfl (by kernel_rfl) (fun K hK => ?_) AllL.nil)
        refine stepStoreR #[.int .u64 ((m ||| 2 ^ k : Nat) : Int), .string d] (show Blk _ w10.heap.size #[.int .u64 0, .string { data := #[] }] tPt from HT.out.h3) rfl infoPt (by simp [Value.oneCell']) rfl (.tmp 10) (.tmp 61) rfl rfl rfl ?_
        intro w2 hb2 hu2
        have HT := Lib.hid ((HT.out.r3.put hb2 hu2).r3')
        clear hb2 hu2
        refine hK.out _ _ ?_
        try simp only [List.setIfInBounds_toArray, List.set_cons_zero, List.set_cons_succ]
        refine wpAnyL_done (by kernel_rfl) ?_ _
        generalize w10.heap.size = g10 at *
        have y0 : w2.cell? ⟨g8, 0, none⟩ = some (.int .i64 xo) := (show Blk w2 g8 _ tOp from HT.out.h4).cell 0
        have y2 : w2.cell? ⟨g8, 2, none⟩ = some (.string xd) := (show Blk w2 g8 _ tOp from HT.out.h4).cell 2
        have y7 : w2.cell? ⟨g8, 7, none⟩ = some (.string xr) := (show Blk w2 g8 _ tOp from HT.out.h4).cell 7
        have y3 : w2.cell? ⟨g3, 1, none⟩ = some (.string d) := (show Blk w2 g3 _ tPt from HT.out.h5).cell 1
        by_cases h1 : xo = 1
        · have e1 : (xo == 1) = true := by simp [h1]
          by_cases h4 : xr = d
          · have e4 := str_same d
            have hnd : (LOp.mk xo xb xd xf xt xk xe xr).nxt d = d := by unfold LOp.nxt; rw [if_pos h1]
            have HFT := Lib.hid (show (LOp.mk xo xb xd xf xt xk xe xr).fits d = true from decide_eq_true fun _ => h4)
            subst h4
            clear h1
            go_upto_region 19 with fail
            have HT := Lib.hid (show Sep w w2 (tBlk bS #[.slice (some ⟨gb, go, none⟩) n c, .map (some bm)] tSe :: tMapV tPt bm q1 f1 :: tBlk g10 #[.int .u64 ((m ||| 2 ^ k : Nat) : Int), .string xr] tPt :: tBlk g8 #[.int .i64 xo, .int .i64 xb, .string xd, .int .i64 xf, .int .i64 xt, .bool xk, .int .i64 xe, .string xr] tOp :: tBlk g3 #[.int .u64 (m : Int), .string xr] tPt :: l) from HT.out)
            clear y0 y2 y7 y3
            obtain ⟨b, hb⟩ : ∃ b, ord (leftM L (m ||| 2 ^ k)) xr = b := ⟨_, rfl⟩
            have HRES := Lib.hid hb
            have hpm := (leftM_pick HX.out HBIT.out).length_eq
            rw [List.length_cons, HR.out] at hpm
            obtain ⟨s', hs'⟩ : ∃ s, (leftM L (m ||| 2 ^ k)).length = s := ⟨_, rfl⟩
            rw [hs'] at hpm
            have hcs' : cost s' = pr := by rw [← HCO.out.2, hpm]; rfl
            have HHS := Lib.hid (And.intro hs' (And.intro hpm.symm hcs'))
            have hkp2 : k * pr + pr ≤ 9 * pr := by have := Nat.mul_le_mul_right pr (show k + 1 ≤ 9 by omega); rw [Nat.add_one_mul] at this; exact this
            have HND2 := Lib.hid (show ByteArray.size xr ≤ 140737488351232 by have := nxt_size HD.out HX.out (d := xr) hds; rw [hnd] at this; exact this)
            have HMK := Lib.hid (show m ||| 2 ^ k < 2 ^ n from Nat.or_lt_two_pow HM.out (Nat.pow_lt_pow_right (by decide) hkn))
            have HNX := Lib.hid hnd
            clear hb hpm hs' hcs' hnd
            have n0 : w2.cell? ⟨g10, 0, none⟩ = some (.int .u64 ((m ||| 2 ^ k : Nat) : Int)) := (show Blk w2 g10 _ tPt from HT.out.h3).cell 0
            have n1 : w2.cell? ⟨g10, 1, none⟩ = some (.string xr) := (show Blk w2 g10 _ tPt from HT.out.h3).cell 1
            cases b
            · as_aux_lemma =>
                have HNO2 := Lib.hid (NoneK.succ HNO.out HX.out (fun _ _ _ => by rw [HNX.out]; exact HRES.out))
                go_wp2_with (go_at_call 21; refine (HIH.out s' HHS.out.2.1 (m ||| 2 ^ k) xr q1 f1 w w2 (tBlk g10 #[.int .u64 ((m ||| 2 ^ k : Nat) : Int), .string xr] tPt :: tBlk g8 #[.int .i64 xo, .int .i64 xb, .string xd, .int .i64 xf, .int .i64 xt, .bool xk, .int .i64 xe, .string xr] tOp :: tBlk g3 #[.int .u64 (m : Int), .string xr] tPt :: l) HHS.out.1 HMK.out HND2.out (HMB.out.less HR.out (by have := HHS.out.2.1; omega)) (by rw [HHS.out.2.2]; omega) (fun w' h => HRD.out w' (fun t ht => h t (List.mem_cons_of_mem _ (List.mem_cons_of_mem _ (List.mem_cons_of_mem _ ht))))) HT.out).mono ?_; rw [HRES.out]; rintro e w11 ⟨rfl, q2, f2, hq2, hm2, ha2, hS⟩; have HT := Lib.hid hS.d3.d3; have HQ2 := Lib.hid hq2; have HM2 := Lib.hid hm2; have HA3 := Lib.hid ha2; clear hS hq2 hm2 ha2)
                go_roundg (n - (k + 1))
                case measure => omega
                case rel => exact ⟨k + 1, q2, f2, _, rfl, (by rw [← HOV3.out]; rfl), by push_cast; rfl, by omega, rfl, HNO2.out, by have := HQ2.out; rw [HHS.out.2.2] at this; rw [Nat.add_one_mul]; omega, HMB.out.back HHS.out.2.1 HM2.out HA3.out, HAB.out.trans (by have := HHS.out.2.1; omega) HA3.out, HT.out⟩
            · as_aux_lemma =>
                have HTR := Lib.hid (show true = ord (leftM L m) xr from ((ordM_iff L m xr).2 (.inr ⟨k, _, HX.out, HBIT.out, fun j x hx hj hne => aheadB_false.1 HA2.out j x (by rw [← HL.out]; exact (List.getElem?_eq_some_iff.1 hx).1) hx hj hne, HFT.out, by rw [HNX.out]; exact HRES.out⟩)).symm)
                go_upto_region 20 with (go_at_call 21; refine (HIH.out s' HHS.out.2.1 (m ||| 2 ^ k) xr q1 f1 w w2 (tBlk g10 #[.int .u64 ((m ||| 2 ^ k : Nat) : Int), .string xr] tPt :: tBlk g8 #[.int .i64 xo, .int .i64 xb, .string xd, .int .i64 xf, .int .i64 xt, .bool xk, .int .i64 xe, .string xr] tOp :: tBlk g3 #[.int .u64 (m : Int), .string xr] tPt :: l) HHS.out.1 HMK.out HND2.out (HMB.out.less HR.out (by have := HHS.out.2.1; omega)) (by rw [HHS.out.2.2]; omega) (fun w' h => HRD.out w' (fun t ht => h t (List.mem_cons_of_mem _ (List.mem_cons_of_mem _ (List.mem_cons_of_mem _ ht))))) HT.out).mono ?_; rw [HRES.out]; rintro e w11 ⟨rfl, q2, f2, hq2, hm2, ha2, hS⟩; have HT := Lib.hid hS.d3.d3; have HQ2 := Lib.hid hq2; have HM2 := Lib.hid hm2; have HA3 := Lib.hid ha2; clear hS hq2 hm2 ha2)
                have hq2 := HQ2.out
                rw [HHS.out.2.2] at hq2
                have HQ := Lib.hid (show q2 < maxLen by unfold maxLen; omega)
                have HT := Lib.hid HT.out.drew
                refine wp_region_L (fun w' => w'.cell? ⟨bS, 1, none⟩ = some (.map (some bm)) ∧ Blk w' g3 #[.int .u64 (m : Int), .string xr] tPt) 6 (by kernel_rfl) (HSE.out _ _ _ HT.out) (fun hHeld => ?_)
                refine reg_take (i := 0) (d := 83) (v := ?_) [] rfl rfl (by kernel_rfl) (by kernel_rfl) (fun _ _ _ h => h) (Or.inl ⟨by rfl, ?_⟩) (by assumption) ?_
                rotate_left
                · (intro w hSw; (try dsimp only at hSw); go_simp; first | done | with_reducible rfl)
                try simp only [List.setIfInBounds_toArray, List.set_cons_zero, List.set_cons_succ]
                refine reg_take (i := 1) (d := 84) (v := ?_) [] rfl rfl (by kernel_rfl) (by kernel_rfl) (fun _ _ _ h => h) (Or.inl ⟨by rfl, ?_⟩) (by assumption) ?_
                rotate_left
                · (intro w hSw; (try dsimp only at hSw); go_simp; first | done | with_reducible rfl)
                try simp only [List.setIfInBounds_toArray, List.set_cons_zero, List.set_cons_succ]
                refine reg_take (i := 2) (d := 85) (v := ?_) [] rfl rfl (by kernel_rfl) (by kernel_rfl) (fun _ _ _ h => h) (Or.inl ⟨by rfl, ?_⟩) (by assumption) ?_
                rotate_left
                · (intro w hSw; (try dsimp only at hSw); go_simp; first | done | with_reducible rfl)
                try simp only [List.setIfInBounds_toArray, List.set_cons_zero, List.set_cons_succ]
                refine reg_take (i := 3) (d := 86) (v := ?_) [] rfl rfl (by kernel_rfl) (by kernel_rfl) (fun _ _ _ h => h) (Or.inl ⟨by rfl, ?_⟩) (by assumption) ?_
                rotate_left
                · (intro w hSw; (try dsimp only at hSw); go_simp; first | done | with_reducible rfl)
                try simp only [List.setIfInBounds_toArray, List.set_cons_zero, List.set_cons_succ]
                refine reg_take (i := 4) (d := 87) (v := .agg #[.int .u64 (m : Int), .string xr]) [] rfl rfl (by kernel_rfl) (by kernel_rfl) (fun _ _ _ h => h) (yields_row _ (by rfl) (.tmp 3) rfl rfl (fun w h => h.2) Try.underlying64 rfl infoPt) (by assumption) ?_
                try simp only [List.setIfInBounds_toArray, List.set_cons_zero, List.set_cons_succ]
                refine wpAnyL_ready (rs := [5]) (by kernel_rfl) rfl ?_
                refine (AllL.cons rfl (fun K hK => ?_) AllL.nil)
                refine stepv_put (HT.out.h2) lawP Try.underlying58 rfl (.tmp 86) (.tmp 87) (.const (.bool true)) rfl HQ.out (.agg #[.int .u64 (m : Int), .string xr]) (.bool true) HKEY.out rfl rfl rfl ?_
                intro w2 hm2 hu2
                have HT := Lib.hid ((HT.out.sw).mapPut hm2 hu2).sw
                clear hm2 hu2
                refine hK.out _ _ (HSE.out _ _ _ HT.out) (fun hHeld => ?_)
                try simp only [List.setIfInBounds_toArray, List.set_cons_zero, List.set_cons_succ]
                refine wpAnyL_done (by kernel_rfl) ?_ _
                go_wp2_with fail
                go_ret
                exact ⟨by rw [← HTR.out]; rfl, q2 + 1, putV f2 (pt m xr) (.bool true), by omega, (HMB.out.back HHS.out.2.1 HM2.out HA3.out).full (b := true) HTR.out, (HAB.out.trans (by have := HHS.out.2.1; omega) HA3.out).put (m0 := m) (d0 := xr) HR.out (.bool true), HT.out.d3⟩
          · have e4 := str_ne h4
            have HFT := Lib.hid (show (LOp.mk xo xb xd xf xt xk xe xr).fits d = false from decide_eq_false fun h => h4 (h h1))
            have HNO2 := Lib.hid (NoneK.succ HNO.out HX.out (fun _ _ h => by rw [HFT.out] at h; cases h))
            clear h1 h4
            go_wp2_with fail
            go_roundg (n - (k + 1))
            case measure => omega
            case rel => exact ⟨k + 1, q1, f1, _, rfl, (by rw [← HOV3.out]; rfl), by push_cast; rfl, by omega, rfl, HNO2.out, by rw [Nat.add_one_mul]; omega, HMB.out, HAB.out, HT.out.d3.d3⟩
        have e1 : (xo == 1) = false := by simpa using h1
        have HFT := Lib.hid (show (LOp.mk xo xb xd xf xt xk xe xr).fits d = true from decide_eq_true fun h => absurd h h1)
        have n1 : w2.cell? ⟨g10, 1, none⟩ = some (.string d) := (show Blk w2 g10 _ tPt from HT.out.h3).cell 1
        have n1f := (show Blk w2 g10 _ tPt from HT.out.h3).frozen 1
        by_cases h2 : xo = 2
        · have e2 : (xo == 2) = true := by simp [h2]
          have hnd : (LOp.mk xo xb xd xf xt xk xe xr).nxt d = xd := by unfold LOp.nxt; rw [if_neg h1, if_pos h2]
          have HT := Lib.hid ((HT.out.r3.blkSet 1 (.string xd)).r3')
          clear h1 h2
          go_upto_region 19 with fail
          clear n1 n1f
          generalize w2.setCell ⟨g10, 1, none⟩ (.string xd) = W20 at *
          have HT := Lib.hid (show Sep w W20 (tBlk bS #[.slice (some ⟨gb, go, none⟩) n c, .map (some bm)] tSe :: tMapV tPt bm q1 f1 :: tBlk g10 #[.int .u64 ((m ||| 2 ^ k : Nat) : Int), .string xd] tPt :: tBlk g8 #[.int .i64 xo, .int .i64 xb, .string xd, .int .i64 xf, .int .i64 xt, .bool xk, .int .i64 xe, .string xr] tOp :: tBlk g3 #[.int .u64 (m : Int), .string d] tPt :: l) from HT.out)
          clear y0 y2 y7 y3
          obtain ⟨b, hb⟩ : ∃ b, ord (leftM L (m ||| 2 ^ k)) xd = b := ⟨_, rfl⟩
          have HRES := Lib.hid hb
          have hpm := (leftM_pick HX.out HBIT.out).length_eq
          rw [List.length_cons, HR.out] at hpm
          obtain ⟨s', hs'⟩ : ∃ s, (leftM L (m ||| 2 ^ k)).length = s := ⟨_, rfl⟩
          rw [hs'] at hpm
          have hcs' : cost s' = pr := by rw [← HCO.out.2, hpm]; rfl
          have HHS := Lib.hid (And.intro hs' (And.intro hpm.symm hcs'))
          have hkp2 : k * pr + pr ≤ 9 * pr := by have := Nat.mul_le_mul_right pr (show k + 1 ≤ 9 by omega); rw [Nat.add_one_mul] at this; exact this
          have HND2 := Lib.hid (show ByteArray.size xd ≤ 140737488351232 by have := nxt_size HD.out HX.out (d := d) hds; rw [hnd] at this; exact this)
          have HMK := Lib.hid (show m ||| 2 ^ k < 2 ^ n from Nat.or_lt_two_pow HM.out (Nat.pow_lt_pow_right (by decide) hkn))
          have HNX := Lib.hid hnd
          clear hb hpm hs' hcs' hnd
          have n0 : W20.cell? ⟨g10, 0, none⟩ = some (.int .u64 ((m ||| 2 ^ k : Nat) : Int)) := (show Blk W20 g10 _ tPt from HT.out.h3).cell 0
          have n1 : W20.cell? ⟨g10, 1, none⟩ = some (.string xd) := (show Blk W20 g10 _ tPt from HT.out.h3).cell 1
          cases b
          · as_aux_lemma =>
              have HNO2 := Lib.hid (NoneK.succ HNO.out HX.out (fun _ _ _ => by rw [HNX.out]; exact HRES.out))
              go_wp2_with (go_at_call 21; refine (HIH.out s' HHS.out.2.1 (m ||| 2 ^ k) xd q1 f1 w W20 (tBlk g10 #[.int .u64 ((m ||| 2 ^ k : Nat) : Int), .string xd] tPt :: tBlk g8 #[.int .i64 xo, .int .i64 xb, .string xd, .int .i64 xf, .int .i64 xt, .bool xk, .int .i64 xe, .string xr] tOp :: tBlk g3 #[.int .u64 (m : Int), .string d] tPt :: l) HHS.out.1 HMK.out HND2.out (HMB.out.less HR.out (by have := HHS.out.2.1; omega)) (by rw [HHS.out.2.2]; omega) (fun w' h => HRD.out w' (fun t ht => h t (List.mem_cons_of_mem _ (List.mem_cons_of_mem _ (List.mem_cons_of_mem _ ht))))) HT.out).mono ?_; rw [HRES.out]; rintro e w11 ⟨rfl, q2, f2, hq2, hm2, ha2, hS⟩; have HT := Lib.hid hS.d3.d3; have HQ2 := Lib.hid hq2; have HM2 := Lib.hid hm2; have HA3 := Lib.hid ha2; clear hS hq2 hm2 ha2)
              go_roundg (n - (k + 1))
              case measure => omega
              case rel => exact ⟨k + 1, q2, f2, _, rfl, (by rw [← HOV3.out]; rfl), by push_cast; rfl, by omega, rfl, HNO2.out, by have := HQ2.out; rw [HHS.out.2.2] at this; rw [Nat.add_one_mul]; omega, HMB.out.back HHS.out.2.1 HM2.out HA3.out, HAB.out.trans (by have := HHS.out.2.1; omega) HA3.out, HT.out⟩
          · as_aux_lemma =>
              have HTR := Lib.hid (show true = ord (leftM L m) d from ((ordM_iff L m d).2 (.inr ⟨k, _, HX.out, HBIT.out, fun j x hx hj hne => aheadB_false.1 HA2.out j x (by rw [← HL.out]; exact (List.getElem?_eq_some_iff.1 hx).1) hx hj hne, HFT.out, by rw [HNX.out]; exact HRES.out⟩)).symm)
              go_upto_region 20 with (go_at_call 21; refine (HIH.out s' HHS.out.2.1 (m ||| 2 ^ k) xd q1 f1 w W20 (tBlk g10 #[.int .u64 ((m ||| 2 ^ k : Nat) : Int), .string xd] tPt :: tBlk g8 #[.int .i64 xo, .int .i64 xb, .string xd, .int .i64 xf, .int .i64 xt, .bool xk, .int .i64 xe, .string xr] tOp :: tBlk g3 #[.int .u64 (m : Int), .string d] tPt :: l) HHS.out.1 HMK.out HND2.out (HMB.out.less HR.out (by have := HHS.out.2.1; omega)) (by rw [HHS.out.2.2]; omega) (fun w' h => HRD.out w' (fun t ht => h t (List.mem_cons_of_mem _ (List.mem_cons_of_mem _ (List.mem_cons_of_mem _ ht))))) HT.out).mono ?_; rw [HRES.out]; rintro e w11 ⟨rfl, q2, f2, hq2, hm2, ha2, hS⟩; have HT := Lib.hid hS.d3.d3; have HQ2 := Lib.hid hq2; have HM2 := Lib.hid hm2; have HA3 := Lib.hid ha2; clear hS hq2 hm2 ha2)
              have hq2 := HQ2.out
              rw [HHS.out.2.2] at hq2
              have HQ := Lib.hid (show q2 < maxLen by unfold maxLen; omega)
              have HT := Lib.hid HT.out.drew
              refine wp_region_L (fun w' => w'.cell? ⟨bS, 1, none⟩ = some (.map (some bm)) ∧ Blk w' g3 #[.int .u64 (m : Int), .string d] tPt) 6 (by kernel_rfl) (HSE.out _ _ _ HT.out) (fun hHeld => ?_)
              refine reg_take (i := 0) (d := 83) (v := ?_) [] rfl rfl (by kernel_rfl) (by kernel_rfl) (fun _ _ _ h => h) (Or.inl ⟨by rfl, ?_⟩) (by assumption) ?_
              rotate_left
              · (intro w hSw; (try dsimp only at hSw); go_simp; first | done | with_reducible rfl)
              try simp only [List.setIfInBounds_toArray, List.set_cons_zero, List.set_cons_succ]
              refine reg_take (i := 1) (d := 84) (v := ?_) [] rfl rfl (by kernel_rfl) (by kernel_rfl) (fun _ _ _ h => h) (Or.inl ⟨by rfl, ?_⟩) (by assumption) ?_
              rotate_left
              · (intro w hSw; (try dsimp only at hSw); go_simp; first | done | with_reducible rfl)
              try simp only [List.setIfInBounds_toArray, List.set_cons_zero, List.set_cons_succ]
              refine reg_take (i := 2) (d := 85) (v := ?_) [] rfl rfl (by kernel_rfl) (by kernel_rfl) (fun _ _ _ h => h) (Or.inl ⟨by rfl, ?_⟩) (by assumption) ?_
              rotate_left
              · (intro w hSw; (try dsimp only at hSw); go_simp; first | done | with_reducible rfl)
              try simp only [List.setIfInBounds_toArray, List.set_cons_zero, List.set_cons_succ]
              refine reg_take (i := 3) (d := 86) (v := ?_) [] rfl rfl (by kernel_rfl) (by kernel_rfl) (fun _ _ _ h => h) (Or.inl ⟨by rfl, ?_⟩) (by assumption) ?_
              rotate_left
              · (intro w hSw; (try dsimp only at hSw); go_simp; first | done | with_reducible rfl)
              try simp only [List.setIfInBounds_toArray, List.set_cons_zero, List.set_cons_succ]
              refine reg_take (i := 4) (d := 87) (v := .agg #[.int .u64 (m : Int), .string d]) [] rfl rfl (by kernel_rfl) (by kernel_rfl) (fun _ _ _ h => h) (yields_row _ (by rfl) (.tmp 3) rfl rfl (fun w h => h.2) Try.underlying64 rfl infoPt) (by assumption) ?_
              try simp only [List.setIfInBounds_toArray, List.set_cons_zero, List.set_cons_succ]
              refine wpAnyL_ready (rs := [5]) (by kernel_rfl) rfl ?_
              refine (AllL.cons rfl (fun K hK => ?_) AllL.nil)
              refine stepv_put (HT.out.h2) lawP Try.underlying58 rfl (.tmp 86) (.tmp 87) (.const (.bool true)) rfl HQ.out (.agg #[.int .u64 (m : Int), .string d]) (.bool true) HKEY.out rfl rfl rfl ?_
              intro w2 hm2 hu2
              have HT := Lib.hid ((HT.out.sw).mapPut hm2 hu2).sw
              clear hm2 hu2
              refine hK.out _ _ (HSE.out _ _ _ HT.out) (fun hHeld => ?_)
              try simp only [List.setIfInBounds_toArray, List.set_cons_zero, List.set_cons_succ]
              refine wpAnyL_done (by kernel_rfl) ?_ _
              go_wp2_with fail
              go_ret
              exact ⟨by rw [← HTR.out]; rfl, q2 + 1, putV f2 (pt m d) (.bool true), by omega, (HMB.out.back HHS.out.2.1 HM2.out HA3.out).full (b := true) HTR.out, (HAB.out.trans (by have := HHS.out.2.1; omega) HA3.out).put (m0 := m) (d0 := d) HR.out (.bool true), HT.out.d3⟩
        have e2 : (xo == 2) = false := by simpa using h2
        have hnd : (LOp.mk xo xb xd xf xt xk xe xr).nxt d = none8 := by unfold LOp.nxt; rw [if_neg h1, if_neg h2]
        have HT := Lib.hid ((HT.out.r3.blkSet 1 (.string none8)).r3')
        clear h1 h2
        go_upto_region 19 with fail
        clear n1 n1f
        generalize w2.setCell ⟨g10, 1, none⟩ (.string none8) = W20 at *
        have HT := Lib.hid (show Sep w W20 (tBlk bS #[.slice (some ⟨gb, go, none⟩) n c, .map (some bm)] tSe :: tMapV tPt bm q1 f1 :: tBlk g10 #[.int .u64 ((m ||| 2 ^ k : Nat) : Int), .string none8] tPt :: tBlk g8 #[.int .i64 xo, .int .i64 xb, .string xd, .int .i64 xf, .int .i64 xt, .bool xk, .int .i64 xe, .string xr] tOp :: tBlk g3 #[.int .u64 (m : Int), .string d] tPt :: l) from HT.out)
        clear y0 y2 y7 y3
        obtain ⟨b, hb⟩ : ∃ b, ord (leftM L (m ||| 2 ^ k)) none8 = b := ⟨_, rfl⟩
        have HRES := Lib.hid hb
        have hpm := (leftM_pick HX.out HBIT.out).length_eq
        rw [List.length_cons, HR.out] at hpm
        obtain ⟨s', hs'⟩ : ∃ s, (leftM L (m ||| 2 ^ k)).length = s := ⟨_, rfl⟩
        rw [hs'] at hpm
        have hcs' : cost s' = pr := by rw [← HCO.out.2, hpm]; rfl
        have HHS := Lib.hid (And.intro hs' (And.intro hpm.symm hcs'))
        have hkp2 : k * pr + pr ≤ 9 * pr := by have := Nat.mul_le_mul_right pr (show k + 1 ≤ 9 by omega); rw [Nat.add_one_mul] at this; exact this
        have HND2 := Lib.hid (show ByteArray.size none8 ≤ 140737488351232 by have := nxt_size HD.out HX.out (d := d) hds; rw [hnd] at this; exact this)
        have HMK := Lib.hid (show m ||| 2 ^ k < 2 ^ n from Nat.or_lt_two_pow HM.out (Nat.pow_lt_pow_right (by decide) hkn))
        have HNX := Lib.hid hnd
        clear hb hpm hs' hcs' hnd
        have n0 : W20.cell? ⟨g10, 0, none⟩ = some (.int .u64 ((m ||| 2 ^ k : Nat) : Int)) := (show Blk W20 g10 _ tPt from HT.out.h3).cell 0
        have n1 : W20.cell? ⟨g10, 1, none⟩ = some (.string none8) := (show Blk W20 g10 _ tPt from HT.out.h3).cell 1
        cases b
        · as_aux_lemma =>
            have HNO2 := Lib.hid (NoneK.succ HNO.out HX.out (fun _ _ _ => by rw [HNX.out]; exact HRES.out))
            go_wp2_with (go_at_call 21; refine (HIH.out s' HHS.out.2.1 (m ||| 2 ^ k) none8 q1 f1 w W20 (tBlk g10 #[.int .u64 ((m ||| 2 ^ k : Nat) : Int), .string none8] tPt :: tBlk g8 #[.int .i64 xo, .int .i64 xb, .string xd, .int .i64 xf, .int .i64 xt, .bool xk, .int .i64 xe, .string xr] tOp :: tBlk g3 #[.int .u64 (m : Int), .string d] tPt :: l) HHS.out.1 HMK.out HND2.out (HMB.out.less HR.out (by have := HHS.out.2.1; omega)) (by rw [HHS.out.2.2]; omega) (fun w' h => HRD.out w' (fun t ht => h t (List.mem_cons_of_mem _ (List.mem_cons_of_mem _ (List.mem_cons_of_mem _ ht))))) HT.out).mono ?_; rw [HRES.out]; rintro e w11 ⟨rfl, q2, f2, hq2, hm2, ha2, hS⟩; have HT := Lib.hid hS.d3.d3; have HQ2 := Lib.hid hq2; have HM2 := Lib.hid hm2; have HA3 := Lib.hid ha2; clear hS hq2 hm2 ha2)
            go_roundg (n - (k + 1))
            case measure => omega
            case rel => exact ⟨k + 1, q2, f2, _, rfl, (by rw [← HOV3.out]; rfl), by push_cast; rfl, by omega, rfl, HNO2.out, by have := HQ2.out; rw [HHS.out.2.2] at this; rw [Nat.add_one_mul]; omega, HMB.out.back HHS.out.2.1 HM2.out HA3.out, HAB.out.trans (by have := HHS.out.2.1; omega) HA3.out, HT.out⟩
        · as_aux_lemma =>
            have HTR := Lib.hid (show true = ord (leftM L m) d from ((ordM_iff L m d).2 (.inr ⟨k, _, HX.out, HBIT.out, fun j x hx hj hne => aheadB_false.1 HA2.out j x (by rw [← HL.out]; exact (List.getElem?_eq_some_iff.1 hx).1) hx hj hne, HFT.out, by rw [HNX.out]; exact HRES.out⟩)).symm)
            go_upto_region 20 with (go_at_call 21; refine (HIH.out s' HHS.out.2.1 (m ||| 2 ^ k) none8 q1 f1 w W20 (tBlk g10 #[.int .u64 ((m ||| 2 ^ k : Nat) : Int), .string none8] tPt :: tBlk g8 #[.int .i64 xo, .int .i64 xb, .string xd, .int .i64 xf, .int .i64 xt, .bool xk, .int .i64 xe, .string xr] tOp :: tBlk g3 #[.int .u64 (m : Int), .string d] tPt :: l) HHS.out.1 HMK.out HND2.out (HMB.out.less HR.out (by have := HHS.out.2.1; omega)) (by rw [HHS.out.2.2]; omega) (fun w' h => HRD.out w' (fun t ht => h t (List.mem_cons_of_mem _ (List.mem_cons_of_mem _ (List.mem_cons_of_mem _ ht))))) HT.out).mono ?_; rw [HRES.out]; rintro e w11 ⟨rfl, q2, f2, hq2, hm2, ha2, hS⟩; have HT := Lib.hid hS.d3.d3; have HQ2 := Lib.hid hq2; have HM2 := Lib.hid hm2; have HA3 := Lib.hid ha2; clear hS hq2 hm2 ha2)
            have hq2 := HQ2.out
            rw [HHS.out.2.2] at hq2
            have HQ := Lib.hid (show q2 < maxLen by unfold maxLen; omega)
            have HT := Lib.hid HT.out.drew
            refine wp_region_L (fun w' => w'.cell? ⟨bS, 1, none⟩ = some (.map (some bm)) ∧ Blk w' g3 #[.int .u64 (m : Int), .string d] tPt) 6 (by kernel_rfl) (HSE.out _ _ _ HT.out) (fun hHeld => ?_)
            refine reg_take (i := 0) (d := 83) (v := ?_) [] rfl rfl (by kernel_rfl) (by kernel_rfl) (fun _ _ _ h => h) (Or.inl ⟨by rfl, ?_⟩) (by assumption) ?_
            rotate_left
            · (intro w hSw; (try dsimp only at hSw); go_simp; first | done | with_reducible rfl)
            try simp only [List.setIfInBounds_toArray, List.set_cons_zero, List.set_cons_succ]
            refine reg_take (i := 1) (d := 84) (v := ?_) [] rfl rfl (by kernel_rfl) (by kernel_rfl) (fun _ _ _ h => h) (Or.inl ⟨by rfl, ?_⟩) (by assumption) ?_
            rotate_left
            · (intro w hSw; (try dsimp only at hSw); go_simp; first | done | with_reducible rfl)
            try simp only [List.setIfInBounds_toArray, List.set_cons_zero, List.set_cons_succ]
            refine reg_take (i := 2) (d := 85) (v := ?_) [] rfl rfl (by kernel_rfl) (by kernel_rfl) (fun _ _ _ h => h) (Or.inl ⟨by rfl, ?_⟩) (by assumption) ?_
            rotate_left
            · (intro w hSw; (try dsimp only at hSw); go_simp; first | done | with_reducible rfl)
            try simp only [List.setIfInBounds_toArray, List.set_cons_zero, List.set_cons_succ]
            refine reg_take (i := 3) (d := 86) (v := ?_) [] rfl rfl (by kernel_rfl) (by kernel_rfl) (fun _ _ _ h => h) (Or.inl ⟨by rfl, ?_⟩) (by assumption) ?_
            rotate_left
            · (intro w hSw; (try dsimp only at hSw); go_simp; first | done | with_reducible rfl)
            try simp only [List.setIfInBounds_toArray, List.set_cons_zero, List.set_cons_succ]
            refine reg_take (i := 4) (d := 87) (v := .agg #[.int .u64 (m : Int), .string d]) [] rfl rfl (by kernel_rfl) (by kernel_rfl) (fun _ _ _ h => h) (yields_row _ (by rfl) (.tmp 3) rfl rfl (fun w h => h.2) Try.underlying64 rfl infoPt) (by assumption) ?_
            try simp only [List.setIfInBounds_toArray, List.set_cons_zero, List.set_cons_succ]
            refine wpAnyL_ready (rs := [5]) (by kernel_rfl) rfl ?_
            refine (AllL.cons rfl (fun K hK => ?_) AllL.nil)
            refine stepv_put (HT.out.h2) lawP Try.underlying58 rfl (.tmp 86) (.tmp 87) (.const (.bool true)) rfl HQ.out (.agg #[.int .u64 (m : Int), .string d]) (.bool true) HKEY.out rfl rfl rfl ?_
            intro w2 hm2 hu2
            have HT := Lib.hid ((HT.out.sw).mapPut hm2 hu2).sw
            clear hm2 hu2
            refine hK.out _ _ (HSE.out _ _ _ HT.out) (fun hHeld => ?_)
            try simp only [List.setIfInBounds_toArray, List.set_cons_zero, List.set_cons_succ]
            refine wpAnyL_done (by kernel_rfl) ?_ _
            go_wp2_with fail
            go_ret
            exact ⟨by rw [← HTR.out]; rfl, q2 + 1, putV f2 (pt m d) (.bool true), by omega, (HMB.out.back HHS.out.2.1 HM2.out HA3.out).full (b := true) HTR.out, (HAB.out.trans (by have := HHS.out.2.1; omega) HA3.out).put (m0 := m) (d0 := d) HR.out (.bool true), HT.out.d3⟩
    case true =>
      as_aux_lemma =>
        go_upto_region 12 with (first | (go_at_call 26; refine (sure_any ⟨xo, xb, xd, xf, xt, xk, xe, xr⟩ _).mono ?_; rw [HSU.out]; rintro e w9 ⟨rfl, hB⟩; have HT := Lib.hid (HT.out.step hB); have p9 : w9.cell? ⟨g3, 0, none⟩ = some (.int .u64 (m : Int)) := (show Blk w9 g3 _ tPt from HT.out.h4).cell 0; clear hB) | (go_at_call 27; refine (ahead_any L (some ⟨gb, go, none⟩) n c bS _ m k ⟨xo, xb, xd, xf, xt, xk, xe, xr⟩ _ HL.out (by omega) hm64 HX.out (HR4.out _ _ _ _ _ HT.out) HT.out.hd).mono ?_; rw [HA2.out]; rintro e w10 ⟨rfl, hB⟩; have HT := Lib.hid (HT.out.step hB); clear hB))
        clear z0 z1 z2 z3 z4 z5 z6 z7 p3
        have HT := Lib.hid HT.out.drew
        refine wp_region_L (fun w' => w'.cell? ⟨g3, 0, none⟩ = some (.int .u64 (m : Int)) ∧ w'.cell? ⟨g3, 1, none⟩ = some (.string d)) 9 (by kernel_rfl) (HP2.out _ _ _ _ HT.out) (fun hHeld => ?_)
        refine reg_take (i := 0) (d := 54) (v := ?_) [] rfl rfl (by kernel_rfl) (by kernel_rfl) (fun _ _ _ h => h) (Or.inl ⟨by rfl, ?_⟩) (by assumption) ?_
        rotate_left
        · (intro w hSw; (try dsimp only at hSw); go_simp; first | done | with_reducible rfl)
        try simp only [List.setIfInBounds_toArray, List.set_cons_zero, List.set_cons_succ]
        refine reg_take (i := 1) (d := 55) (v := ?_) [] rfl rfl (by kernel_rfl) (by kernel_rfl) (fun _ _ _ h => h) (Or.inl ⟨by rfl, ?_⟩) (by assumption) ?_
        rotate_left
        · (intro w hSw; (try dsimp only at hSw); go_simp; first | done | with_reducible rfl)
        try simp only [List.setIfInBounds_toArray, List.set_cons_zero, List.set_cons_succ]
        refine reg_take (i := 2) (d := 56) (v := ?_) [] rfl rfl (by kernel_rfl) (by kernel_rfl) (fun _ _ _ h => h) (Or.inl ⟨by rfl, ?_⟩) (by assumption) ?_
        rotate_left
        · (intro w hSw; (try dsimp only at hSw); go_simp; first | done | with_reducible rfl)
        try simp only [List.setIfInBounds_toArray, List.set_cons_zero, List.set_cons_succ]
        refine reg_take (i := 3) (d := 57) (v := ?_) [] rfl rfl (by kernel_rfl) (by kernel_rfl) (fun _ _ _ h => h) (Or.inl ⟨by rfl, ?_⟩) (by assumption) ?_
        rotate_left
        · (intro w hSw; (try dsimp only at hSw); go_simp; first | done | with_reducible rfl)
        try simp only [List.setIfInBounds_toArray, List.set_cons_zero, List.set_cons_succ]
        refine reg_take (i := 4) (d := 58) (v := ?_) [] rfl rfl (by kernel_rfl) (by kernel_rfl) (fun _ _ _ h => h) (Or.inl ⟨by rfl, ?_⟩) (by assumption) ?_
        rotate_left
        · (intro w hSw; (try dsimp only at hSw); go_simp; first | done | with_reducible rfl)
        try simp only [List.setIfInBounds_toArray, List.set_cons_zero, List.set_cons_succ]
        refine reg_take (i := 5) (d := 59) (v := ?_) [] rfl rfl (by kernel_rfl) (by kernel_rfl) (fun _ _ _ h => h) (Or.inl ⟨by rfl, ?_⟩) (by assumption) ?_
        rotate_left
        · (intro w hSw; (try dsimp only at hSw); go_simp; first | done | with_reducible rfl)
        try simp only [List.setIfInBounds_toArray, List.set_cons_zero, List.set_cons_succ]
        refine reg_take (i := 6) (d := 60) (v := ?_) [] rfl rfl (by kernel_rfl) (by kernel_rfl) (fun _ _ _ h => h) (Or.inl ⟨by rfl, ?_⟩) (by assumption) ?_
        rotate_left
        · (intro w hSw; (try dsimp only at hSw); go_simp; first | done | with_reducible rfl)
        try simp only [List.setIfInBounds_toArray, List.set_cons_zero, List.set_cons_succ]
        refine reg_take (i := 7) (d := 61) (v := ?_) [] rfl rfl (by kernel_rfl) (by kernel_rfl) (fun _ _ _ h => h) (Or.inl ⟨by rfl, ?_⟩) (by assumption) ?_
        rotate_left
        · (intro w hSw; (try dsimp only at hSw); go_simp; first | done | with_reducible rfl)
        try simp only [List.setIfInBounds_toArray, List.set_cons_zero, List.set_cons_succ]
        refine wpAnyL_ready (rs := [8]) (by kernel_rfl) rfl ?_
        refine (AllL.cons rfl (fun K hK => ?_) AllL.nil)
        go_simp
        have HT := Lib.hid ((HT.out.newBlk #[.int .u64 0, .string { data := #[] }] tPt (g := w10.heap.size) (by simp)).r3')
        refine hK.out _ _ (HP3.out _ _ _ _ _ HT.out) (fun hHeld => ?_)
        try simp only [List.setIfInBounds_toArray, List.set_cons_zero, List.set_cons_succ]
        refine wpAnyL_ready (rs := [9]) (by kernel_rfl) rfl ?_
        refine (AllL.consJ rfl (by kernel_rfl) (fun K hK => ?_) AllL.nil)
        refine stepStoreR #[.int .u64 ((m ||| 2 ^ k : Nat) : Int), .string d] (show Blk _ w10.heap.size #[.int .u64 0, .string { data := #[] }] tPt from HT.out.h3) rfl infoPt (by simp [Value.oneCell']) rfl (.tmp 10) (.tmp 61) rfl rfl rfl ?_
        intro w2 hb2 hu2
        have HT := Lib.hid ((HT.out.r3.put hb2 hu2).r3')
        clear hb2 hu2
        refine hK.out _ _ ?_
        try simp only [List.setIfInBounds_toArray, List.set_cons_zero, List.set_cons_succ]
        refine wpAnyL_done (by kernel_rfl) ?_ _
        generalize w10.heap.size = g10 at *
        have y0 : w2.cell? ⟨g8, 0, none⟩ = some (.int .i64 xo) := (show Blk w2 g8 _ tOp from HT.out.h4).cell 0
        have y2 : w2.cell? ⟨g8, 2, none⟩ = some (.string xd) := (show Blk w2 g8 _ tOp from HT.out.h4).cell 2
        have y7 : w2.cell? ⟨g8, 7, none⟩ = some (.string xr) := (show Blk w2 g8 _ tOp from HT.out.h4).cell 7
        have y3 : w2.cell? ⟨g3, 1, none⟩ = some (.string d) := (show Blk w2 g3 _ tPt from HT.out.h5).cell 1
        by_cases h1 : xo = 1
        · have e1 : (xo == 1) = true := by simp [h1]
          by_cases h4 : xr = d
          · have e4 := str_same d
            have hnd : (LOp.mk xo xb xd xf xt xk xe xr).nxt d = d := by unfold LOp.nxt; rw [if_pos h1]
            have HFT := Lib.hid (show (LOp.mk xo xb xd xf xt xk xe xr).fits d = true from decide_eq_true fun _ => h4)
            subst h4
            clear h1
            go_upto_region 19 with fail
            have HT := Lib.hid (show Sep w w2 (tBlk bS #[.slice (some ⟨gb, go, none⟩) n c, .map (some bm)] tSe :: tMapV tPt bm q1 f1 :: tBlk g10 #[.int .u64 ((m ||| 2 ^ k : Nat) : Int), .string xr] tPt :: tBlk g8 #[.int .i64 xo, .int .i64 xb, .string xd, .int .i64 xf, .int .i64 xt, .bool xk, .int .i64 xe, .string xr] tOp :: tBlk g3 #[.int .u64 (m : Int), .string xr] tPt :: l) from HT.out)
            clear y0 y2 y7 y3
            obtain ⟨b, hb⟩ : ∃ b, ord (leftM L (m ||| 2 ^ k)) xr = b := ⟨_, rfl⟩
            have HRES := Lib.hid hb
            have hpm := (leftM_pick HX.out HBIT.out).length_eq
            rw [List.length_cons, HR.out] at hpm
            obtain ⟨s', hs'⟩ : ∃ s, (leftM L (m ||| 2 ^ k)).length = s := ⟨_, rfl⟩
            rw [hs'] at hpm
            have hcs' : cost s' = pr := by rw [← HCO.out.2, hpm]; rfl
            have HHS := Lib.hid (And.intro hs' (And.intro hpm.symm hcs'))
            have hkp2 : k * pr + pr ≤ 9 * pr := by have := Nat.mul_le_mul_right pr (show k + 1 ≤ 9 by omega); rw [Nat.add_one_mul] at this; exact this
            have HND2 := Lib.hid (show ByteArray.size xr ≤ 140737488351232 by have := nxt_size HD.out HX.out (d := xr) hds; rw [hnd] at this; exact this)
            have HMK := Lib.hid (show m ||| 2 ^ k < 2 ^ n from Nat.or_lt_two_pow HM.out (Nat.pow_lt_pow_right (by decide) hkn))
            have HNX := Lib.hid hnd
            clear hb hpm hs' hcs' hnd
            have n0 : w2.cell? ⟨g10, 0, none⟩ = some (.int .u64 ((m ||| 2 ^ k : Nat) : Int)) := (show Blk w2 g10 _ tPt from HT.out.h3).cell 0
            have n1 : w2.cell? ⟨g10, 1, none⟩ = some (.string xr) := (show Blk w2 g10 _ tPt from HT.out.h3).cell 1
            cases b
            · as_aux_lemma =>
                have HNO2 := Lib.hid (NoneK.succ HNO.out HX.out (fun _ _ _ => by rw [HNX.out]; exact HRES.out))
                go_wp2_with (go_at_call 21; refine (HIH.out s' HHS.out.2.1 (m ||| 2 ^ k) xr q1 f1 w w2 (tBlk g10 #[.int .u64 ((m ||| 2 ^ k : Nat) : Int), .string xr] tPt :: tBlk g8 #[.int .i64 xo, .int .i64 xb, .string xd, .int .i64 xf, .int .i64 xt, .bool xk, .int .i64 xe, .string xr] tOp :: tBlk g3 #[.int .u64 (m : Int), .string xr] tPt :: l) HHS.out.1 HMK.out HND2.out (HMB.out.less HR.out (by have := HHS.out.2.1; omega)) (by rw [HHS.out.2.2]; omega) (fun w' h => HRD.out w' (fun t ht => h t (List.mem_cons_of_mem _ (List.mem_cons_of_mem _ (List.mem_cons_of_mem _ ht))))) HT.out).mono ?_; rw [HRES.out]; rintro e w11 ⟨rfl, q2, f2, hq2, hm2, ha2, hS⟩; have HT := Lib.hid hS.d3.d3; have HQ2 := Lib.hid hq2; have HM2 := Lib.hid hm2; have HA3 := Lib.hid ha2; clear hS hq2 hm2 ha2)
                go_roundg (n - (k + 1))
                case measure => omega
                case rel => exact ⟨k + 1, q2, f2, _, rfl, (by rw [← HOV3.out]; rfl), by push_cast; rfl, by omega, rfl, HNO2.out, by have := HQ2.out; rw [HHS.out.2.2] at this; rw [Nat.add_one_mul]; omega, HMB.out.back HHS.out.2.1 HM2.out HA3.out, HAB.out.trans (by have := HHS.out.2.1; omega) HA3.out, HT.out⟩
            · as_aux_lemma =>
                have HTR := Lib.hid (show true = ord (leftM L m) xr from ((ordM_iff L m xr).2 (.inr ⟨k, _, HX.out, HBIT.out, fun j x hx hj hne => aheadB_false.1 HA2.out j x (by rw [← HL.out]; exact (List.getElem?_eq_some_iff.1 hx).1) hx hj hne, HFT.out, by rw [HNX.out]; exact HRES.out⟩)).symm)
                go_upto_region 20 with (go_at_call 21; refine (HIH.out s' HHS.out.2.1 (m ||| 2 ^ k) xr q1 f1 w w2 (tBlk g10 #[.int .u64 ((m ||| 2 ^ k : Nat) : Int), .string xr] tPt :: tBlk g8 #[.int .i64 xo, .int .i64 xb, .string xd, .int .i64 xf, .int .i64 xt, .bool xk, .int .i64 xe, .string xr] tOp :: tBlk g3 #[.int .u64 (m : Int), .string xr] tPt :: l) HHS.out.1 HMK.out HND2.out (HMB.out.less HR.out (by have := HHS.out.2.1; omega)) (by rw [HHS.out.2.2]; omega) (fun w' h => HRD.out w' (fun t ht => h t (List.mem_cons_of_mem _ (List.mem_cons_of_mem _ (List.mem_cons_of_mem _ ht))))) HT.out).mono ?_; rw [HRES.out]; rintro e w11 ⟨rfl, q2, f2, hq2, hm2, ha2, hS⟩; have HT := Lib.hid hS.d3.d3; have HQ2 := Lib.hid hq2; have HM2 := Lib.hid hm2; have HA3 := Lib.hid ha2; clear hS hq2 hm2 ha2)
                have hq2 := HQ2.out
                rw [HHS.out.2.2] at hq2
                have HQ := Lib.hid (show q2 < maxLen by unfold maxLen; omega)
                have HT := Lib.hid HT.out.drew
                refine wp_region_L (fun w' => w'.cell? ⟨bS, 1, none⟩ = some (.map (some bm)) ∧ Blk w' g3 #[.int .u64 (m : Int), .string xr] tPt) 6 (by kernel_rfl) (HSE.out _ _ _ HT.out) (fun hHeld => ?_)
                refine reg_take (i := 0) (d := 83) (v := ?_) [] rfl rfl (by kernel_rfl) (by kernel_rfl) (fun _ _ _ h => h) (Or.inl ⟨by rfl, ?_⟩) (by assumption) ?_
                rotate_left
                · (intro w hSw; (try dsimp only at hSw); go_simp; first | done | with_reducible rfl)
                try simp only [List.setIfInBounds_toArray, List.set_cons_zero, List.set_cons_succ]
                refine reg_take (i := 1) (d := 84) (v := ?_) [] rfl rfl (by kernel_rfl) (by kernel_rfl) (fun _ _ _ h => h) (Or.inl ⟨by rfl, ?_⟩) (by assumption) ?_
                rotate_left
                · (intro w hSw; (try dsimp only at hSw); go_simp; first | done | with_reducible rfl)
                try simp only [List.setIfInBounds_toArray, List.set_cons_zero, List.set_cons_succ]
                refine reg_take (i := 2) (d := 85) (v := ?_) [] rfl rfl (by kernel_rfl) (by kernel_rfl) (fun _ _ _ h => h) (Or.inl ⟨by rfl, ?_⟩) (by assumption) ?_
                rotate_left
                · (intro w hSw; (try dsimp only at hSw); go_simp; first | done | with_reducible rfl)
                try simp only [List.setIfInBounds_toArray, List.set_cons_zero, List.set_cons_succ]
                refine reg_take (i := 3) (d := 86) (v := ?_) [] rfl rfl (by kernel_rfl) (by kernel_rfl) (fun _ _ _ h => h) (Or.inl ⟨by rfl, ?_⟩) (by assumption) ?_
                rotate_left
                · (intro w hSw; (try dsimp only at hSw); go_simp; first | done | with_reducible rfl)
                try simp only [List.setIfInBounds_toArray, List.set_cons_zero, List.set_cons_succ]
                refine reg_take (i := 4) (d := 87) (v := .agg #[.int .u64 (m : Int), .string xr]) [] rfl rfl (by kernel_rfl) (by kernel_rfl) (fun _ _ _ h => h) (yields_row _ (by rfl) (.tmp 3) rfl rfl (fun w h => h.2) Try.underlying64 rfl infoPt) (by assumption) ?_
                try simp only [List.setIfInBounds_toArray, List.set_cons_zero, List.set_cons_succ]
                refine wpAnyL_ready (rs := [5]) (by kernel_rfl) rfl ?_
                refine (AllL.cons rfl (fun K hK => ?_) AllL.nil)
                refine stepv_put (HT.out.h2) lawP Try.underlying58 rfl (.tmp 86) (.tmp 87) (.const (.bool true)) rfl HQ.out (.agg #[.int .u64 (m : Int), .string xr]) (.bool true) HKEY.out rfl rfl rfl ?_
                intro w2 hm2 hu2
                have HT := Lib.hid ((HT.out.sw).mapPut hm2 hu2).sw
                clear hm2 hu2
                refine hK.out _ _ (HSE.out _ _ _ HT.out) (fun hHeld => ?_)
                try simp only [List.setIfInBounds_toArray, List.set_cons_zero, List.set_cons_succ]
                refine wpAnyL_done (by kernel_rfl) ?_ _
                go_wp2_with fail
                go_ret
                exact ⟨by rw [← HTR.out]; rfl, q2 + 1, putV f2 (pt m xr) (.bool true), by omega, (HMB.out.back HHS.out.2.1 HM2.out HA3.out).full (b := true) HTR.out, (HAB.out.trans (by have := HHS.out.2.1; omega) HA3.out).put (m0 := m) (d0 := xr) HR.out (.bool true), HT.out.d3⟩
          · have e4 := str_ne h4
            have HFT := Lib.hid (show (LOp.mk xo xb xd xf xt xk xe xr).fits d = false from decide_eq_false fun h => h4 (h h1))
            have HNO2 := Lib.hid (NoneK.succ HNO.out HX.out (fun _ _ h => by rw [HFT.out] at h; cases h))
            clear h1 h4
            go_wp2_with fail
            go_roundg (n - (k + 1))
            case measure => omega
            case rel => exact ⟨k + 1, q1, f1, _, rfl, (by rw [← HOV3.out]; rfl), by push_cast; rfl, by omega, rfl, HNO2.out, by rw [Nat.add_one_mul]; omega, HMB.out, HAB.out, HT.out.d3.d3⟩
        have e1 : (xo == 1) = false := by simpa using h1
        have HFT := Lib.hid (show (LOp.mk xo xb xd xf xt xk xe xr).fits d = true from decide_eq_true fun h => absurd h h1)
        have n1 : w2.cell? ⟨g10, 1, none⟩ = some (.string d) := (show Blk w2 g10 _ tPt from HT.out.h3).cell 1
        have n1f := (show Blk w2 g10 _ tPt from HT.out.h3).frozen 1
        by_cases h2 : xo = 2
        · have e2 : (xo == 2) = true := by simp [h2]
          have hnd : (LOp.mk xo xb xd xf xt xk xe xr).nxt d = xd := by unfold LOp.nxt; rw [if_neg h1, if_pos h2]
          have HT := Lib.hid ((HT.out.r3.blkSet 1 (.string xd)).r3')
          clear h1 h2
          go_upto_region 19 with fail
          clear n1 n1f
          generalize w2.setCell ⟨g10, 1, none⟩ (.string xd) = W20 at *
          have HT := Lib.hid (show Sep w W20 (tBlk bS #[.slice (some ⟨gb, go, none⟩) n c, .map (some bm)] tSe :: tMapV tPt bm q1 f1 :: tBlk g10 #[.int .u64 ((m ||| 2 ^ k : Nat) : Int), .string xd] tPt :: tBlk g8 #[.int .i64 xo, .int .i64 xb, .string xd, .int .i64 xf, .int .i64 xt, .bool xk, .int .i64 xe, .string xr] tOp :: tBlk g3 #[.int .u64 (m : Int), .string d] tPt :: l) from HT.out)
          clear y0 y2 y7 y3
          obtain ⟨b, hb⟩ : ∃ b, ord (leftM L (m ||| 2 ^ k)) xd = b := ⟨_, rfl⟩
          have HRES := Lib.hid hb
          have hpm := (leftM_pick HX.out HBIT.out).length_eq
          rw [List.length_cons, HR.out] at hpm
          obtain ⟨s', hs'⟩ : ∃ s, (leftM L (m ||| 2 ^ k)).length = s := ⟨_, rfl⟩
          rw [hs'] at hpm
          have hcs' : cost s' = pr := by rw [← HCO.out.2, hpm]; rfl
          have HHS := Lib.hid (And.intro hs' (And.intro hpm.symm hcs'))
          have hkp2 : k * pr + pr ≤ 9 * pr := by have := Nat.mul_le_mul_right pr (show k + 1 ≤ 9 by omega); rw [Nat.add_one_mul] at this; exact this
          have HND2 := Lib.hid (show ByteArray.size xd ≤ 140737488351232 by have := nxt_size HD.out HX.out (d := d) hds; rw [hnd] at this; exact this)
          have HMK := Lib.hid (show m ||| 2 ^ k < 2 ^ n from Nat.or_lt_two_pow HM.out (Nat.pow_lt_pow_right (by decide) hkn))
          have HNX := Lib.hid hnd
          clear hb hpm hs' hcs' hnd
          have n0 : W20.cell? ⟨g10, 0, none⟩ = some (.int .u64 ((m ||| 2 ^ k : Nat) : Int)) := (show Blk W20 g10 _ tPt from HT.out.h3).cell 0
          have n1 : W20.cell? ⟨g10, 1, none⟩ = some (.string xd) := (show Blk W20 g10 _ tPt from HT.out.h3).cell 1
          cases b
          · as_aux_lemma =>
              have HNO2 := Lib.hid (NoneK.succ HNO.out HX.out (fun _ _ _ => by rw [HNX.out]; exact HRES.out))
              go_wp2_with (go_at_call 21; refine (HIH.out s' HHS.out.2.1 (m ||| 2 ^ k) xd q1 f1 w W20 (tBlk g10 #[.int .u64 ((m ||| 2 ^ k : Nat) : Int), .string xd] tPt :: tBlk g8 #[.int .i64 xo, .int .i64 xb, .string xd, .int .i64 xf, .int .i64 xt, .bool xk, .int .i64 xe, .string xr] tOp :: tBlk g3 #[.int .u64 (m : Int), .string d] tPt :: l) HHS.out.1 HMK.out HND2.out (HMB.out.less HR.out (by have := HHS.out.2.1; omega)) (by rw [HHS.out.2.2]; omega) (fun w' h => HRD.out w' (fun t ht => h t (List.mem_cons_of_mem _ (List.mem_cons_of_mem _ (List.mem_cons_of_mem _ ht))))) HT.out).mono ?_; rw [HRES.out]; rintro e w11 ⟨rfl, q2, f2, hq2, hm2, ha2, hS⟩; have HT := Lib.hid hS.d3.d3; have HQ2 := Lib.hid hq2; have HM2 := Lib.hid hm2; have HA3 := Lib.hid ha2; clear hS hq2 hm2 ha2)
              go_roundg (n - (k + 1))
              case measure => omega
              case rel => exact ⟨k + 1, q2, f2, _, rfl, (by rw [← HOV3.out]; rfl), by push_cast; rfl, by omega, rfl, HNO2.out, by have := HQ2.out; rw [HHS.out.2.2] at this; rw [Nat.add_one_mul]; omega, HMB.out.back HHS.out.2.1 HM2.out HA3.out, HAB.out.trans (by have := HHS.out.2.1; omega) HA3.out, HT.out⟩
          · as_aux_lemma =>
              have HTR := Lib.hid (show true = ord (leftM L m) d from ((ordM_iff L m d).2 (.inr ⟨k, _, HX.out, HBIT.out, fun j x hx hj hne => aheadB_false.1 HA2.out j x (by rw [← HL.out]; exact (List.getElem?_eq_some_iff.1 hx).1) hx hj hne, HFT.out, by rw [HNX.out]; exact HRES.out⟩)).symm)
              go_upto_region 20 with (go_at_call 21; refine (HIH.out s' HHS.out.2.1 (m ||| 2 ^ k) xd q1 f1 w W20 (tBlk g10 #[.int .u64 ((m ||| 2 ^ k : Nat) : Int), .string xd] tPt :: tBlk g8 #[.int .i64 xo, .int .i64 xb, .string xd, .int .i64 xf, .int .i64 xt, .bool xk, .int .i64 xe, .string xr] tOp :: tBlk g3 #[.int .u64 (m : Int), .string d] tPt :: l) HHS.out.1 HMK.out HND2.out (HMB.out.less HR.out (by have := HHS.out.2.1; omega)) (by rw [HHS.out.2.2]; omega) (fun w' h => HRD.out w' (fun t ht => h t (List.mem_cons_of_mem _ (List.mem_cons_of_mem _ (List.mem_cons_of_mem _ ht))))) HT.out).mono ?_; rw [HRES.out]; rintro e w11 ⟨rfl, q2, f2, hq2, hm2, ha2, hS⟩; have HT := Lib.hid hS.d3.d3; have HQ2 := Lib.hid hq2; have HM2 := Lib.hid hm2; have HA3 := Lib.hid ha2; clear hS hq2 hm2 ha2)
              have hq2 := HQ2.out
              rw [HHS.out.2.2] at hq2
              have HQ := Lib.hid (show q2 < maxLen by unfold maxLen; omega)
              have HT := Lib.hid HT.out.drew
              refine wp_region_L (fun w' => w'.cell? ⟨bS, 1, none⟩ = some (.map (some bm)) ∧ Blk w' g3 #[.int .u64 (m : Int), .string d] tPt) 6 (by kernel_rfl) (HSE.out _ _ _ HT.out) (fun hHeld => ?_)
              refine reg_take (i := 0) (d := 83) (v := ?_) [] rfl rfl (by kernel_rfl) (by kernel_rfl) (fun _ _ _ h => h) (Or.inl ⟨by rfl, ?_⟩) (by assumption) ?_
              rotate_left
              · (intro w hSw; (try dsimp only at hSw); go_simp; first | done | with_reducible rfl)
              try simp only [List.setIfInBounds_toArray, List.set_cons_zero, List.set_cons_succ]
              refine reg_take (i := 1) (d := 84) (v := ?_) [] rfl rfl (by kernel_rfl) (by kernel_rfl) (fun _ _ _ h => h) (Or.inl ⟨by rfl, ?_⟩) (by assumption) ?_
              rotate_left
              · (intro w hSw; (try dsimp only at hSw); go_simp; first | done | with_reducible rfl)
              try simp only [List.setIfInBounds_toArray, List.set_cons_zero, List.set_cons_succ]
              refine reg_take (i := 2) (d := 85) (v := ?_) [] rfl rfl (by kernel_rfl) (by kernel_rfl) (fun _ _ _ h => h) (Or.inl ⟨by rfl, ?_⟩) (by assumption) ?_
              rotate_left
              · (intro w hSw; (try dsimp only at hSw); go_simp; first | done | with_reducible rfl)
              try simp only [List.setIfInBounds_toArray, List.set_cons_zero, List.set_cons_succ]
              refine reg_take (i := 3) (d := 86) (v := ?_) [] rfl rfl (by kernel_rfl) (by kernel_rfl) (fun _ _ _ h => h) (Or.inl ⟨by rfl, ?_⟩) (by assumption) ?_
              rotate_left
              · (intro w hSw; (try dsimp only at hSw); go_simp; first | done | with_reducible rfl)
              try simp only [List.setIfInBounds_toArray, List.set_cons_zero, List.set_cons_succ]
              refine reg_take (i := 4) (d := 87) (v := .agg #[.int .u64 (m : Int), .string d]) [] rfl rfl (by kernel_rfl) (by kernel_rfl) (fun _ _ _ h => h) (yields_row _ (by rfl) (.tmp 3) rfl rfl (fun w h => h.2) Try.underlying64 rfl infoPt) (by assumption) ?_
              try simp only [List.setIfInBounds_toArray, List.set_cons_zero, List.set_cons_succ]
              refine wpAnyL_ready (rs := [5]) (by kernel_rfl) rfl ?_
              refine (AllL.cons rfl (fun K hK => ?_) AllL.nil)
              refine stepv_put (HT.out.h2) lawP Try.underlying58 rfl (.tmp 86) (.tmp 87) (.const (.bool true)) rfl HQ.out (.agg #[.int .u64 (m : Int), .string d]) (.bool true) HKEY.out rfl rfl rfl ?_
              intro w2 hm2 hu2
              have HT := Lib.hid ((HT.out.sw).mapPut hm2 hu2).sw
              clear hm2 hu2
              refine hK.out _ _ (HSE.out _ _ _ HT.out) (fun hHeld => ?_)
              try simp only [List.setIfInBounds_toArray, List.set_cons_zero, List.set_cons_succ]
              refine wpAnyL_done (by kernel_rfl) ?_ _
              go_wp2_with fail
              go_ret
              exact ⟨by rw [← HTR.out]; rfl, q2 + 1, putV f2 (pt m d) (.bool true), by omega, (HMB.out.back HHS.out.2.1 HM2.out HA3.out).full (b := true) HTR.out, (HAB.out.trans (by have := HHS.out.2.1; omega) HA3.out).put (m0 := m) (d0 := d) HR.out (.bool true), HT.out.d3⟩
        have e2 : (xo == 2) = false := by simpa using h2
        have hnd : (LOp.mk xo xb xd xf xt xk xe xr).nxt d = none8 := by unfold LOp.nxt; rw [if_neg h1, if_neg h2]
        have HT := Lib.hid ((HT.out.r3.blkSet 1 (.string none8)).r3')
        clear h1 h2
        go_upto_region 19 with fail
        clear n1 n1f
        generalize w2.setCell ⟨g10, 1, none⟩ (.string none8) = W20 at *
        have HT := Lib.hid (show Sep w W20 (tBlk bS #[.slice (some ⟨gb, go, none⟩) n c, .map (some bm)] tSe :: tMapV tPt bm q1 f1 :: tBlk g10 #[.int .u64 ((m ||| 2 ^ k : Nat) : Int), .string none8] tPt :: tBlk g8 #[.int .i64 xo, .int .i64 xb, .string xd, .int .i64 xf, .int .i64 xt, .bool xk, .int .i64 xe, .string xr] tOp :: tBlk g3 #[.int .u64 (m : Int), .string d] tPt :: l) from HT.out)
        clear y0 y2 y7 y3
        obtain ⟨b, hb⟩ : ∃ b, ord (leftM L (m ||| 2 ^ k)) none8 = b := ⟨_, rfl⟩
        have HRES := Lib.hid hb
        have hpm := (leftM_pick HX.out HBIT.out).length_eq
        rw [List.length_cons, HR.out] at hpm
        obtain ⟨s', hs'⟩ : ∃ s, (leftM L (m ||| 2 ^ k)).length = s := ⟨_, rfl⟩
        rw [hs'] at hpm
        have hcs' : cost s' = pr := by rw [← HCO.out.2, hpm]; rfl
        have HHS := Lib.hid (And.intro hs' (And.intro hpm.symm hcs'))
        have hkp2 : k * pr + pr ≤ 9 * pr := by have := Nat.mul_le_mul_right pr (show k + 1 ≤ 9 by omega); rw [Nat.add_one_mul] at this; exact this
        have HND2 := Lib.hid (show ByteArray.size none8 ≤ 140737488351232 by have := nxt_size HD.out HX.out (d := d) hds; rw [hnd] at this; exact this)
        have HMK := Lib.hid (show m ||| 2 ^ k < 2 ^ n from Nat.or_lt_two_pow HM.out (Nat.pow_lt_pow_right (by decide) hkn))
        have HNX := Lib.hid hnd
        clear hb hpm hs' hcs' hnd
        have n0 : W20.cell? ⟨g10, 0, none⟩ = some (.int .u64 ((m ||| 2 ^ k : Nat) : Int)) := (show Blk W20 g10 _ tPt from HT.out.h3).cell 0
        have n1 : W20.cell? ⟨g10, 1, none⟩ = some (.string none8) := (show Blk W20 g10 _ tPt from HT.out.h3).cell 1
        cases b
        · as_aux_lemma =>
            have HNO2 := Lib.hid (NoneK.succ HNO.out HX.out (fun _ _ _ => by rw [HNX.out]; exact HRES.out))
            go_wp2_with (go_at_call 21; refine (HIH.out s' HHS.out.2.1 (m ||| 2 ^ k) none8 q1 f1 w W20 (tBlk g10 #[.int .u64 ((m ||| 2 ^ k : Nat) : Int), .string none8] tPt :: tBlk g8 #[.int .i64 xo, .int .i64 xb, .string xd, .int .i64 xf, .int .i64 xt, .bool xk, .int .i64 xe, .string xr] tOp :: tBlk g3 #[.int .u64 (m : Int), .string d] tPt :: l) HHS.out.1 HMK.out HND2.out (HMB.out.less HR.out (by have := HHS.out.2.1; omega)) (by rw [HHS.out.2.2]; omega) (fun w' h => HRD.out w' (fun t ht => h t (List.mem_cons_of_mem _ (List.mem_cons_of_mem _ (List.mem_cons_of_mem _ ht))))) HT.out).mono ?_; rw [HRES.out]; rintro e w11 ⟨rfl, q2, f2, hq2, hm2, ha2, hS⟩; have HT := Lib.hid hS.d3.d3; have HQ2 := Lib.hid hq2; have HM2 := Lib.hid hm2; have HA3 := Lib.hid ha2; clear hS hq2 hm2 ha2)
            go_roundg (n - (k + 1))
            case measure => omega
            case rel => exact ⟨k + 1, q2, f2, _, rfl, (by rw [← HOV3.out]; rfl), by push_cast; rfl, by omega, rfl, HNO2.out, by have := HQ2.out; rw [HHS.out.2.2] at this; rw [Nat.add_one_mul]; omega, HMB.out.back HHS.out.2.1 HM2.out HA3.out, HAB.out.trans (by have := HHS.out.2.1; omega) HA3.out, HT.out⟩
        · as_aux_lemma =>
            have HTR := Lib.hid (show true = ord (leftM L m) d from ((ordM_iff L m d).2 (.inr ⟨k, _, HX.out, HBIT.out, fun j x hx hj hne => aheadB_false.1 HA2.out j x (by rw [← HL.out]; exact (List.getElem?_eq_some_iff.1 hx).1) hx hj hne, HFT.out, by rw [HNX.out]; exact HRES.out⟩)).symm)
            go_upto_region 20 with (go_at_call 21; refine (HIH.out s' HHS.out.2.1 (m ||| 2 ^ k) none8 q1 f1 w W20 (tBlk g10 #[.int .u64 ((m ||| 2 ^ k : Nat) : Int), .string none8] tPt :: tBlk g8 #[.int .i64 xo, .int .i64 xb, .string xd, .int .i64 xf, .int .i64 xt, .bool xk, .int .i64 xe, .string xr] tOp :: tBlk g3 #[.int .u64 (m : Int), .string d] tPt :: l) HHS.out.1 HMK.out HND2.out (HMB.out.less HR.out (by have := HHS.out.2.1; omega)) (by rw [HHS.out.2.2]; omega) (fun w' h => HRD.out w' (fun t ht => h t (List.mem_cons_of_mem _ (List.mem_cons_of_mem _ (List.mem_cons_of_mem _ ht))))) HT.out).mono ?_; rw [HRES.out]; rintro e w11 ⟨rfl, q2, f2, hq2, hm2, ha2, hS⟩; have HT := Lib.hid hS.d3.d3; have HQ2 := Lib.hid hq2; have HM2 := Lib.hid hm2; have HA3 := Lib.hid ha2; clear hS hq2 hm2 ha2)
            have hq2 := HQ2.out
            rw [HHS.out.2.2] at hq2
            have HQ := Lib.hid (show q2 < maxLen by unfold maxLen; omega)
            have HT := Lib.hid HT.out.drew
            refine wp_region_L (fun w' => w'.cell? ⟨bS, 1, none⟩ = some (.map (some bm)) ∧ Blk w' g3 #[.int .u64 (m : Int), .string d] tPt) 6 (by kernel_rfl) (HSE.out _ _ _ HT.out) (fun hHeld => ?_)
            refine reg_take (i := 0) (d := 83) (v := ?_) [] rfl rfl (by kernel_rfl) (by kernel_rfl) (fun _ _ _ h => h) (Or.inl ⟨by rfl, ?_⟩) (by assumption) ?_
            rotate_left
            · (intro w hSw; (try dsimp only at hSw); go_simp; first | done | with_reducible rfl)
            try simp only [List.setIfInBounds_toArray, List.set_cons_zero, List.set_cons_succ]
            refine reg_take (i := 1) (d := 84) (v := ?_) [] rfl rfl (by kernel_rfl) (by kernel_rfl) (fun _ _ _ h => h) (Or.inl ⟨by rfl, ?_⟩) (by assumption) ?_
            rotate_left
            · (intro w hSw; (try dsimp only at hSw); go_simp; first | done | with_reducible rfl)
            try simp only [List.setIfInBounds_toArray, List.set_cons_zero, List.set_cons_succ]
            refine reg_take (i := 2) (d := 85) (v := ?_) [] rfl rfl (by kernel_rfl) (by kernel_rfl) (fun _ _ _ h => h) (Or.inl ⟨by rfl, ?_⟩) (by assumption) ?_
            rotate_left
            · (intro w hSw; (try dsimp only at hSw); go_simp; first | done | with_reducible rfl)
            try simp only [List.setIfInBounds_toArray, List.set_cons_zero, List.set_cons_succ]
            refine reg_take (i := 3) (d := 86) (v := ?_) [] rfl rfl (by kernel_rfl) (by kernel_rfl) (fun _ _ _ h => h) (Or.inl ⟨by rfl, ?_⟩) (by assumption) ?_
            rotate_left
            · (intro w hSw; (try dsimp only at hSw); go_simp; first | done | with_reducible rfl)
            try simp only [List.setIfInBounds_toArray, List.set_cons_zero, List.set_cons_succ]
            refine reg_take (i := 4) (d := 87) (v := .agg #[.int .u64 (m : Int), .string d]) [] rfl rfl (by kernel_rfl) (by kernel_rfl) (fun _ _ _ h => h) (yields_row _ (by rfl) (.tmp 3) rfl rfl (fun w h => h.2) Try.underlying64 rfl infoPt) (by assumption) ?_
            try simp only [List.setIfInBounds_toArray, List.set_cons_zero, List.set_cons_succ]
            refine wpAnyL_ready (rs := [5]) (by kernel_rfl) rfl ?_
            refine (AllL.cons rfl (fun K hK => ?_) AllL.nil)
            refine stepv_put (HT.out.h2) lawP Try.underlying58 rfl (.tmp 86) (.tmp 87) (.const (.bool true)) rfl HQ.out (.agg #[.int .u64 (m : Int), .string d]) (.bool true) HKEY.out rfl rfl rfl ?_
            intro w2 hm2 hu2
            have HT := Lib.hid ((HT.out.sw).mapPut hm2 hu2).sw
            clear hm2 hu2
            refine hK.out _ _ (HSE.out _ _ _ HT.out) (fun hHeld => ?_)
            try simp only [List.setIfInBounds_toArray, List.set_cons_zero, List.set_cons_succ]
            refine wpAnyL_done (by kernel_rfl) ?_ _
            go_wp2_with fail
            go_ret
            exact ⟨by rw [← HTR.out]; rfl, q2 + 1, putV f2 (pt m d) (.bool true), by omega, (HMB.out.back HHS.out.2.1 HM2.out HA3.out).full (b := true) HTR.out, (HAB.out.trans (by have := HHS.out.2.1; omega) HA3.out).put (m0 := m) (d0 := d) HR.out (.bool true), HT.out.d3⟩
theorem from_at (L : List LOp) (A : Option Addr) (n c bS bm : Nat) (hl : L.length = n) (hn : n ≤ 9) (hd : ∀ o ∈ L, o.data.size ≤ 140737488351232) : ∀ r, FromAt L A n c bS bm r
  | 0 => from_step L A n c bS bm hl hn hd 0 (fun s h => by omega)
  | r + 1 => from_step L A n c bS bm hl hn hd (r + 1) (fun s h => by
    obtain rfl : s = r := by omega
    exact from_at L A n c bS bm hl hn hd s)
theorem from_top (L : List LOp) (A : Option Addr) (n c bS bm : Nat) (hl : L.length = n) (hn : n ≤ 9) (hd : ∀ o ∈ L, o.data.size ≤ 140737488351232) {w W : World} {l : List Th} (hrd : ∀ W', (∀ t ∈ l, t.ok W') → Rd W' A (eOp.fl L))
    (hs : Sep w W (tBlk bS #[.slice A n c, .map (some bm)] tSe :: tMapV tPt bm 0 (fun _ => none) :: l)) :
    Calls Try.prog 21 #[.pointer (some ⟨bS, 0, none⟩), .agg #[.int .u64 0, .string none8]] W fun e W' => e = .returned (.bool (ord L none8)) ∧ Sep w W' l := by
  have h := from_at L A n c bS bm hl hn hd n 0 none8 0 (fun _ => none) w W l (by rw [leftM_zero]; exact hl) (Nat.two_pow_pos n) (by decide) (fun m d v _ h => by cases h) (by
    have := pc_le n hn
    unfold cost; omega) hrd hs
  rw [leftM_zero] at h
  exact h.mono fun e W' ⟨h1, _, _, _, _, _, h2⟩ => ⟨h1, h2.tail.tail⟩
end Go.Proofs.Ytkajkomljgdghaa
