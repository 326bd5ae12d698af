/- The walk of search.ahead. Condition: at most 64 ops. -/
import Derived.Test.YtkajkomljgdghaaLinW
import Derived.Test.YtkajkomljgdghaaWord
set_option linter.unusedVariables false
set_option linter.unusedSimpArgs false
namespace Go.Proofs.Ytkajkomljgdghaa
open Go.RowKit
abbrev tSe : TypeId := 60
abbrev tPt : TypeId := 64
/-- Is there one of the first k, not done, other than i, that must come ahead of o? -/
def aheadB (L : List LOp) (m i : Nat) (o : LOp) : Nat → Bool
  | 0 => false
  | k + 1 => aheadB L m i o k || (match L[k]? with
    | some x => !m.testBit k && (decide (k ≠ i) && ahd x o)
    | none => false)
theorem aheadB_succ {L : List LOp} {m i : Nat} {o : LOp} {k : Nat} {x : LOp} (hx : L[k]? = some x) (h : aheadB L m i o k = false) : aheadB L m i o (k + 1) = (!m.testBit k && (decide (k ≠ i) && ahd x o)) := by
  simp only [aheadB, h, hx, Bool.false_or]
theorem aheadB_mono {L : List LOp} {m i : Nat} {o : LOp} {k : Nat} (h : aheadB L m i o k = true) : ∀ n, k ≤ n → aheadB L m i o n = true
  | 0, hn => by
    obtain rfl : k = 0 := by omega
    exact h
  | n + 1, hn => by
    rcases Nat.lt_or_ge n k with hk | hk
    · obtain rfl : k = n + 1 := by omega
      exact h
    · simp only [aheadB, aheadB_mono h n hk, Bool.true_or]
theorem aheadB_false {L : List LOp} {m i : Nat} {o : LOp} : ∀ {n : Nat}, aheadB L m i o n = false ↔ ∀ (k : Nat) (x : LOp), k < n → L[k]? = some x → m.testBit k = false → k ≠ i → ahd x o = false
  | 0 => by simp [aheadB]
  | n + 1 => by
    simp only [aheadB, Bool.or_eq_false_iff, aheadB_false (n := n)]
    constructor
    · rintro ⟨h1, h2⟩ k x hk hx hm hi
      rcases Nat.lt_or_ge k n with hkn | hkn
      · exact h1 k x hkn hx hm hi
      · obtain rfl : k = n := by omega
        rw [hx] at h2
        simpa [hm, hi] using h2
    · intro h
      refine ⟨fun k x hk => h k x (by omega), ?_⟩
      split
      · rename_i x hx
        cases hm : m.testBit n with
        | true => rfl
        | false =>
          by_cases hi : n = i
          · simp [hi]
          · rw [h n x (by omega) hx hm hi]; simp
      · rfl
set_option maxRecDepth 100000 in
set_option maxHeartbeats 4000000 in
theorem ahead_any (L : List LOp) (A : Option Addr) (n c bS : Nat) (mv : Value) (m i : Nat) (o : LOp) (w : World) (hl : L.length = n) (hn : n ≤ 64) (hm : m < 18446744073709551616) (ho : L[i]? = some o) (hr : Rd w A (eOp.fl L)) (hb : Blk w bS #[.slice A n c, mv] tSe) :
    Calls Try.prog 27 #[.pointer (some ⟨bS, 0, none⟩), .int .u64 (m : Int), .int .i64 (i : Int)] w fun e w' => e = .returned (.bool (aheadB L m i o n)) ∧ Below w.heap.size w w' := by
  obtain ⟨gb, go, rfl, hof⟩ := hr.op i o ho
  obtain ⟨ofr, hofr⟩ : ∃ x, o.fr = x := ⟨_, rfl⟩
  have hin : i < n := by obtain ⟨h, _⟩ := List.getElem?_eq_some_iff.1 ho; omega
  have h3 : w.cell? ⟨gb, go + i * 8 + 3, none⟩ = some (.int .i64 ofr) := by rw [← hofr]; exact hof 3 _ rfl
  have HFR := Lib.hid (fun (w' : World) (hB : Below w.heap.size w w') => (hB.cell (World.block_lt_of_cell? w _ h3)).trans h3)
  have HB0 := Lib.hid hb
  have HR0 := Lib.hid hr
  have HL := Lib.hid hl
  have HO := Lib.hid (And.intro ho hofr)
  have c0 : w.cell? ⟨bS, 0, none⟩ = some (.slice (some ⟨gb, go, none⟩) n c) := hb.cell 0
  have i1 : (i : Int) < (n : Int) := by omega
  have i0 : (0 : Int) ≤ (i : Int) := by omega
  clear hof h3 hb hr hl ho hofr
  go_enter Try.func27, Try.ntmps27
  go_wp2_with fail
  clear c0
  go_loopg [14] n (fun gk s14 wr => ∃ (k : Nat), s14 = .int .i64 (k : Int) ∧ k ≤ n ∧ gk = n - k ∧ aheadB L m i o k = false ∧ Below w.heap.size w wr)
  case atStart => exact ⟨0, rfl, by omega, by omega, rfl, Below.refl _ _⟩
  case round =>
  obtain ⟨k, rfl, hk, hgk, hah, hB⟩ := hrel
  have HA := Lib.hid hah
  have HS := Lib.hid ((Sep.nil w).step hB)
  clear hah hB
  by_cases hkn : k < n
  case neg =>
    have q1 : decide ((k : Int) < (n : Int)) = false := by simp; omega
    have q2 : ¬ (k : Int) < (n : Int) := by omega
    have hkn : k = n := by omega
    subst hkn
    go_wp2_with fail
    go_ret
    exact ⟨by rw [HA.out]; rfl, HS.out.bel⟩
  have q1 : decide ((k : Int) < (n : Int)) = true := by simp; omega
  have q2 : (k : Int) < (n : Int) := by omega
  have q3 : (0 : Int) ≤ (k : Int) := by omega
  have hwk : IntKind.i64.wrap ((k : Int) + 1) = (k : Int) + 1 := IntWalk.i64_in _ (by omega)
  have HX := Lib.hid (List.getElem?_eq_getElem (l := L) (i := k) (by rw [HL.out]; exact hkn))
  generalize L[k]'(by rw [HL.out]; exact hkn) = x at *
  obtain ⟨gb', go', hA, hu⟩ := (HR0.out.below HS.out.bel).op k x HX.out
  simp only [Option.some.injEq, Addr.mk.injEq, and_true] at hA
  obtain ⟨rfl, rfl⟩ := hA
  obtain ⟨g8, hg8⟩ : ∃ g, wr.heap.size = g := ⟨_, rfl⟩
  have HT := Lib.hid (HS.out.newBlk #[.int .i64 0, .int .i64 0, .string { data := #[] }, .int .i64 0, .int .i64 0, .bool false, .int .i64 0, .string { data := #[] }] tOp hg8)
  have HG8 := Lib.hid hg8
  clear hg8
  go_upto_region 3 with fail
  refine wp_region_lit (l := [_, _, _, _, _, _]) ?_
  iterate 2 (refine wpList_plain rfl fun _ hK => ?_; go_simp; refine hK _ _ ?_)
  refine loadMid (cs := x.cs) _ rfl (.tmp 17) rfl rfl hu Try.underlying44 rfl infoOp ?_
  iterate 2 (refine wpList_plain rfl fun _ hK => ?_; go_simp; (try rw [HG8.out]); refine hK _ _ ?_)
  refine storeR x.cs (show Blk _ g8 #[.int .i64 0, .int .i64 0, .string { data := #[] }, .int .i64 0, .int .i64 0, .bool false, .int .i64 0, .string { data := #[] }] tOp from HT.out.hd) rfl infoOp (op1 x) rfl (.tmp 8) (.tmp 18) rfl rfl rfl ?_
  intro W hb8 hu8
  have HT := Lib.hid (HT.out.put hb8 hu8)
  clear hb8 hu8 hu HS HG8
  obtain ⟨xo, xb, xd, xf, xt, xk, xe, xr⟩ := x
  unfold LOp.cs at HT
  simp only at HT
  obtain ⟨su, hsu⟩ : ∃ s, (LOp.mk xo xb xd xf xt xk xe xr).sure = s := ⟨_, rfl⟩
  have HSU := Lib.hid hsu
  clear hsu
  have HY := Lib.hid (aheadB_succ HX.out HA.out)
  go_upto_region 4 with fail
  cases hbit : m.testBit k
  case true =>
    have p0 : (bits BinOp.and IntKind.u64 ((m : Int) / 2 ^ k) 1 == 0) = false := by rw [bit_walk0 hm, hbit]; rfl
    have HAH := Lib.hid (show aheadB L m i o (k + 1) = false by rw [HY.out, hbit]; rfl)
    clear hbit
    have HT := Lib.hid HT.out.drew
    have HC : Hid (∀ w', Sep w w' [tBlk g8 #[.int .i64 xo, .int .i64 xb, .string xd, .int .i64 xf, .int .i64 xt, .bool xk, .int .i64 xe, .string xr] tOp] → (Blk w' g8 #[.int .i64 xo, .int .i64 xb, .string xd, .int .i64 xf, .int .i64 xt, .bool xk, .int .i64 xe, .string xr] tOp ∧ w'.cell? ⟨g8, 4, none⟩ = some (.int .i64 xt)) ∧ w'.cell? ⟨bS, 0, none⟩ = some (.slice (some ⟨gb, go, none⟩) n c) ∧ w'.cell? ⟨gb, go + i * 8 + 3, none⟩ = some (.int .i64 ofr)) := Lib.hid (fun w' h => ⟨⟨h.hd, (show Blk w' g8 _ tOp from h.hd).cell 4⟩, (HB0.out.bel h.bel).cell 0, HFR.out w' h.bel⟩)
    refine wp_region_L (fun w' => (Blk w' g8 #[.int .i64 xo, .int .i64 xb, .string xd, .int .i64 xf, .int .i64 xt, .bool xk, .int .i64 xe, .string xr] tOp ∧ w'.cell? ⟨g8, 4, none⟩ = some (.int .i64 xt)) ∧ w'.cell? ⟨bS, 0, none⟩ = some (.slice (some ⟨gb, go, none⟩) n c) ∧ w'.cell? ⟨gb, go + i * 8 + 3, none⟩ = some (.int .i64 ofr)) 27 (by kernel_rfl) (HC.out _ HT.out) (fun hHeld => ?_)
    refine reg_take (i := 0) (d := 19) (v := ?_) [] rfl rfl (by kernel_rfl) (by kernel_rfl) (fun _ _ _ h => h) (Or.inl ⟨by rfl, ?_⟩) (by assumption) ?_
    rotate_left
    · (intro w hSw; (try dsimp only at hSw); go_simp; first | done | with_reducible rfl)
    try simp only [List.setIfInBounds_toArray, List.set_cons_zero, List.set_cons_succ]
    refine reg_take (i := 1) (d := 20) (v := ?_) [] rfl rfl (by kernel_rfl) (by kernel_rfl) (fun _ _ _ h => h) (Or.inl ⟨by rfl, ?_⟩) (by assumption) ?_
    rotate_left
    · (intro w hSw; (try dsimp only at hSw); go_simp; first | done | with_reducible rfl)
    try simp only [List.setIfInBounds_toArray, List.set_cons_zero, List.set_cons_succ]
    refine reg_take (i := 2) (d := 21) (v := ?_) [] rfl rfl (by kernel_rfl) (by kernel_rfl) (fun _ _ _ h => h) (Or.inl ⟨by rfl, ?_⟩) (by assumption) ?_
    rotate_left
    · (intro w hSw; (try dsimp only at hSw); go_simp; first | done | with_reducible rfl)
    try simp only [List.setIfInBounds_toArray, List.set_cons_zero, List.set_cons_succ]
    refine reg_take (i := 3) (d := 22) (v := ?_) [] rfl rfl (by kernel_rfl) (by kernel_rfl) (fun _ _ _ h => h) (Or.inl ⟨by rfl, ?_⟩) (by assumption) ?_
    rotate_left
    · (intro w hSw; (try dsimp only at hSw); go_simp; first | done | with_reducible rfl)
    try simp only [List.setIfInBounds_toArray, List.set_cons_zero, List.set_cons_succ]
    refine reg_take (i := 4) (d := 23) (v := ?_) [] rfl rfl (by kernel_rfl) (by kernel_rfl) (fun _ _ _ h => h) (Or.inl ⟨by rfl, ?_⟩) (by assumption) ?_
    rotate_left
    · (intro w hSw; (try dsimp only at hSw); go_simp; first | done | with_reducible rfl)
    try simp only [List.setIfInBounds_toArray, List.set_cons_zero, List.set_cons_succ]
    refine reg_take (i := 5) (d := 24) (v := ?_) [] rfl rfl (by kernel_rfl) (by kernel_rfl) (fun _ _ _ h => h) (Or.inl ⟨by rfl, ?_⟩) (by assumption) ?_
    rotate_left
    · (intro w hSw; (try dsimp only at hSw); go_simp; first | done | with_reducible rfl)
    try simp only [List.setIfInBounds_toArray, List.set_cons_zero, List.set_cons_succ]
    refine reg_take (i := 6) (d := 25) (v := undef) [] rfl rfl (by kernel_rfl) (by kernel_rfl) (fun _ _ _ h => h) (Or.inr ⟨by rfl, rfl⟩) (by assumption) ?_
    try simp only [List.setIfInBounds_toArray, List.set_cons_zero, List.set_cons_succ]
    refine reg_take (i := 7) (d := 26) (v := undef) [] rfl rfl (by kernel_rfl) (by kernel_rfl) (fun _ _ _ h => h) (Or.inr ⟨by rfl, rfl⟩) (by assumption) ?_
    try simp only [List.setIfInBounds_toArray, List.set_cons_zero, List.set_cons_succ]
    refine reg_take (i := 8) (d := 27) (v := undef) [] rfl rfl (by kernel_rfl) (by kernel_rfl) (fun _ _ _ h => h) (Or.inr ⟨by rfl, rfl⟩) (by assumption) ?_
    try simp only [List.setIfInBounds_toArray, List.set_cons_zero, List.set_cons_succ]
    refine reg_take (i := 9) (d := 28) (v := ?_) [] rfl rfl (by kernel_rfl) (by kernel_rfl) (fun _ _ _ h => h) (Or.inl ⟨by rfl, ?_⟩) (by assumption) ?_
    rotate_left
    · (intro w hSw; (try dsimp only at hSw); go_simp; first | done | with_reducible rfl)
    try simp only [List.setIfInBounds_toArray, List.set_cons_zero, List.set_cons_succ]
    refine reg_take (i := 10) (d := 29) (v := ?_) [] rfl rfl (by kernel_rfl) (by kernel_rfl) (fun _ _ _ h => h) (Or.inl ⟨by rfl, ?_⟩) (by assumption) ?_
    rotate_left
    · (intro w hSw; (try dsimp only at hSw); go_simp; first | done | with_reducible rfl)
    try simp only [List.setIfInBounds_toArray, List.set_cons_zero, List.set_cons_succ]
    refine reg_take (i := 11) (d := 30) (v := undef) [] rfl rfl (by kernel_rfl) (by kernel_rfl) (fun _ _ _ h => h) (Or.inr ⟨by rfl, rfl⟩) (by assumption) ?_
    try simp only [List.setIfInBounds_toArray, List.set_cons_zero, List.set_cons_succ]
    refine reg_take (i := 12) (d := 31) (v := undef) [] rfl rfl (by kernel_rfl) (by kernel_rfl) (fun _ _ _ h => h) (Or.inr ⟨by rfl, rfl⟩) (by assumption) ?_
    try simp only [List.setIfInBounds_toArray, List.set_cons_zero, List.set_cons_succ]
    refine reg_take (i := 13) (d := 32) (v := ?_) [] rfl rfl (by kernel_rfl) (by kernel_rfl) (fun _ _ _ h => h) (Or.inl ⟨by rfl, ?_⟩) (by assumption) ?_
    rotate_left
    · (intro w hSw; (try dsimp only at hSw); go_simp; first | done | with_reducible rfl)
    try simp only [List.setIfInBounds_toArray, List.set_cons_zero, List.set_cons_succ]
    refine reg_take (i := 14) (d := 33) (v := ?_) [] rfl rfl (by kernel_rfl) (by kernel_rfl) (fun _ _ _ h => h) (Or.inl ⟨by rfl, ?_⟩) (by assumption) ?_
    rotate_left
    · (intro w hSw; (try dsimp only at hSw); go_simp; first | done | with_reducible rfl)
    try simp only [List.setIfInBounds_toArray, List.set_cons_zero, List.set_cons_succ]
    refine reg_take (i := 15) (d := 34) (v := undef) [] rfl rfl (by kernel_rfl) (by kernel_rfl) (fun _ _ _ h => h) (Or.inr ⟨by rfl, rfl⟩) (by assumption) ?_
    try simp only [List.setIfInBounds_toArray, List.set_cons_zero, List.set_cons_succ]
    refine reg_take (i := 16) (d := 35) (v := undef) [] rfl rfl (by kernel_rfl) (by kernel_rfl) (fun _ _ _ h => h) (Or.inr ⟨by rfl, rfl⟩) (by assumption) ?_
    try simp only [List.setIfInBounds_toArray, List.set_cons_zero, List.set_cons_succ]
    refine reg_take (i := 17) (d := 36) (v := undef) [] rfl rfl (by kernel_rfl) (by kernel_rfl) (fun _ _ _ h => h) (Or.inr ⟨by rfl, rfl⟩) (by assumption) ?_
    try simp only [List.setIfInBounds_toArray, List.set_cons_zero, List.set_cons_succ]
    refine reg_take (i := 18) (d := 37) (v := undef) [] rfl rfl (by kernel_rfl) (by kernel_rfl) (fun _ _ _ h => h) (Or.inr ⟨by rfl, rfl⟩) (by assumption) ?_
    try simp only [List.setIfInBounds_toArray, List.set_cons_zero, List.set_cons_succ]
    refine reg_take (i := 19) (d := 38) (v := undef) [] rfl rfl (by kernel_rfl) (by kernel_rfl) (fun _ _ _ h => h) (Or.inr ⟨by rfl, rfl⟩) (by assumption) ?_
    try simp only [List.setIfInBounds_toArray, List.set_cons_zero, List.set_cons_succ]
    refine reg_take (i := 20) (d := 39) (v := undef) [] rfl rfl (by kernel_rfl) (by kernel_rfl) (fun _ _ _ h => h) (Or.inr ⟨by rfl, rfl⟩) (by assumption) ?_
    try simp only [List.setIfInBounds_toArray, List.set_cons_zero, List.set_cons_succ]
    refine reg_take (i := 21) (d := 40) (v := undef) [] rfl rfl (by kernel_rfl) (by kernel_rfl) (fun _ _ _ h => h) (Or.inr ⟨by rfl, rfl⟩) (by assumption) ?_
    try simp only [List.setIfInBounds_toArray, List.set_cons_zero, List.set_cons_succ]
    refine reg_take (i := 22) (d := 41) (v := undef) [] rfl rfl (by kernel_rfl) (by kernel_rfl) (fun _ _ _ h => h) (Or.inr ⟨by rfl, rfl⟩) (by assumption) ?_
    try simp only [List.setIfInBounds_toArray, List.set_cons_zero, List.set_cons_succ]
    refine reg_take (i := 23) (d := 42) (v := undef) [] rfl rfl (by kernel_rfl) (by kernel_rfl) (fun _ _ _ h => h) (Or.inr ⟨by rfl, rfl⟩) (by assumption) ?_
    try simp only [List.setIfInBounds_toArray, List.set_cons_zero, List.set_cons_succ]
    refine reg_take (i := 24) (d := 43) (v := undef) [] rfl rfl (by kernel_rfl) (by kernel_rfl) (fun _ _ _ h => h) (Or.inr ⟨by rfl, rfl⟩) (by assumption) ?_
    try simp only [List.setIfInBounds_toArray, List.set_cons_zero, List.set_cons_succ]
    refine reg_take (i := 25) (d := 44) (v := undef) [] rfl rfl (by kernel_rfl) (by kernel_rfl) (fun _ _ _ h => h) (Or.inr ⟨by rfl, rfl⟩) (by assumption) ?_
    try simp only [List.setIfInBounds_toArray, List.set_cons_zero, List.set_cons_succ]
    refine reg_take (i := 26) (d := 45) (v := ?_) [] rfl rfl (by kernel_rfl) (by kernel_rfl) (fun _ _ _ h => h) (Or.inl ⟨by rfl, ?_⟩) (by assumption) ?_
    rotate_left
    · (intro w hSw; (try dsimp only at hSw); go_simp; first | done | with_reducible rfl)
    try simp only [List.setIfInBounds_toArray, List.set_cons_zero, List.set_cons_succ]
    refine wpAnyL_done (by kernel_rfl) ?_ _
    go_wp2_with fail
    go_roundg (n - (k + 1))
    case measure => omega
    case rel => exact ⟨k + 1, by push_cast; rfl, by omega, rfl, HAH.out, HT.out.bel⟩
  have p0 : (bits BinOp.and IntKind.u64 ((m : Int) / 2 ^ k) 1 == 0) = true := by rw [bit_walk0 hm, hbit]; rfl
  by_cases hki : k = i
  · have p1 : ((k : Int) != (i : Int)) = false := by rw [hki]; simp
    have HAH := Lib.hid (show aheadB L m i o (k + 1) = false by rw [HY.out, decide_eq_false (fun h => h hki)]; simp)
    clear hbit hki
    have HT := Lib.hid HT.out.drew
    have HC : Hid (∀ w', Sep w w' [tBlk g8 #[.int .i64 xo, .int .i64 xb, .string xd, .int .i64 xf, .int .i64 xt, .bool xk, .int .i64 xe, .string xr] tOp] → (Blk w' g8 #[.int .i64 xo, .int .i64 xb, .string xd, .int .i64 xf, .int .i64 xt, .bool xk, .int .i64 xe, .string xr] tOp ∧ w'.cell? ⟨g8, 4, none⟩ = some (.int .i64 xt)) ∧ w'.cell? ⟨bS, 0, none⟩ = some (.slice (some ⟨gb, go, none⟩) n c) ∧ w'.cell? ⟨gb, go + i * 8 + 3, none⟩ = some (.int .i64 ofr)) := Lib.hid (fun w' h => ⟨⟨h.hd, (show Blk w' g8 _ tOp from h.hd).cell 4⟩, (HB0.out.bel h.bel).cell 0, HFR.out w' h.bel⟩)
    refine wp_region_L (fun w' => (Blk w' g8 #[.int .i64 xo, .int .i64 xb, .string xd, .int .i64 xf, .int .i64 xt, .bool xk, .int .i64 xe, .string xr] tOp ∧ w'.cell? ⟨g8, 4, none⟩ = some (.int .i64 xt)) ∧ w'.cell? ⟨bS, 0, none⟩ = some (.slice (some ⟨gb, go, none⟩) n c) ∧ w'.cell? ⟨gb, go + i * 8 + 3, none⟩ = some (.int .i64 ofr)) 27 (by kernel_rfl) (HC.out _ HT.out) (fun hHeld => ?_)
    refine reg_take (i := 0) (d := 19) (v := ?_) [] rfl rfl (by kernel_rfl) (by kernel_rfl) (fun _ _ _ h => h) (Or.inl ⟨by rfl, ?_⟩) (by assumption) ?_
    rotate_left
    · (intro w hSw; (try dsimp only at hSw); go_simp; first | done | with_reducible rfl)
    try simp only [List.setIfInBounds_toArray, List.set_cons_zero, List.set_cons_succ]
    refine reg_take (i := 1) (d := 20) (v := ?_) [] rfl rfl (by kernel_rfl) (by kernel_rfl) (fun _ _ _ h => h) (Or.inl ⟨by rfl, ?_⟩) (by assumption) ?_
    rotate_left
    · (intro w hSw; (try dsimp only at hSw); go_simp; first | done | with_reducible rfl)
    try simp only [List.setIfInBounds_toArray, List.set_cons_zero, List.set_cons_succ]
    refine reg_take (i := 2) (d := 21) (v := ?_) [] rfl rfl (by kernel_rfl) (by kernel_rfl) (fun _ _ _ h => h) (Or.inl ⟨by rfl, ?_⟩) (by assumption) ?_
    rotate_left
    · (intro w hSw; (try dsimp only at hSw); go_simp; first | done | with_reducible rfl)
    try simp only [List.setIfInBounds_toArray, List.set_cons_zero, List.set_cons_succ]
    refine reg_take (i := 3) (d := 22) (v := ?_) [] rfl rfl (by kernel_rfl) (by kernel_rfl) (fun _ _ _ h => h) (Or.inl ⟨by rfl, ?_⟩) (by assumption) ?_
    rotate_left
    · (intro w hSw; (try dsimp only at hSw); go_simp; first | done | with_reducible rfl)
    try simp only [List.setIfInBounds_toArray, List.set_cons_zero, List.set_cons_succ]
    refine reg_take (i := 4) (d := 23) (v := ?_) [] rfl rfl (by kernel_rfl) (by kernel_rfl) (fun _ _ _ h => h) (Or.inl ⟨by rfl, ?_⟩) (by assumption) ?_
    rotate_left
    · (intro w hSw; (try dsimp only at hSw); go_simp; first | done | with_reducible rfl)
    try simp only [List.setIfInBounds_toArray, List.set_cons_zero, List.set_cons_succ]
    refine reg_take (i := 5) (d := 24) (v := ?_) [] rfl rfl (by kernel_rfl) (by kernel_rfl) (fun _ _ _ h => h) (Or.inl ⟨by rfl, ?_⟩) (by assumption) ?_
    rotate_left
    · (intro w hSw; (try dsimp only at hSw); go_simp; first | done | with_reducible rfl)
    try simp only [List.setIfInBounds_toArray, List.set_cons_zero, List.set_cons_succ]
    refine reg_take (i := 6) (d := 25) (v := ?_) [] rfl rfl (by kernel_rfl) (by kernel_rfl) (fun _ _ _ h => h) (Or.inl ⟨by rfl, ?_⟩) (by assumption) ?_
    rotate_left
    · (intro w hSw; (try dsimp only at hSw); go_simp; first | done | with_reducible rfl)
    try simp only [List.setIfInBounds_toArray, List.set_cons_zero, List.set_cons_succ]
    refine reg_take (i := 7) (d := 26) (v := ?_) [] rfl rfl (by kernel_rfl) (by kernel_rfl) (fun _ _ _ h => h) (Or.inl ⟨by rfl, ?_⟩) (by assumption) ?_
    rotate_left
    · (intro w hSw; (try dsimp only at hSw); go_simp; first | done | with_reducible rfl)
    try simp only [List.setIfInBounds_toArray, List.set_cons_zero, List.set_cons_succ]
    refine reg_take (i := 8) (d := 27) (v := ?_) [] rfl rfl (by kernel_rfl) (by kernel_rfl) (fun _ _ _ h => h) (Or.inl ⟨by rfl, ?_⟩) (by assumption) ?_
    rotate_left
    · (intro w hSw; (try dsimp only at hSw); go_simp; first | done | with_reducible rfl)
    try simp only [List.setIfInBounds_toArray, List.set_cons_zero, List.set_cons_succ]
    refine reg_take (i := 9) (d := 28) (v := ?_) [] rfl rfl (by kernel_rfl) (by kernel_rfl) (fun _ _ _ h => h) (Or.inl ⟨by rfl, ?_⟩) (by assumption) ?_
    rotate_left
    · (intro w hSw; (try dsimp only at hSw); go_simp; first | done | with_reducible rfl)
    try simp only [List.setIfInBounds_toArray, List.set_cons_zero, List.set_cons_succ]
    refine reg_take (i := 10) (d := 29) (v := ?_) [] rfl rfl (by kernel_rfl) (by kernel_rfl) (fun _ _ _ h => h) (Or.inl ⟨by rfl, ?_⟩) (by assumption) ?_
    rotate_left
    · (intro w hSw; (try dsimp only at hSw); go_simp; first | done | with_reducible rfl)
    try simp only [List.setIfInBounds_toArray, List.set_cons_zero, List.set_cons_succ]
    refine reg_take (i := 11) (d := 30) (v := undef) [] rfl rfl (by kernel_rfl) (by kernel_rfl) (fun _ _ _ h => h) (Or.inr ⟨by rfl, rfl⟩) (by assumption) ?_
    try simp only [List.setIfInBounds_toArray, List.set_cons_zero, List.set_cons_succ]
    refine reg_take (i := 12) (d := 31) (v := undef) [] rfl rfl (by kernel_rfl) (by kernel_rfl) (fun _ _ _ h => h) (Or.inr ⟨by rfl, rfl⟩) (by assumption) ?_
    try simp only [List.setIfInBounds_toArray, List.set_cons_zero, List.set_cons_succ]
    refine reg_take (i := 13) (d := 32) (v := ?_) [] rfl rfl (by kernel_rfl) (by kernel_rfl) (fun _ _ _ h => h) (Or.inl ⟨by rfl, ?_⟩) (by assumption) ?_
    rotate_left
    · (intro w hSw; (try dsimp only at hSw); go_simp; first | done | with_reducible rfl)
    try simp only [List.setIfInBounds_toArray, List.set_cons_zero, List.set_cons_succ]
    refine reg_take (i := 14) (d := 33) (v := ?_) [] rfl rfl (by kernel_rfl) (by kernel_rfl) (fun _ _ _ h => h) (Or.inl ⟨by rfl, ?_⟩) (by assumption) ?_
    rotate_left
    · (intro w hSw; (try dsimp only at hSw); go_simp; first | done | with_reducible rfl)
    try simp only [List.setIfInBounds_toArray, List.set_cons_zero, List.set_cons_succ]
    refine reg_take (i := 15) (d := 34) (v := undef) [] rfl rfl (by kernel_rfl) (by kernel_rfl) (fun _ _ _ h => h) (Or.inr ⟨by rfl, rfl⟩) (by assumption) ?_
    try simp only [List.setIfInBounds_toArray, List.set_cons_zero, List.set_cons_succ]
    refine reg_take (i := 16) (d := 35) (v := undef) [] rfl rfl (by kernel_rfl) (by kernel_rfl) (fun _ _ _ h => h) (Or.inr ⟨by rfl, rfl⟩) (by assumption) ?_
    try simp only [List.setIfInBounds_toArray, List.set_cons_zero, List.set_cons_succ]
    refine reg_take (i := 17) (d := 36) (v := undef) [] rfl rfl (by kernel_rfl) (by kernel_rfl) (fun _ _ _ h => h) (Or.inr ⟨by rfl, rfl⟩) (by assumption) ?_
    try simp only [List.setIfInBounds_toArray, List.set_cons_zero, List.set_cons_succ]
    refine reg_take (i := 18) (d := 37) (v := undef) [] rfl rfl (by kernel_rfl) (by kernel_rfl) (fun _ _ _ h => h) (Or.inr ⟨by rfl, rfl⟩) (by assumption) ?_
    try simp only [List.setIfInBounds_toArray, List.set_cons_zero, List.set_cons_succ]
    refine reg_take (i := 19) (d := 38) (v := undef) [] rfl rfl (by kernel_rfl) (by kernel_rfl) (fun _ _ _ h => h) (Or.inr ⟨by rfl, rfl⟩) (by assumption) ?_
    try simp only [List.setIfInBounds_toArray, List.set_cons_zero, List.set_cons_succ]
    refine reg_take (i := 20) (d := 39) (v := undef) [] rfl rfl (by kernel_rfl) (by kernel_rfl) (fun _ _ _ h => h) (Or.inr ⟨by rfl, rfl⟩) (by assumption) ?_
    try simp only [List.setIfInBounds_toArray, List.set_cons_zero, List.set_cons_succ]
    refine reg_take (i := 21) (d := 40) (v := undef) [] rfl rfl (by kernel_rfl) (by kernel_rfl) (fun _ _ _ h => h) (Or.inr ⟨by rfl, rfl⟩) (by assumption) ?_
    try simp only [List.setIfInBounds_toArray, List.set_cons_zero, List.set_cons_succ]
    refine reg_take (i := 22) (d := 41) (v := undef) [] rfl rfl (by kernel_rfl) (by kernel_rfl) (fun _ _ _ h => h) (Or.inr ⟨by rfl, rfl⟩) (by assumption) ?_
    try simp only [List.setIfInBounds_toArray, List.set_cons_zero, List.set_cons_succ]
    refine reg_take (i := 23) (d := 42) (v := undef) [] rfl rfl (by kernel_rfl) (by kernel_rfl) (fun _ _ _ h => h) (Or.inr ⟨by rfl, rfl⟩) (by assumption) ?_
    try simp only [List.setIfInBounds_toArray, List.set_cons_zero, List.set_cons_succ]
    refine reg_take (i := 24) (d := 43) (v := undef) [] rfl rfl (by kernel_rfl) (by kernel_rfl) (fun _ _ _ h => h) (Or.inr ⟨by rfl, rfl⟩) (by assumption) ?_
    try simp only [List.setIfInBounds_toArray, List.set_cons_zero, List.set_cons_succ]
    refine reg_take (i := 25) (d := 44) (v := undef) [] rfl rfl (by kernel_rfl) (by kernel_rfl) (fun _ _ _ h => h) (Or.inr ⟨by rfl, rfl⟩) (by assumption) ?_
    try simp only [List.setIfInBounds_toArray, List.set_cons_zero, List.set_cons_succ]
    refine reg_take (i := 26) (d := 45) (v := ?_) [] rfl rfl (by kernel_rfl) (by kernel_rfl) (fun _ _ _ h => h) (Or.inl ⟨by rfl, ?_⟩) (by assumption) ?_
    rotate_left
    · (intro w hSw; (try dsimp only at hSw); go_simp; first | done | with_reducible rfl)
    try simp only [List.setIfInBounds_toArray, List.set_cons_zero, List.set_cons_succ]
    refine wpAnyL_done (by kernel_rfl) ?_ _
    go_wp2_with fail
    go_roundg (n - (k + 1))
    case measure => omega
    case rel => exact ⟨k + 1, by push_cast; rfl, by omega, rfl, HAH.out, HT.out.bel⟩
  have p1 : ((k : Int) != (i : Int)) = true := bne_iff_ne.2 (by omega)
  cases su
  · have HAH := Lib.hid (show aheadB L m i o (k + 1) = false by rw [HY.out]; unfold ahd; rw [HSU.out]; simp)
    clear hbit hki
    have HT := Lib.hid HT.out.drew
    have HC : Hid (∀ w', Sep w w' [tBlk g8 #[.int .i64 xo, .int .i64 xb, .string xd, .int .i64 xf, .int .i64 xt, .bool xk, .int .i64 xe, .string xr] tOp] → (Blk w' g8 #[.int .i64 xo, .int .i64 xb, .string xd, .int .i64 xf, .int .i64 xt, .bool xk, .int .i64 xe, .string xr] tOp ∧ w'.cell? ⟨g8, 4, none⟩ = some (.int .i64 xt)) ∧ w'.cell? ⟨bS, 0, none⟩ = some (.slice (some ⟨gb, go, none⟩) n c) ∧ w'.cell? ⟨gb, go + i * 8 + 3, none⟩ = some (.int .i64 ofr)) := Lib.hid (fun w' h => ⟨⟨h.hd, (show Blk w' g8 _ tOp from h.hd).cell 4⟩, (HB0.out.bel h.bel).cell 0, HFR.out w' h.bel⟩)
    refine wp_region_L (fun w' => (Blk w' g8 #[.int .i64 xo, .int .i64 xb, .string xd, .int .i64 xf, .int .i64 xt, .bool xk, .int .i64 xe, .string xr] tOp ∧ w'.cell? ⟨g8, 4, none⟩ = some (.int .i64 xt)) ∧ w'.cell? ⟨bS, 0, none⟩ = some (.slice (some ⟨gb, go, none⟩) n c) ∧ w'.cell? ⟨gb, go + i * 8 + 3, none⟩ = some (.int .i64 ofr)) 27 (by kernel_rfl) (HC.out _ HT.out) (fun hHeld => ?_)
    refine reg_take (i := 0) (d := 19) (v := ?_) [] rfl rfl (by kernel_rfl) (by kernel_rfl) (fun _ _ _ h => h) (Or.inl ⟨by rfl, ?_⟩) (by assumption) ?_
    rotate_left
    · (intro w hSw; (try dsimp only at hSw); go_simp; first | done | with_reducible rfl)
    try simp only [List.setIfInBounds_toArray, List.set_cons_zero, List.set_cons_succ]
    refine reg_take (i := 1) (d := 20) (v := ?_) [] rfl rfl (by kernel_rfl) (by kernel_rfl) (fun _ _ _ h => h) (Or.inl ⟨by rfl, ?_⟩) (by assumption) ?_
    rotate_left
    · (intro w hSw; (try dsimp only at hSw); go_simp; first | done | with_reducible rfl)
    try simp only [List.setIfInBounds_toArray, List.set_cons_zero, List.set_cons_succ]
    refine reg_take (i := 2) (d := 21) (v := ?_) [] rfl rfl (by kernel_rfl) (by kernel_rfl) (fun _ _ _ h => h) (Or.inl ⟨by rfl, ?_⟩) (by assumption) ?_
    rotate_left
    · (intro w hSw; (try dsimp only at hSw); go_simp; first | done | with_reducible rfl)
    try simp only [List.setIfInBounds_toArray, List.set_cons_zero, List.set_cons_succ]
    refine reg_take (i := 3) (d := 22) (v := ?_) [] rfl rfl (by kernel_rfl) (by kernel_rfl) (fun _ _ _ h => h) (Or.inl ⟨by rfl, ?_⟩) (by assumption) ?_
    rotate_left
    · (intro w hSw; (try dsimp only at hSw); go_simp; first | done | with_reducible rfl)
    try simp only [List.setIfInBounds_toArray, List.set_cons_zero, List.set_cons_succ]
    refine reg_take (i := 4) (d := 23) (v := ?_) [] rfl rfl (by kernel_rfl) (by kernel_rfl) (fun _ _ _ h => h) (Or.inl ⟨by rfl, ?_⟩) (by assumption) ?_
    rotate_left
    · (intro w hSw; (try dsimp only at hSw); go_simp; first | done | with_reducible rfl)
    try simp only [List.setIfInBounds_toArray, List.set_cons_zero, List.set_cons_succ]
    refine reg_take (i := 5) (d := 24) (v := ?_) [] rfl rfl (by kernel_rfl) (by kernel_rfl) (fun _ _ _ h => h) (Or.inl ⟨by rfl, ?_⟩) (by assumption) ?_
    rotate_left
    · (intro w hSw; (try dsimp only at hSw); go_simp; first | done | with_reducible rfl)
    try simp only [List.setIfInBounds_toArray, List.set_cons_zero, List.set_cons_succ]
    refine reg_take (i := 6) (d := 25) (v := ?_) [] rfl rfl (by kernel_rfl) (by kernel_rfl) (fun _ _ _ h => h) (Or.inl ⟨by rfl, ?_⟩) (by assumption) ?_
    rotate_left
    · (intro w hSw; (try dsimp only at hSw); go_simp; first | done | with_reducible rfl)
    try simp only [List.setIfInBounds_toArray, List.set_cons_zero, List.set_cons_succ]
    refine reg_take (i := 7) (d := 26) (v := ?_) [] rfl rfl (by kernel_rfl) (by kernel_rfl) (fun _ _ _ h => h) (Or.inl ⟨by rfl, ?_⟩) (by assumption) ?_
    rotate_left
    · (intro w hSw; (try dsimp only at hSw); go_simp; first | done | with_reducible rfl)
    try simp only [List.setIfInBounds_toArray, List.set_cons_zero, List.set_cons_succ]
    refine reg_take (i := 8) (d := 27) (v := ?_) [] rfl rfl (by kernel_rfl) (by kernel_rfl) (fun _ _ _ h => h) (Or.inl ⟨by rfl, ?_⟩) (by assumption) ?_
    rotate_left
    · (intro w hSw; (try dsimp only at hSw); go_simp; first | done | with_reducible rfl)
    try simp only [List.setIfInBounds_toArray, List.set_cons_zero, List.set_cons_succ]
    refine reg_take (i := 9) (d := 28) (v := ?_) [] rfl rfl (by kernel_rfl) (by kernel_rfl) (fun _ _ _ h => h) (Or.inl ⟨by rfl, ?_⟩) (by assumption) ?_
    rotate_left
    · (intro w hSw; (try dsimp only at hSw); go_simp; first | done | with_reducible rfl)
    try simp only [List.setIfInBounds_toArray, List.set_cons_zero, List.set_cons_succ]
    refine reg_take (i := 10) (d := 29) (v := ?_) [] rfl rfl (by kernel_rfl) (by kernel_rfl) (fun _ _ _ h => h) (Or.inl ⟨by rfl, ?_⟩) (by assumption) ?_
    rotate_left
    · (intro w hSw; (try dsimp only at hSw); go_simp; first | done | with_reducible rfl)
    try simp only [List.setIfInBounds_toArray, List.set_cons_zero, List.set_cons_succ]
    refine reg_take (i := 11) (d := 30) (v := .agg #[.int .i64 xo, .int .i64 xb, .string xd, .int .i64 xf, .int .i64 xt, .bool xk, .int .i64 xe, .string xr]) [] rfl rfl (by kernel_rfl) (by kernel_rfl) (fun _ _ _ h => h) (yields_row _ (by rfl) (.tmp 8) rfl rfl (fun w h => h.1.1) Try.underlying44 rfl infoOp) (by assumption) ?_
    try simp only [List.setIfInBounds_toArray, List.set_cons_zero, List.set_cons_succ]
    refine wpAnyL_ready (rs := [12]) (by kernel_rfl) rfl ?_
    refine (AllL.cons rfl (fun K hK => ?_) AllL.nil)
    go_simp
    go_at_call 26
    refine (sure_any ⟨xo, xb, xd, xf, xt, xk, xe, xr⟩ _).mono ?_
    rw [HSU.out]
    rintro e5 w5 ⟨rfl, hB⟩
    have HT := Lib.hid (HT.out.step hB)
    clear hB
    go_simp
    refine hK.out _ _ (HC.out _ HT.out) (fun hHeld => ?_)
    try simp only [List.setIfInBounds_toArray, List.set_cons_zero, List.set_cons_succ]
    refine reg_take (i := 13) (d := 32) (v := ?_) [] rfl rfl (by kernel_rfl) (by kernel_rfl) (fun _ _ _ h => h) (Or.inl ⟨by rfl, ?_⟩) (by assumption) ?_
    rotate_left
    · (intro w hSw; (try dsimp only at hSw); go_simp; first | done | with_reducible rfl)
    try simp only [List.setIfInBounds_toArray, List.set_cons_zero, List.set_cons_succ]
    refine reg_take (i := 14) (d := 33) (v := ?_) [] rfl rfl (by kernel_rfl) (by kernel_rfl) (fun _ _ _ h => h) (Or.inl ⟨by rfl, ?_⟩) (by assumption) ?_
    rotate_left
    · (intro w hSw; (try dsimp only at hSw); go_simp; first | done | with_reducible rfl)
    try simp only [List.setIfInBounds_toArray, List.set_cons_zero, List.set_cons_succ]
    refine reg_take (i := 15) (d := 34) (v := undef) [] rfl rfl (by kernel_rfl) (by kernel_rfl) (fun _ _ _ h => h) (Or.inr ⟨by rfl, rfl⟩) (by assumption) ?_
    try simp only [List.setIfInBounds_toArray, List.set_cons_zero, List.set_cons_succ]
    refine reg_take (i := 16) (d := 35) (v := undef) [] rfl rfl (by kernel_rfl) (by kernel_rfl) (fun _ _ _ h => h) (Or.inr ⟨by rfl, rfl⟩) (by assumption) ?_
    try simp only [List.setIfInBounds_toArray, List.set_cons_zero, List.set_cons_succ]
    refine reg_take (i := 17) (d := 36) (v := undef) [] rfl rfl (by kernel_rfl) (by kernel_rfl) (fun _ _ _ h => h) (Or.inr ⟨by rfl, rfl⟩) (by assumption) ?_
    try simp only [List.setIfInBounds_toArray, List.set_cons_zero, List.set_cons_succ]
    refine reg_take (i := 18) (d := 37) (v := undef) [] rfl rfl (by kernel_rfl) (by kernel_rfl) (fun _ _ _ h => h) (Or.inr ⟨by rfl, rfl⟩) (by assumption) ?_
    try simp only [List.setIfInBounds_toArray, List.set_cons_zero, List.set_cons_succ]
    refine reg_take (i := 19) (d := 38) (v := undef) [] rfl rfl (by kernel_rfl) (by kernel_rfl) (fun _ _ _ h => h) (Or.inr ⟨by rfl, rfl⟩) (by assumption) ?_
    try simp only [List.setIfInBounds_toArray, List.set_cons_zero, List.set_cons_succ]
    refine reg_take (i := 20) (d := 39) (v := undef) [] rfl rfl (by kernel_rfl) (by kernel_rfl) (fun _ _ _ h => h) (Or.inr ⟨by rfl, rfl⟩) (by assumption) ?_
    try simp only [List.setIfInBounds_toArray, List.set_cons_zero, List.set_cons_succ]
    refine reg_take (i := 21) (d := 40) (v := undef) [] rfl rfl (by kernel_rfl) (by kernel_rfl) (fun _ _ _ h => h) (Or.inr ⟨by rfl, rfl⟩) (by assumption) ?_
    try simp only [List.setIfInBounds_toArray, List.set_cons_zero, List.set_cons_succ]
    refine reg_take (i := 22) (d := 41) (v := undef) [] rfl rfl (by kernel_rfl) (by kernel_rfl) (fun _ _ _ h => h) (Or.inr ⟨by rfl, rfl⟩) (by assumption) ?_
    try simp only [List.setIfInBounds_toArray, List.set_cons_zero, List.set_cons_succ]
    refine reg_take (i := 23) (d := 42) (v := undef) [] rfl rfl (by kernel_rfl) (by kernel_rfl) (fun _ _ _ h => h) (Or.inr ⟨by rfl, rfl⟩) (by assumption) ?_
    try simp only [List.setIfInBounds_toArray, List.set_cons_zero, List.set_cons_succ]
    refine reg_take (i := 24) (d := 43) (v := undef) [] rfl rfl (by kernel_rfl) (by kernel_rfl) (fun _ _ _ h => h) (Or.inr ⟨by rfl, rfl⟩) (by assumption) ?_
    try simp only [List.setIfInBounds_toArray, List.set_cons_zero, List.set_cons_succ]
    refine reg_take (i := 25) (d := 44) (v := undef) [] rfl rfl (by kernel_rfl) (by kernel_rfl) (fun _ _ _ h => h) (Or.inr ⟨by rfl, rfl⟩) (by assumption) ?_
    try simp only [List.setIfInBounds_toArray, List.set_cons_zero, List.set_cons_succ]
    refine reg_take (i := 26) (d := 45) (v := ?_) [] rfl rfl (by kernel_rfl) (by kernel_rfl) (fun _ _ _ h => h) (Or.inl ⟨by rfl, ?_⟩) (by assumption) ?_
    rotate_left
    · (intro w hSw; (try dsimp only at hSw); go_simp; first | done | with_reducible rfl)
    try simp only [List.setIfInBounds_toArray, List.set_cons_zero, List.set_cons_succ]
    refine wpAnyL_done (by kernel_rfl) ?_ _
    go_wp2_with fail
    go_roundg (n - (k + 1))
    case measure => omega
    case rel => exact ⟨k + 1, by push_cast; rfl, by omega, rfl, HAH.out, HT.out.bel⟩
  by_cases hlt : xt < ofr
  · have p2 : decide (xt < ofr) = true := decide_eq_true hlt
    have HYE := Lib.hid (show Ending.returned (.bool true) = Ending.returned (.bool (aheadB L m i o n)) by
      rw [aheadB_mono (k := k + 1) (by rw [HY.out, hbit, decide_eq_true hki]; unfold ahd; rw [HSU.out, HO.out.2, p2]; rfl) n (by omega)])
    clear hbit hki
    have HT := Lib.hid HT.out.drew
    have HC : Hid (∀ w', Sep w w' [tBlk g8 #[.int .i64 xo, .int .i64 xb, .string xd, .int .i64 xf, .int .i64 xt, .bool xk, .int .i64 xe, .string xr] tOp] → (Blk w' g8 #[.int .i64 xo, .int .i64 xb, .string xd, .int .i64 xf, .int .i64 xt, .bool xk, .int .i64 xe, .string xr] tOp ∧ w'.cell? ⟨g8, 4, none⟩ = some (.int .i64 xt)) ∧ w'.cell? ⟨bS, 0, none⟩ = some (.slice (some ⟨gb, go, none⟩) n c) ∧ w'.cell? ⟨gb, go + i * 8 + 3, none⟩ = some (.int .i64 ofr)) := Lib.hid (fun w' h => ⟨⟨h.hd, (show Blk w' g8 _ tOp from h.hd).cell 4⟩, (HB0.out.bel h.bel).cell 0, HFR.out w' h.bel⟩)
    refine wp_region_L (fun w' => (Blk w' g8 #[.int .i64 xo, .int .i64 xb, .string xd, .int .i64 xf, .int .i64 xt, .bool xk, .int .i64 xe, .string xr] tOp ∧ w'.cell? ⟨g8, 4, none⟩ = some (.int .i64 xt)) ∧ w'.cell? ⟨bS, 0, none⟩ = some (.slice (some ⟨gb, go, none⟩) n c) ∧ w'.cell? ⟨gb, go + i * 8 + 3, none⟩ = some (.int .i64 ofr)) 27 (by kernel_rfl) (HC.out _ HT.out) (fun hHeld => ?_)
    refine reg_take (i := 0) (d := 19) (v := ?_) [] rfl rfl (by kernel_rfl) (by kernel_rfl) (fun _ _ _ h => h) (Or.inl ⟨by rfl, ?_⟩) (by assumption) ?_
    rotate_left
    · (intro w hSw; (try dsimp only at hSw); go_simp; first | done | with_reducible rfl)
    try simp only [List.setIfInBounds_toArray, List.set_cons_zero, List.set_cons_succ]
    refine reg_take (i := 1) (d := 20) (v := ?_) [] rfl rfl (by kernel_rfl) (by kernel_rfl) (fun _ _ _ h => h) (Or.inl ⟨by rfl, ?_⟩) (by assumption) ?_
    rotate_left
    · (intro w hSw; (try dsimp only at hSw); go_simp; first | done | with_reducible rfl)
    try simp only [List.setIfInBounds_toArray, List.set_cons_zero, List.set_cons_succ]
    refine reg_take (i := 2) (d := 21) (v := ?_) [] rfl rfl (by kernel_rfl) (by kernel_rfl) (fun _ _ _ h => h) (Or.inl ⟨by rfl, ?_⟩) (by assumption) ?_
    rotate_left
    · (intro w hSw; (try dsimp only at hSw); go_simp; first | done | with_reducible rfl)
    try simp only [List.setIfInBounds_toArray, List.set_cons_zero, List.set_cons_succ]
    refine reg_take (i := 3) (d := 22) (v := ?_) [] rfl rfl (by kernel_rfl) (by kernel_rfl) (fun _ _ _ h => h) (Or.inl ⟨by rfl, ?_⟩) (by assumption) ?_
    rotate_left
    · (intro w hSw; (try dsimp only at hSw); go_simp; first | done | with_reducible rfl)
    try simp only [List.setIfInBounds_toArray, List.set_cons_zero, List.set_cons_succ]
    refine reg_take (i := 4) (d := 23) (v := ?_) [] rfl rfl (by kernel_rfl) (by kernel_rfl) (fun _ _ _ h => h) (Or.inl ⟨by rfl, ?_⟩) (by assumption) ?_
    rotate_left
    · (intro w hSw; (try dsimp only at hSw); go_simp; first | done | with_reducible rfl)
    try simp only [List.setIfInBounds_toArray, List.set_cons_zero, List.set_cons_succ]
    refine reg_take (i := 5) (d := 24) (v := ?_) [] rfl rfl (by kernel_rfl) (by kernel_rfl) (fun _ _ _ h => h) (Or.inl ⟨by rfl, ?_⟩) (by assumption) ?_
    rotate_left
    · (intro w hSw; (try dsimp only at hSw); go_simp; first | done | with_reducible rfl)
    try simp only [List.setIfInBounds_toArray, List.set_cons_zero, List.set_cons_succ]
    refine reg_take (i := 6) (d := 25) (v := ?_) [] rfl rfl (by kernel_rfl) (by kernel_rfl) (fun _ _ _ h => h) (Or.inl ⟨by rfl, ?_⟩) (by assumption) ?_
    rotate_left
    · (intro w hSw; (try dsimp only at hSw); go_simp; first | done | with_reducible rfl)
    try simp only [List.setIfInBounds_toArray, List.set_cons_zero, List.set_cons_succ]
    refine reg_take (i := 7) (d := 26) (v := ?_) [] rfl rfl (by kernel_rfl) (by kernel_rfl) (fun _ _ _ h => h) (Or.inl ⟨by rfl, ?_⟩) (by assumption) ?_
    rotate_left
    · (intro w hSw; (try dsimp only at hSw); go_simp; first | done | with_reducible rfl)
    try simp only [List.setIfInBounds_toArray, List.set_cons_zero, List.set_cons_succ]
    refine reg_take (i := 8) (d := 27) (v := ?_) [] rfl rfl (by kernel_rfl) (by kernel_rfl) (fun _ _ _ h => h) (Or.inl ⟨by rfl, ?_⟩) (by assumption) ?_
    rotate_left
    · (intro w hSw; (try dsimp only at hSw); go_simp; first | done | with_reducible rfl)
    try simp only [List.setIfInBounds_toArray, List.set_cons_zero, List.set_cons_succ]
    refine reg_take (i := 9) (d := 28) (v := ?_) [] rfl rfl (by kernel_rfl) (by kernel_rfl) (fun _ _ _ h => h) (Or.inl ⟨by rfl, ?_⟩) (by assumption) ?_
    rotate_left
    · (intro w hSw; (try dsimp only at hSw); go_simp; first | done | with_reducible rfl)
    try simp only [List.setIfInBounds_toArray, List.set_cons_zero, List.set_cons_succ]
    refine reg_take (i := 10) (d := 29) (v := ?_) [] rfl rfl (by kernel_rfl) (by kernel_rfl) (fun _ _ _ h => h) (Or.inl ⟨by rfl, ?_⟩) (by assumption) ?_
    rotate_left
    · (intro w hSw; (try dsimp only at hSw); go_simp; first | done | with_reducible rfl)
    try simp only [List.setIfInBounds_toArray, List.set_cons_zero, List.set_cons_succ]
    refine reg_take (i := 11) (d := 30) (v := .agg #[.int .i64 xo, .int .i64 xb, .string xd, .int .i64 xf, .int .i64 xt, .bool xk, .int .i64 xe, .string xr]) [] rfl rfl (by kernel_rfl) (by kernel_rfl) (fun _ _ _ h => h) (yields_row _ (by rfl) (.tmp 8) rfl rfl (fun w h => h.1.1) Try.underlying44 rfl infoOp) (by assumption) ?_
    try simp only [List.setIfInBounds_toArray, List.set_cons_zero, List.set_cons_succ]
    refine wpAnyL_ready (rs := [12]) (by kernel_rfl) rfl ?_
    refine (AllL.cons rfl (fun K hK => ?_) AllL.nil)
    go_simp
    go_at_call 26
    refine (sure_any ⟨xo, xb, xd, xf, xt, xk, xe, xr⟩ _).mono ?_
    rw [HSU.out]
    rintro e5 w5 ⟨rfl, hB⟩
    have HT := Lib.hid (HT.out.step hB)
    clear hB
    go_simp
    refine hK.out _ _ (HC.out _ HT.out) (fun hHeld => ?_)
    try simp only [List.setIfInBounds_toArray, List.set_cons_zero, List.set_cons_succ]
    refine reg_take (i := 13) (d := 32) (v := ?_) [] rfl rfl (by kernel_rfl) (by kernel_rfl) (fun _ _ _ h => h) (Or.inl ⟨by rfl, ?_⟩) (by assumption) ?_
    rotate_left
    · (intro w hSw; (try dsimp only at hSw); go_simp; first | done | with_reducible rfl)
    try simp only [List.setIfInBounds_toArray, List.set_cons_zero, List.set_cons_succ]
    refine reg_take (i := 14) (d := 33) (v := ?_) [] rfl rfl (by kernel_rfl) (by kernel_rfl) (fun _ _ _ h => h) (Or.inl ⟨by rfl, ?_⟩) (by assumption) ?_
    rotate_left
    · (intro w hSw; (try dsimp only at hSw); go_simp; first | done | with_reducible rfl)
    try simp only [List.setIfInBounds_toArray, List.set_cons_zero, List.set_cons_succ]
    refine reg_take (i := 15) (d := 34) (v := ?_) [] rfl rfl (by kernel_rfl) (by kernel_rfl) (fun _ _ _ h => h) (Or.inl ⟨by rfl, ?_⟩) (by assumption) ?_
    rotate_left
    · (intro w hSw; (try dsimp only at hSw); go_simp; first | done | with_reducible rfl)
    try simp only [List.setIfInBounds_toArray, List.set_cons_zero, List.set_cons_succ]
    refine reg_take (i := 16) (d := 35) (v := ?_) [] rfl rfl (by kernel_rfl) (by kernel_rfl) (fun _ _ _ h => h) (Or.inl ⟨by rfl, ?_⟩) (by assumption) ?_
    rotate_left
    · (intro w hSw; (try dsimp only at hSw); go_simp; first | done | with_reducible rfl)
    try simp only [List.setIfInBounds_toArray, List.set_cons_zero, List.set_cons_succ]
    refine reg_take (i := 17) (d := 36) (v := ?_) [] rfl rfl (by kernel_rfl) (by kernel_rfl) (fun _ _ _ h => h) (Or.inl ⟨by rfl, ?_⟩) (by assumption) ?_
    rotate_left
    · (intro w hSw; (try dsimp only at hSw); go_simp; first | done | with_reducible rfl)
    try simp only [List.setIfInBounds_toArray, List.set_cons_zero, List.set_cons_succ]
    refine reg_take (i := 18) (d := 37) (v := ?_) [] rfl rfl (by kernel_rfl) (by kernel_rfl) (fun _ _ _ h => h) (Or.inl ⟨by rfl, ?_⟩) (by assumption) ?_
    rotate_left
    · (intro w hSw; (try dsimp only at hSw); go_simp; first | done | with_reducible rfl)
    try simp only [List.setIfInBounds_toArray, List.set_cons_zero, List.set_cons_succ]
    refine reg_take (i := 19) (d := 38) (v := ?_) [] rfl rfl (by kernel_rfl) (by kernel_rfl) (fun _ _ _ h => h) (Or.inl ⟨by rfl, ?_⟩) (by assumption) ?_
    rotate_left
    · (intro w hSw; (try dsimp only at hSw); go_simp; first | done | with_reducible rfl)
    try simp only [List.setIfInBounds_toArray, List.set_cons_zero, List.set_cons_succ]
    refine reg_take (i := 20) (d := 39) (v := ?_) [] rfl rfl (by kernel_rfl) (by kernel_rfl) (fun _ _ _ h => h) (Or.inl ⟨by rfl, ?_⟩) (by assumption) ?_
    rotate_left
    · (intro w hSw; (try dsimp only at hSw); go_simp; first | done | with_reducible rfl)
    try simp only [List.setIfInBounds_toArray, List.set_cons_zero, List.set_cons_succ]
    refine reg_take (i := 21) (d := 40) (v := ?_) [] rfl rfl (by kernel_rfl) (by kernel_rfl) (fun _ _ _ h => h) (Or.inl ⟨by rfl, ?_⟩) (by assumption) ?_
    rotate_left
    · (intro w hSw; (try dsimp only at hSw); go_simp; first | done | with_reducible rfl)
    try simp only [List.setIfInBounds_toArray, List.set_cons_zero, List.set_cons_succ]
    refine reg_take (i := 22) (d := 41) (v := ?_) [] rfl rfl (by kernel_rfl) (by kernel_rfl) (fun _ _ _ h => h) (Or.inl ⟨by rfl, ?_⟩) (by assumption) ?_
    rotate_left
    · (intro w hSw; (try dsimp only at hSw); go_simp; first | done | with_reducible rfl)
    try simp only [List.setIfInBounds_toArray, List.set_cons_zero, List.set_cons_succ]
    refine reg_take (i := 23) (d := 42) (v := ?_) [] rfl rfl (by kernel_rfl) (by kernel_rfl) (fun _ _ _ h => h) (Or.inl ⟨by rfl, ?_⟩) (by assumption) ?_
    rotate_left
    · (intro w hSw; (try dsimp only at hSw); go_simp; first | done | with_reducible rfl)
    try simp only [List.setIfInBounds_toArray, List.set_cons_zero, List.set_cons_succ]
    refine reg_take (i := 24) (d := 43) (v := ?_) [] rfl rfl (by kernel_rfl) (by kernel_rfl) (fun _ _ _ h => h) (Or.inl ⟨by rfl, ?_⟩) (by assumption) ?_
    rotate_left
    · (intro w hSw; (try dsimp only at hSw); go_simp; first | done | with_reducible rfl)
    try simp only [List.setIfInBounds_toArray, List.set_cons_zero, List.set_cons_succ]
    refine reg_take (i := 25) (d := 44) (v := ?_) [] rfl rfl (by kernel_rfl) (by kernel_rfl) (fun _ _ _ h => h) (Or.inl ⟨by rfl, ?_⟩) (by assumption) ?_
    rotate_left
    · (intro w hSw; (try dsimp only at hSw); go_simp; first | done | with_reducible rfl)
    try simp only [List.setIfInBounds_toArray, List.set_cons_zero, List.set_cons_succ]
    refine reg_take (i := 26) (d := 45) (v := ?_) [] rfl rfl (by kernel_rfl) (by kernel_rfl) (fun _ _ _ h => h) (Or.inl ⟨by rfl, ?_⟩) (by assumption) ?_
    rotate_left
    · (intro w hSw; (try dsimp only at hSw); go_simp; first | done | with_reducible rfl)
    try simp only [List.setIfInBounds_toArray, List.set_cons_zero, List.set_cons_succ]
    refine wpAnyL_done (by kernel_rfl) ?_ _
    go_wp2_with fail
    go_ret
    exact ⟨HYE.out, HT.out.bel⟩
  · have p2 : decide (xt < ofr) = false := decide_eq_false hlt
    have HAH := Lib.hid (show aheadB L m i o (k + 1) = false by rw [HY.out]; unfold ahd; rw [HO.out.2]; simp only [p2, Bool.and_false])
    clear hbit hki
    have HT := Lib.hid HT.out.drew
    have HC : Hid (∀ w', Sep w w' [tBlk g8 #[.int .i64 xo, .int .i64 xb, .string xd, .int .i64 xf, .int .i64 xt, .bool xk, .int .i64 xe, .string xr] tOp] → (Blk w' g8 #[.int .i64 xo, .int .i64 xb, .string xd, .int .i64 xf, .int .i64 xt, .bool xk, .int .i64 xe, .string xr] tOp ∧ w'.cell? ⟨g8, 4, none⟩ = some (.int .i64 xt)) ∧ w'.cell? ⟨bS, 0, none⟩ = some (.slice (some ⟨gb, go, none⟩) n c) ∧ w'.cell? ⟨gb, go + i * 8 + 3, none⟩ = some (.int .i64 ofr)) := Lib.hid (fun w' h => ⟨⟨h.hd, (show Blk w' g8 _ tOp from h.hd).cell 4⟩, (HB0.out.bel h.bel).cell 0, HFR.out w' h.bel⟩)
    refine wp_region_L (fun w' => (Blk w' g8 #[.int .i64 xo, .int .i64 xb, .string xd, .int .i64 xf, .int .i64 xt, .bool xk, .int .i64 xe, .string xr] tOp ∧ w'.cell? ⟨g8, 4, none⟩ = some (.int .i64 xt)) ∧ w'.cell? ⟨bS, 0, none⟩ = some (.slice (some ⟨gb, go, none⟩) n c) ∧ w'.cell? ⟨gb, go + i * 8 + 3, none⟩ = some (.int .i64 ofr)) 27 (by kernel_rfl) (HC.out _ HT.out) (fun hHeld => ?_)
    refine reg_take (i := 0) (d := 19) (v := ?_) [] rfl rfl (by kernel_rfl) (by kernel_rfl) (fun _ _ _ h => h) (Or.inl ⟨by rfl, ?_⟩) (by assumption) ?_
    rotate_left
    · (intro w hSw; (try dsimp only at hSw); go_simp; first | done | with_reducible rfl)
    try simp only [List.setIfInBounds_toArray, List.set_cons_zero, List.set_cons_succ]
    refine reg_take (i := 1) (d := 20) (v := ?_) [] rfl rfl (by kernel_rfl) (by kernel_rfl) (fun _ _ _ h => h) (Or.inl ⟨by rfl, ?_⟩) (by assumption) ?_
    rotate_left
    · (intro w hSw; (try dsimp only at hSw); go_simp; first | done | with_reducible rfl)
    try simp only [List.setIfInBounds_toArray, List.set_cons_zero, List.set_cons_succ]
    refine reg_take (i := 2) (d := 21) (v := ?_) [] rfl rfl (by kernel_rfl) (by kernel_rfl) (fun _ _ _ h => h) (Or.inl ⟨by rfl, ?_⟩) (by assumption) ?_
    rotate_left
    · (intro w hSw; (try dsimp only at hSw); go_simp; first | done | with_reducible rfl)
    try simp only [List.setIfInBounds_toArray, List.set_cons_zero, List.set_cons_succ]
    refine reg_take (i := 3) (d := 22) (v := ?_) [] rfl rfl (by kernel_rfl) (by kernel_rfl) (fun _ _ _ h => h) (Or.inl ⟨by rfl, ?_⟩) (by assumption) ?_
    rotate_left
    · (intro w hSw; (try dsimp only at hSw); go_simp; first | done | with_reducible rfl)
    try simp only [List.setIfInBounds_toArray, List.set_cons_zero, List.set_cons_succ]
    refine reg_take (i := 4) (d := 23) (v := ?_) [] rfl rfl (by kernel_rfl) (by kernel_rfl) (fun _ _ _ h => h) (Or.inl ⟨by rfl, ?_⟩) (by assumption) ?_
    rotate_left
    · (intro w hSw; (try dsimp only at hSw); go_simp; first | done | with_reducible rfl)
    try simp only [List.setIfInBounds_toArray, List.set_cons_zero, List.set_cons_succ]
    refine reg_take (i := 5) (d := 24) (v := ?_) [] rfl rfl (by kernel_rfl) (by kernel_rfl) (fun _ _ _ h => h) (Or.inl ⟨by rfl, ?_⟩) (by assumption) ?_
    rotate_left
    · (intro w hSw; (try dsimp only at hSw); go_simp; first | done | with_reducible rfl)
    try simp only [List.setIfInBounds_toArray, List.set_cons_zero, List.set_cons_succ]
    refine reg_take (i := 6) (d := 25) (v := ?_) [] rfl rfl (by kernel_rfl) (by kernel_rfl) (fun _ _ _ h => h) (Or.inl ⟨by rfl, ?_⟩) (by assumption) ?_
    rotate_left
    · (intro w hSw; (try dsimp only at hSw); go_simp; first | done | with_reducible rfl)
    try simp only [List.setIfInBounds_toArray, List.set_cons_zero, List.set_cons_succ]
    refine reg_take (i := 7) (d := 26) (v := ?_) [] rfl rfl (by kernel_rfl) (by kernel_rfl) (fun _ _ _ h => h) (Or.inl ⟨by rfl, ?_⟩) (by assumption) ?_
    rotate_left
    · (intro w hSw; (try dsimp only at hSw); go_simp; first | done | with_reducible rfl)
    try simp only [List.setIfInBounds_toArray, List.set_cons_zero, List.set_cons_succ]
    refine reg_take (i := 8) (d := 27) (v := ?_) [] rfl rfl (by kernel_rfl) (by kernel_rfl) (fun _ _ _ h => h) (Or.inl ⟨by rfl, ?_⟩) (by assumption) ?_
    rotate_left
    · (intro w hSw; (try dsimp only at hSw); go_simp; first | done | with_reducible rfl)
    try simp only [List.setIfInBounds_toArray, List.set_cons_zero, List.set_cons_succ]
    refine reg_take (i := 9) (d := 28) (v := ?_) [] rfl rfl (by kernel_rfl) (by kernel_rfl) (fun _ _ _ h => h) (Or.inl ⟨by rfl, ?_⟩) (by assumption) ?_
    rotate_left
    · (intro w hSw; (try dsimp only at hSw); go_simp; first | done | with_reducible rfl)
    try simp only [List.setIfInBounds_toArray, List.set_cons_zero, List.set_cons_succ]
    refine reg_take (i := 10) (d := 29) (v := ?_) [] rfl rfl (by kernel_rfl) (by kernel_rfl) (fun _ _ _ h => h) (Or.inl ⟨by rfl, ?_⟩) (by assumption) ?_
    rotate_left
    · (intro w hSw; (try dsimp only at hSw); go_simp; first | done | with_reducible rfl)
    try simp only [List.setIfInBounds_toArray, List.set_cons_zero, List.set_cons_succ]
    refine reg_take (i := 11) (d := 30) (v := .agg #[.int .i64 xo, .int .i64 xb, .string xd, .int .i64 xf, .int .i64 xt, .bool xk, .int .i64 xe, .string xr]) [] rfl rfl (by kernel_rfl) (by kernel_rfl) (fun _ _ _ h => h) (yields_row _ (by rfl) (.tmp 8) rfl rfl (fun w h => h.1.1) Try.underlying44 rfl infoOp) (by assumption) ?_
    try simp only [List.setIfInBounds_toArray, List.set_cons_zero, List.set_cons_succ]
    refine wpAnyL_ready (rs := [12]) (by kernel_rfl) rfl ?_
    refine (AllL.cons rfl (fun K hK => ?_) AllL.nil)
    go_simp
    go_at_call 26
    refine (sure_any ⟨xo, xb, xd, xf, xt, xk, xe, xr⟩ _).mono ?_
    rw [HSU.out]
    rintro e5 w5 ⟨rfl, hB⟩
    have HT := Lib.hid (HT.out.step hB)
    clear hB
    go_simp
    refine hK.out _ _ (HC.out _ HT.out) (fun hHeld => ?_)
    try simp only [List.setIfInBounds_toArray, List.set_cons_zero, List.set_cons_succ]
    refine reg_take (i := 13) (d := 32) (v := ?_) [] rfl rfl (by kernel_rfl) (by kernel_rfl) (fun _ _ _ h => h) (Or.inl ⟨by rfl, ?_⟩) (by assumption) ?_
    rotate_left
    · (intro w hSw; (try dsimp only at hSw); go_simp; first | done | with_reducible rfl)
    try simp only [List.setIfInBounds_toArray, List.set_cons_zero, List.set_cons_succ]
    refine reg_take (i := 14) (d := 33) (v := ?_) [] rfl rfl (by kernel_rfl) (by kernel_rfl) (fun _ _ _ h => h) (Or.inl ⟨by rfl, ?_⟩) (by assumption) ?_
    rotate_left
    · (intro w hSw; (try dsimp only at hSw); go_simp; first | done | with_reducible rfl)
    try simp only [List.setIfInBounds_toArray, List.set_cons_zero, List.set_cons_succ]
    refine reg_take (i := 15) (d := 34) (v := ?_) [] rfl rfl (by kernel_rfl) (by kernel_rfl) (fun _ _ _ h => h) (Or.inl ⟨by rfl, ?_⟩) (by assumption) ?_
    rotate_left
    · (intro w hSw; (try dsimp only at hSw); go_simp; first | done | with_reducible rfl)
    try simp only [List.setIfInBounds_toArray, List.set_cons_zero, List.set_cons_succ]
    refine reg_take (i := 16) (d := 35) (v := ?_) [] rfl rfl (by kernel_rfl) (by kernel_rfl) (fun _ _ _ h => h) (Or.inl ⟨by rfl, ?_⟩) (by assumption) ?_
    rotate_left
    · (intro w hSw; (try dsimp only at hSw); go_simp; first | done | with_reducible rfl)
    try simp only [List.setIfInBounds_toArray, List.set_cons_zero, List.set_cons_succ]
    refine reg_take (i := 17) (d := 36) (v := ?_) [] rfl rfl (by kernel_rfl) (by kernel_rfl) (fun _ _ _ h => h) (Or.inl ⟨by rfl, ?_⟩) (by assumption) ?_
    rotate_left
    · (intro w hSw; (try dsimp only at hSw); go_simp; first | done | with_reducible rfl)
    try simp only [List.setIfInBounds_toArray, List.set_cons_zero, List.set_cons_succ]
    refine reg_take (i := 18) (d := 37) (v := ?_) [] rfl rfl (by kernel_rfl) (by kernel_rfl) (fun _ _ _ h => h) (Or.inl ⟨by rfl, ?_⟩) (by assumption) ?_
    rotate_left
    · (intro w hSw; (try dsimp only at hSw); go_simp; first | done | with_reducible rfl)
    try simp only [List.setIfInBounds_toArray, List.set_cons_zero, List.set_cons_succ]
    refine reg_take (i := 19) (d := 38) (v := ?_) [] rfl rfl (by kernel_rfl) (by kernel_rfl) (fun _ _ _ h => h) (Or.inl ⟨by rfl, ?_⟩) (by assumption) ?_
    rotate_left
    · (intro w hSw; (try dsimp only at hSw); go_simp; first | done | with_reducible rfl)
    try simp only [List.setIfInBounds_toArray, List.set_cons_zero, List.set_cons_succ]
    refine reg_take (i := 20) (d := 39) (v := ?_) [] rfl rfl (by kernel_rfl) (by kernel_rfl) (fun _ _ _ h => h) (Or.inl ⟨by rfl, ?_⟩) (by assumption) ?_
    rotate_left
    · (intro w hSw; (try dsimp only at hSw); go_simp; first | done | with_reducible rfl)
    try simp only [List.setIfInBounds_toArray, List.set_cons_zero, List.set_cons_succ]
    refine reg_take (i := 21) (d := 40) (v := ?_) [] rfl rfl (by kernel_rfl) (by kernel_rfl) (fun _ _ _ h => h) (Or.inl ⟨by rfl, ?_⟩) (by assumption) ?_
    rotate_left
    · (intro w hSw; (try dsimp only at hSw); go_simp; first | done | with_reducible rfl)
    try simp only [List.setIfInBounds_toArray, List.set_cons_zero, List.set_cons_succ]
    refine reg_take (i := 22) (d := 41) (v := ?_) [] rfl rfl (by kernel_rfl) (by kernel_rfl) (fun _ _ _ h => h) (Or.inl ⟨by rfl, ?_⟩) (by assumption) ?_
    rotate_left
    · (intro w hSw; (try dsimp only at hSw); go_simp; first | done | with_reducible rfl)
    try simp only [List.setIfInBounds_toArray, List.set_cons_zero, List.set_cons_succ]
    refine reg_take (i := 23) (d := 42) (v := ?_) [] rfl rfl (by kernel_rfl) (by kernel_rfl) (fun _ _ _ h => h) (Or.inl ⟨by rfl, ?_⟩) (by assumption) ?_
    rotate_left
    · (intro w hSw; (try dsimp only at hSw); go_simp; first | done | with_reducible rfl)
    try simp only [List.setIfInBounds_toArray, List.set_cons_zero, List.set_cons_succ]
    refine reg_take (i := 24) (d := 43) (v := ?_) [] rfl rfl (by kernel_rfl) (by kernel_rfl) (fun _ _ _ h => h) (Or.inl ⟨by rfl, ?_⟩) (by assumption) ?_
    rotate_left
    · (intro w hSw; (try dsimp only at hSw); go_simp; first | done | with_reducible rfl)
    try simp only [List.setIfInBounds_toArray, List.set_cons_zero, List.set_cons_succ]
    refine reg_take (i := 25) (d := 44) (v := ?_) [] rfl rfl (by kernel_rfl) (by kernel_rfl) (fun _ _ _ h => h) (Or.inl ⟨by rfl, ?_⟩) (by assumption) ?_
    rotate_left
    · (intro w hSw; (try dsimp only at hSw); go_simp; first | done | with_reducible rfl)
    try simp only [List.setIfInBounds_toArray, List.set_cons_zero, List.set_cons_succ]
    refine reg_take (i := 26) (d := 45) (v := ?_) [] rfl rfl (by kernel_rfl) (by kernel_rfl) (fun _ _ _ h => h) (Or.inl ⟨by rfl, ?_⟩) (by assumption) ?_
    rotate_left
    · (intro w hSw; (try dsimp only at hSw); go_simp; first | done | with_reducible rfl)
    try simp only [List.setIfInBounds_toArray, List.set_cons_zero, List.set_cons_succ]
    refine wpAnyL_done (by kernel_rfl) ?_ _
    go_wp2_with fail
    go_roundg (n - (k + 1))
    case measure => omega
    case rel => exact ⟨k + 1, by push_cast; rfl, by omega, rfl, HAH.out, HT.out.bel⟩
end Go.Proofs.Ytkajkomljgdghaa
