/- What the laws' walks keep: rows of places in cells of their own; plain contracts. No condition. -/
import Derived.Test.YtlgmomjofhbggaaBitA
import Derived.Test.YtlgmomjofhbggaaRow
import Derived.Deep.RegionHeld3
set_option linter.unusedVariables false
set_option linter.unusedSimpArgs false
namespace Go.Proofs.Ytlgmomjofhbggaa
open Go.RowKit

/-- A row of places' cells. -/
abbrev rc (n b : Nat) : Array Value := #[.int .i64 (n : Int), .int .u64 (b : Int)]
/-- What lies where, beyond what was there. -/
def Kp (w W : World) (bs : List (Nat × Nat × Nat)) : Prop := Below w.heap.size w W ∧ ∀ p ∈ bs, Blk W p.1 (rc p.2.1 p.2.2) 26
theorem Kp.bel {w W : World} {bs : List (Nat × Nat × Nat)} (h : Kp w W bs) : Below w.heap.size w W := h.1
theorem Kp.nil {w W : World} (h : Below w.heap.size w W) : Kp w W [] := ⟨h, by simp⟩
theorem Kp.step {w W W' : World} {bs : List (Nat × Nat × Nat)} (h : Kp w W bs) (B : Below W.heap.size W W') : Kp w W' bs :=
  ⟨Below.and h.1 B, fun p hp => (h.2 p hp).below B⟩
theorem Kp.mem {w W : World} {bs : List (Nat × Nat × Nat)} (h : Kp w W bs) {g n b : Nat} (hg : (g, n, b) ∈ bs) : Blk W g (rc n b) 26 := h.2 _ hg
theorem Kp.c0 {w W : World} {bs : List (Nat × Nat × Nat)} (h : Kp w W bs) {g n b : Nat} (hg : (g, n, b) ∈ bs) : W.cell? ⟨g, 0, none⟩ = some (.int .i64 (n : Int)) := (h.2 _ hg).cell 0
theorem Kp.c1 {w W : World} {bs : List (Nat × Nat × Nat)} (h : Kp w W bs) {g n b : Nat} (hg : (g, n, b) ∈ bs) : W.cell? ⟨g, 1, none⟩ = some (.int .u64 (b : Int)) := (h.2 _ hg).cell 1
theorem Kp.new {w W : World} {bs : List (Nat × Nat × Nat)} (h : Kp w W bs) (n b : Nat) : Kp w (W.alloc (.cells (rc n b) 26)) ((W.heap.size, n, b) :: bs) :=
  ⟨h.1.alloc h.1.size _, fun p hp => by
    rcases List.mem_cons.1 hp with rfl | hp
    · exact Blk.new _ _ _
    · exact (h.2 p hp).alloc _⟩
theorem Kp.sub {w W : World} {bs cs : List (Nat × Nat × Nat)} (h : Kp w W bs) (hs : ∀ p ∈ cs, p ∈ bs) : Kp w W cs := ⟨h.1, fun p hp => h.2 p (hs p hp)⟩
theorem Kp.drew {w W : World} {bs : List (Nat × Nat × Nat)} (h : Kp w W bs) : Kp w W.drew bs := ⟨h.1.drew, fun p hp => (h.2 p hp).drew⟩
theorem Kp.drewN {w W : World} {bs : List (Nat × Nat × Nat)} (h : Kp w W bs) (n : Nat) : Kp w (W.drewN n) bs := ⟨Below.drewN' h.1 n, fun p hp => (h.2 p hp).drewN n⟩

theorem strOf_size (xs : List Nat) : (strOf xs).size = xs.length := by simp [strOf, ByteArray.size]
theorem natsOf_strOf {xs : List Nat} (h : ∀ x ∈ xs, x < 256) : natsOf (strOf xs) = xs := by
  unfold natsOf strOf
  simp only [List.map_map]
  conv => rhs; rw [← List.map_id xs]
  apply List.map_congr_left
  intro x hx
  have := h x hx
  simp [Nat.mod_eq_of_lt this]
theorem strOf_natsOf (s : ByteArray) : strOf (natsOf s) = s := by
  unfold natsOf strOf
  rw [List.map_map]
  have : s.data.toList.map (UInt8.ofNat ∘ UInt8.toNat) = s.data.toList := by
    conv => rhs; rw [← List.map_id s.data.toList]
    apply List.map_congr_left
    intro x _
    simp
  rw [this]
theorem strOf_inj {xs ys : List Nat} (hx : ∀ x ∈ xs, x < 256) (hy : ∀ y ∈ ys, y < 256) (h : strOf xs = strOf ys) : xs = ys := by
  rw [← natsOf_strOf hx, ← natsOf_strOf hy, h]

/-- All's row, of which only the number of its places is looked at. -/
theorem ball_len (n b : Nat) (w : World) (hn : n ≤ 64) (hb : b < 18446744073709551616) :
    Calls Try.prog 24 #[.agg #[.int .i64 (n : Int), .int .u64 (b : Int)]] w fun e w' => (∃ A c, e = .returned (.slice A (all n b).length c) ∧ Rd w' A (ivals (all n b))) ∧ Below w.heap.size w w' :=
  (ball_any n b w hn hb).mono fun e w' ⟨v, he, ho, hB⟩ => by
    obtain ⟨A, c, rfl, _, hr⟩ := own_rd ho
    exact ⟨⟨A, c, he, hr⟩, hB⟩
theorem nextV_any (n b : Nat) (i : Int) (w : World) (v : Value) (h : nextV (next n b i) = v) (hn : n ≤ 64) (hb : b < 18446744073709551616) (hi : -9223372036854775808 ≤ i ∧ i ≤ 9223372036854775807) :
    Calls Try.prog 27 #[.agg #[.int .i64 (n : Int), .int .u64 (b : Int)], .int .i64 i] w fun e w' => e = .returned v ∧ Below w.heap.size w w' := by
  rw [← h]; exact bnext_any n b i w hn hb hi
theorem put_in (n b : Nat) (i : Int) (w : World) (h : inn n i = true) (hn : n ≤ 64) (hb : b < 18446744073709551616) :
    Calls Try.prog 13 #[.agg #[.int .i64 (n : Int), .int .u64 (b : Int)], .int .i64 i] w fun e w' => e = .returned (.tuple #[.agg #[.int .i64 n, .int .u64 (put b i.toNat : Nat)], .int .i64 0]) ∧ Below w.heap.size w w' := by
  have := bput_any n b i w hn hb
  rwa [if_pos h] at this
theorem put_out (n b : Nat) (i : Int) (w : World) (h : inn n i = false) (hn : n ≤ 64) (hb : b < 18446744073709551616) :
    Calls Try.prog 13 #[.agg #[.int .i64 (n : Int), .int .u64 (b : Int)], .int .i64 i] w fun e w' => e = .returned (.tuple #[.agg #[.int .i64 0, .int .u64 0], .int .i64 2]) ∧ Below w.heap.size w w' := by
  have := bput_any n b i w hn hb
  rwa [if_neg (by rw [h]; decide)] at this
theorem del_in (n b : Nat) (i : Int) (w : World) (h : inn n i = true) (hn : n ≤ 64) (hb : b < 18446744073709551616) :
    Calls Try.prog 15 #[.agg #[.int .i64 (n : Int), .int .u64 (b : Int)], .int .i64 i] w fun e w' => e = .returned (.tuple #[.agg #[.int .i64 n, .int .u64 (del b i.toNat : Nat)], .int .i64 0]) ∧ Below w.heap.size w w' := by
  have := bdel_any n b i w hn hb
  rwa [if_pos h] at this
theorem del_out (n b : Nat) (i : Int) (w : World) (h : inn n i = false) (hn : n ≤ 64) (hb : b < 18446744073709551616) :
    Calls Try.prog 15 #[.agg #[.int .i64 (n : Int), .int .u64 (b : Int)], .int .i64 i] w fun e w' => e = .returned (.tuple #[.agg #[.int .i64 0, .int .u64 0], .int .i64 2]) ∧ Below w.heap.size w w' := by
  have := bdel_any n b i w hn hb
  rwa [if_neg (by rw [h]; decide)] at this
theorem or_eq (n b c : Nat) (w : World) (hb : b < 18446744073709551616) (hc : c < 18446744073709551616) :
    Calls Try.prog 16 #[.agg #[.int .i64 (n : Int), .int .u64 (b : Int)], .agg #[.int .i64 (n : Int), .int .u64 (c : Int)]] w fun e w' => e = .returned (.tuple #[.agg #[.int .i64 n, .int .u64 (b ||| c : Nat)], .int .i64 0]) ∧ Below w.heap.size w w' := by
  have := bor_any n b n c w hb hc
  rwa [if_pos rfl] at this
theorem row_eq (n : Int) (u m z : Nat) (w : World) (h1 : newOf n = m) (h2 : u % 2 ^ m = z) (hu : u < 18446744073709551616) :
    Calls Try.prog 21 #[.int .i64 n, .int .u64 (u : Int)] w fun e w' => e = .returned (.agg #[.int .i64 (m : Nat), .int .u64 (z : Nat)]) ∧ Below w.heap.size w w' := by
  have h := row_any n u w hu
  unfold rowOf at h
  rwa [h1, h2] at h
theorem new_eq (n : Int) (m z : Nat) (w : World) (h1 : newOf n = m) (h2 : z = 0) :
    Calls Try.prog 11 #[.int .i64 n] w fun e w' => e = .returned (.agg #[.int .i64 (m : Nat), .int .u64 (z : Nat)]) ∧ Below w.heap.size w w' := by
  subst h2
  have h := bnew_any n w
  rwa [h1] at h
theorem text_eq (n b : Nat) (s : ByteArray) (w : World) (h : strOf (text n b) = s) (hn : n ≤ 64) (hb : b < 18446744073709551616) :
    Calls Try.prog 22 #[.agg #[.int .i64 (n : Int), .int .u64 (b : Int)]] w fun e w' => e = .returned (.string s) ∧ Below w.heap.size w w' := by
  rw [← h]; exact btext_any n b w hn hb
theorem has_eq (n b : Nat) (i : Int) (q : Bool) (w : World) (h : has n b i = q) (hn : n ≤ 64) (hb : b < 18446744073709551616) :
    Calls Try.prog 26 #[.agg #[.int .i64 (n : Int), .int .u64 (b : Int)], .int .i64 i] w fun e w' => e = .returned (.bool q) ∧ Below w.heap.size w w' := by
  rw [← h]; exact bhas_any n b i w hn hb
end Go.Proofs.Ytlgmomjofhbggaa
