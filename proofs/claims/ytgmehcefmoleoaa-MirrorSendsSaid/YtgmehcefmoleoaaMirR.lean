/- The walks of the document's sender. Conditions: as its numbers are counted. -/
import Derived.Test.YtgmehcefmoleoaaMirL1
import Derived.Deep.RegionHeld3
set_option linter.unusedVariables false
set_option linter.unusedSimpArgs false
namespace Go.Proofs.Ytgmehcefmoleoaa
open Go.RowKit

/-- The document's sender: its block, all items ever, its base, up to which number all were taken. -/
structure RSnd (w : World) (B b : Nat) (lv : Value) (l : List Item) (base acked : Int) : Prop where
  blk : Blk w b #[lv, .int .i64 base, .int .i64 acked] 41
  own : w.ownsRow B 29 5 lv l.length (flat l)
  ge : B ≤ b
  lo : 0 ≤ base
  hi : base + l.length ≤ 4611686018427387904

theorem RSnd.upd {S : Nat → Prop} {w w' : World} {B b : Nat} {lv : Value} {l : List Item} {base acked : Int} (h : RSnd w B b lv l base acked) (hu : Upd S w w') (hb : ¬ S b) (hl : ∀ g, lv.ownBlock = some g → ¬ S g) : RSnd w' B b lv l base acked :=
  ⟨h.blk.upd hu hb, own_upd h.own hu hl, h.ge, h.lo, h.hi⟩
theorem RSnd.of_below {w w' : World} {B b : Nat} {lv : Value} {l : List Item} {base acked : Int} (h : RSnd w B b lv l base acked) (hB : Below w.heap.size w w') : RSnd w' B b lv l base acked :=
  h.upd (Upd.of_below (S := fun _ => False) hB) (fun h => h) (fun _ _ h => h)
theorem RSnd.size {w : World} {B b : Nat} {lv : Value} {l : List Item} {base acked : Int} (h : RSnd w B b lv l base acked) : B ≤ w.heap.size := Nat.le_trans h.ge (Nat.le_of_lt h.blk.lt)
theorem RSnd.below {w w' : World} {B b : Nat} {lv : Value} {l : List Item} {base acked : Int} (h : RSnd w B b lv l base acked) (hu : Upd (fun k => k = b) w w') : Below B w w' :=
  hu.below h.size (fun k hk => by subst hk; exact h.ge)

theorem al3 {w : World} {x y : Int} {v : Value} {T : TypeId} (h : x = y) : w.alloc (.cells #[v, .int .i64 x, .int .i64 x] T) = w.alloc (.cells #[v, .int .i64 y, .int .i64 y] T) := by rw [h]
theorem rnew_any (n : Int) (w : World) (h0 : -9223372036854775808 ≤ n ∧ n ≤ 9223372036854775807) :
    Calls Try.prog 11 #[.int .i64 n] w fun e w' => e = .returned (.pointer (some ⟨w.heap.size, 0, none⟩)) ∧ w.alloc (.cells #[.slice none 0 0, .int .i64 (min (max n 0) 4611686018427387904), .int .i64 (min (max n 0) 4611686018427387904)] 41) = w' := by
  go_enter Try.func11, Try.ntmps11
  go_wp2
  all_goals
    go_ret
    exact ⟨rfl, al3 (by omega)⟩

theorem rlast_any (b : Nat) (A : Option Addr) (n c : Nat) (base acked : Int) (w : World) (hb : Blk w b #[.slice A n c, .int .i64 base, .int .i64 acked] 41) (h0 : 0 ≤ base) (h1 : base + n ≤ 4611686018427387904) :
    Calls Try.prog 20 #[.pointer (some ⟨b, 0, none⟩)] w fun e w' => e = .returned (.int .i64 (base + n)) ∧ ∃ k, w' = w.drewN k := by
  have c0 : w.cell? ⟨b, 0, none⟩ = some (.slice A n c) := hb.cell 0
  have c1 : w.cell? ⟨b, 1, none⟩ = some (.int .i64 base) := hb.cell 1
  go_enter Try.func20, Try.ntmps20
  go_wp2
  go_quiet (fail)
  go_wp2
  go_ret
  exact ⟨rfl, nq, rfl⟩

theorem rack_no (B b : Nat) (lv : Value) (l : List Item) (base acked seq : Int) (w : World) (hs : RSnd w B b lv l base acked) (h : seq ≤ acked ∨ base + l.length < seq) :
    Calls Try.prog 15 #[.pointer (some ⟨b, 0, none⟩), .int .i64 seq] w fun e w' => e = .returned (.bool false) ∧ Below w.heap.size w w' := by
  obtain ⟨hb, ho, hge, h0, h1⟩ := hs
  obtain ⟨A, c, rfl, _, hr⟩ := own_rd ho
  have HB := Lib.hid hb
  have c2 : w.cell? ⟨b, 2, none⟩ = some (.int .i64 acked) := hb.cell 2
  by_cases h2 : seq ≤ acked
  · have k1 : decide (acked < seq) = false := by simp; omega
    go_enter Try.func15, Try.ntmps15
    go_wp2
    go_ret
    exact ⟨rfl, Below.refl _ _⟩
  · have k1 : decide (acked < seq) = true := by simp; omega
    have k2 : decide (seq ≤ base + l.length) = false := by simp; omega
    go_enter Try.func15, Try.ntmps15
    go_wp2_with (go_at_call 20; refine (rlast_any b A l.length c base acked _ HB.out h0 h1).mono ?_; rintro e w' ⟨rfl, k, rfl⟩)
    go_ret
    exact ⟨rfl, pw_drewN (Below.refl _ _) _⟩

theorem rack_yes (B b : Nat) (lv : Value) (l : List Item) (base acked seq : Int) (w : World) (hs : RSnd w B b lv l base acked) (h : acked < seq) (h' : seq ≤ base + l.length) :
    Calls Try.prog 15 #[.pointer (some ⟨b, 0, none⟩), .int .i64 seq] w fun e w' => e = .returned (.bool true) ∧ RSnd w' B b lv l base seq ∧ Upd (fun k => k = b) w w' := by
  obtain ⟨hb, ho, hge, h0, h1⟩ := hs
  have hne := own_ne ho hb (by decide)
  obtain ⟨A, c, rfl, _, hr⟩ := own_rd ho
  have HB := Lib.hid hb
  have c2 : w.cell? ⟨b, 2, none⟩ = some (.int .i64 acked) := hb.cell 2
  have f2 := hb.frozen 2
  have k1 : decide (acked < seq) = true := by simp; omega
  have k2 : decide (seq ≤ base + l.length) = true := by simp; omega
  go_enter Try.func15, Try.ntmps15
  go_wp2_with (go_at_call 20; refine (rlast_any b A l.length c base acked _ HB.out h0 h1).mono ?_; rintro e w' ⟨rfl, k, rfl⟩)
  go_ret
  exact ⟨rfl, ⟨(hb.drewN _).set 2 _, own_setOther (own_upd ho ((Upd.refl (fun _ => False) w).drewN _) (fun _ _ h => h)) hne _, hge, h0, h1⟩, Upd.setCell (S := fun k => k = b) (p := ⟨b, 2, none⟩) ((Upd.refl _ w).drewN _) (.inr rfl) _⟩

theorem radd_full (B b : Nat) (lv : Value) (l : List Item) (base acked : Int) (x : Item) (w : World) (hs : RSnd w B b lv l base acked) (hlt : base + l.length = 4611686018427387904) :
    Calls Try.prog 13 #[.pointer (some ⟨b, 0, none⟩), .agg #[.int .i64 x.seq, .int .i64 x.blk, .string x.data, .int .i64 x.cl, .int .i64 x.n]] w fun e w' => e = .returned (.tuple #[.int .i64 0, .int .i64 23]) ∧ Below w.heap.size w w' := by
  obtain ⟨hb, ho, hge, h0, h1⟩ := hs
  obtain ⟨A, c, rfl, _, hr⟩ := own_rd ho
  obtain ⟨xs, xb, xd, xc, xn⟩ := x
  have hbA := Lib.hid (fun (o : Obj) => hb.alloc o)
  have e1 : decide (4611686018427387904 ≤ base + l.length) = true := by simp; omega
  have H := Lib.hid hlt; clear hlt
  go_enter Try.func13, Try.ntmps13
  go_wp2_with (go_at_call 20; refine (rlast_any b A l.length c base acked _ (by exact hbA.out _) h0 h1).mono ?_; rintro e w' ⟨rfl, k, rfl⟩)
  go_ret2
  exact ⟨rfl, pw_drewN ((Below.refl _ _).alloc (Nat.le_refl _) _) _⟩

end Go.Proofs.Ytgmehcefmoleoaa
