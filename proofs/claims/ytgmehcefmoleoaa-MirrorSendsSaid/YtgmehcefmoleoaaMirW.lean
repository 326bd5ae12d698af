/- The walks of package mirror's sender. Conditions: as its numbers are counted. -/
import Derived.Test.YtgmehcefmoleoaaProg
import Derived.Test.YtgmehcefmoleoaaMem
import Derived.Test.YtgmehcefmoleoaaMirM
import Derived.Deep.QuietTactic
import Derived.BigQuiet
import Derived.WalkSpells
import Derived.Deep.DeepCutAuto
import Derived.Deep.RegionLaw
set_option linter.unusedVariables false
set_option linter.unusedSimpArgs false
namespace Go.Proofs.Ytgmehcefmoleoaa
open Go.RowKit

theorem Try.infoItem : (Try.prog.info? 29).map (fun i => (i.zero, i.size, i.bytes)) = some (some (.agg #[.int .i64 0, .int .i64 0, .string ByteArray.empty, .int .i64 0, .int .i64 0]), 5, 48) := by kernel_rfl

/-- A sender: its block, what it holds, up to which number all were taken. -/
structure Snd (w : World) (B b : Nat) (lv : Value) (l : List Item) (acked : Int) : Prop where
  blk : Blk w b #[lv, .int .i64 acked] 53
  own : w.ownsRow B 29 5 lv l.length (flat l)
  ge : B ≤ b
  lo : 0 ≤ acked
  hi : acked + l.length ≤ 4611686018427387904

theorem Snd.upd {S : Nat → Prop} {w w' : World} {B b : Nat} {lv : Value} {l : List Item} {acked : Int} (h : Snd w B b lv l acked) (hu : Upd S w w') (hb : ¬ S b) (hl : ∀ g, lv.ownBlock = some g → ¬ S g) : Snd w' B b lv l acked :=
  ⟨h.blk.upd hu hb, own_upd h.own hu hl, h.ge, h.lo, h.hi⟩
theorem Snd.size {w : World} {B b : Nat} {lv : Value} {l : List Item} {acked : Int} (h : Snd w B b lv l acked) : B ≤ w.heap.size := Nat.le_trans h.ge (Nat.le_of_lt h.blk.lt)
theorem Snd.fp {w : World} {B b : Nat} {lv : Value} {l : List Item} {acked : Int} (h : Snd w B b lv l acked) : ∀ k, (k = b ∨ lv.ownBlock = some k) → B ≤ k := by
  intro k hk
  rcases hk with rfl | hk
  · exact h.ge
  · exact (h.own.lt _ hk).1
theorem Snd.below {w w' : World} {B b : Nat} {lv : Value} {l : List Item} {acked : Int} (h : Snd w B b lv l acked) (hu : Upd (fun k => k = b ∨ lv.ownBlock = some k) w w') : Below B w w' :=
  hu.below h.size h.fp
theorem Snd.of_below {w w' : World} {B b : Nat} {lv : Value} {l : List Item} {acked : Int} (h : Snd w B b lv l acked) (hB : Below w.heap.size w w') : Snd w' B b lv l acked :=
  h.upd (Upd.of_below (S := fun _ => False) hB) (fun h => h) (fun _ _ h => h)
theorem pw_drewN {B : Nat} {w W : World} (h : Below B w W) (n : Nat) : Below B w (W.drewN n) := ⟨h.os, h.tape, h.output, h.size, h.block⟩
theorem al2 {w : World} {x y : Int} {v : Value} {T : TypeId} (h : x = y) : w.alloc (.cells #[v, .int .i64 x] T) = w.alloc (.cells #[v, .int .i64 y] T) := by rw [h]
theorem mnew_any (n : Int) (w : World) (h0 : -9223372036854775808 ≤ n ∧ n ≤ 9223372036854775807) :
    Calls Try.prog 10 #[.int .i64 n] w fun e w' => e = .returned (.pointer (some ⟨w.heap.size, 0, none⟩)) ∧ w.alloc (.cells #[.slice none 0 0, .int .i64 (min (max n 0) 4611686018427387904)] 53) = w' := by
  go_enter Try.func10, Try.ntmps10
  go_wp2
  all_goals
    go_ret
    exact ⟨rfl, al2 (by omega)⟩

theorem acked_any (b : Nat) (lv : Value) (acked : Int) (w : World) (hb : Blk w b #[lv, .int .i64 acked] 53) :
    Calls Try.prog 21 #[.pointer (some ⟨b, 0, none⟩)] w fun e w' => e = .returned (.int .i64 acked) ∧ w = w' := by
  have c1 : w.cell? ⟨b, 1, none⟩ = some (.int .i64 acked) := hb.cell 1
  go_enter Try.func21, Try.ntmps21
  go_wp2
  go_ret
  exact ⟨rfl, rfl⟩

theorem last_any (b : Nat) (A : Option Addr) (n c : Nat) (acked : Int) (w : World) (hb : Blk w b #[.slice A n c, .int .i64 acked] 53) (h0 : 0 ≤ acked) (h1 : acked + n ≤ 4611686018427387904) :
    Calls Try.prog 19 #[.pointer (some ⟨b, 0, none⟩)] w fun e w' => e = .returned (.int .i64 (acked + n)) ∧ ∃ k, w' = w.drewN k := by
  have c0 : w.cell? ⟨b, 0, none⟩ = some (.slice A n c) := hb.cell 0
  have c1 : w.cell? ⟨b, 1, none⟩ = some (.int .i64 acked) := hb.cell 1
  go_enter Try.func19, Try.ntmps19
  go_wp2
  go_quiet (fail)
  go_wp2
  go_ret
  exact ⟨rfl, nq, rfl⟩

/-- slices.Clone of items: nil of nil; else a row of its own. -/
theorem clone_any (A : Option Addr) (n c : Nat) (l : List Item) (w : World) (hl : l.length = n) (hn : n * 48 ≤ 140737488355328) (hr : Rd w A (flat l)) (hz : A = none → n = 0) :
    Calls Try.prog 24 #[.slice A n c] w fun e w' => ∃ v, e = .returned v ∧ w'.ownsRow w.heap.size 29 5 v n (flat l) ∧ Below w.heap.size w w' := by
  have qT : ∀ (w : World) (a : Option Addr) (n c n' c' : Nat), (binOp .eql 36 (.slice a n c) (.slice none n' c')).run Try.prog w = .ok (.bool a.isNone) w := fun w a n c n' c' => Lib.run_eql_slice_nil w _ _ a n c n' c' Try.underlying36
  have HL := Lib.hid hl; clear hl
  have HR := Lib.hid hr; clear hr
  cases A with
  | none =>
    obtain rfl := hz rfl
    have hl0 : l = [] := List.eq_nil_of_length_eq_zero HL.out
    subst hl0
    go_enter Try.func24, Try.ntmps24
    go_wp2
    go_ret
    exact ⟨_, rfl, World.ownsRow_nil _ _ _ _, Below.refl _ _⟩
  | some a =>
    clear hz
    have ho := Lib.hid (own_empty w 29 5)
    have hb : Below w.heap.size w (w.alloc (.cells #[] 29)) := (Below.refl _ _).alloc (Nat.le_refl _) _
    have HB := Lib.hid hb; clear hb
    go_enter Try.func24, Try.ntmps24
    go_wp2_with (at_builtin; go_loud (refine appN w.heap.size 36 29 _ 5 48 (flat l) n ho.out (by simp) (by omega) Try.underlying36 Try.infoItem rfl (by decide) (by decide) (by rw [flat_length, HL.out]) (flat_one l) a c (HR.out.below HB.out) (.tmp 5) (.tmp 6) rfl rfl rfl rfl ?_); intro v1 w2 hown2 hg2 _)
    go_ret
    refine ⟨_, rfl, by simpa using hown2, HB.out.grown hg2 (by simp) (fun k hk => ?_)⟩
    simp [Value.ownBlock] at hk
    omega
theorem own_none {w : World} {base n sz c : Nat} {e : TypeId} {A : Option Addr} {xs : List Value} (h : w.ownsRow base e sz (.slice A n c) n xs) : A = none → n = 0 := by
  rintro rfl
  rcases h.2 with ⟨_, h0⟩ | ⟨g, cap, cur, hv, _⟩
  · exact h0
  · simp at hv

theorem left_any (B b : Nat) (lv : Value) (l : List Item) (acked : Int) (w : World) (hb : Blk w b #[lv, .int .i64 acked] 53) (ho : w.ownsRow B 29 5 lv l.length (flat l)) (hn : l.length * 48 ≤ 140737488351232) :
    Calls Try.prog 16 #[.pointer (some ⟨b, 0, none⟩)] w fun e w' => ∃ v, e = .returned v ∧ w'.ownsRow w.heap.size 29 5 v l.length (flat l) ∧ Below w.heap.size w w' := by
  obtain ⟨A, c, rfl, _, hr⟩ := own_rd ho
  have hz := own_none ho
  have c0 : w.cell? ⟨b, 0, none⟩ = some (.slice A l.length c) := hb.cell 0
  have HZ := Lib.hid hz; clear hz
  have HR := Lib.hid hr; clear hr ho hb
  go_enter Try.func16, Try.ntmps16
  go_wp2_with (go_at_call 24; go_loud (refine (clone_any A l.length c l w rfl (by omega) HR.out HZ.out).mono ?_); rintro e w1 ⟨vv, rfl, ho1, hB1⟩)
  go_ret
  exact ⟨vv, rfl, ho1, hB1⟩

set_option maxRecDepth 100000 in
theorem add_any (B b : Nat) (lv : Value) (l : List Item) (acked : Int) (x : Item) (w : World) (hs : Snd w B b lv l acked) (hlt : acked + l.length < 4611686018427387904) (hn : (l.length + 1) * 48 ≤ 140737488351232) :
    Calls Try.prog 12 #[.pointer (some ⟨b, 0, none⟩), .agg #[.int .i64 x.seq, .int .i64 x.blk, .string x.data, .int .i64 x.cl, .int .i64 x.n]] w fun e w' => e = .returned (.tuple #[.int .i64 (acked + l.length + 1), .int .i64 0]) ∧ ∃ lv', Snd w' B b lv' (l ++ [{ x with seq := acked + l.length + 1 }]) acked ∧ Upd (fun k => k = b ∨ lv.ownBlock = some k) w w' ∧ (∀ g, lv'.ownBlock = some g → lv.ownBlock = some g ∨ w.heap.size ≤ g) := by
  obtain ⟨hb, ho, hge, h0, h1⟩ := hs
  obtain ⟨A, c, rfl, _, hr⟩ := own_rd ho
  obtain ⟨xs, xb, xd, xc, xn⟩ := x
  have hbA := Lib.hid (fun (o : Obj) => hb.alloc o)
  have c0 : ∀ o, (w.alloc o).cell? ⟨b, 0, none⟩ = some (.slice A l.length c) := fun o => (hb.alloc o).cell 0
  have c1 : ∀ o, (w.alloc o).cell? ⟨b, 1, none⟩ = some (.int .i64 acked) := fun o => (hb.alloc o).cell 1
  have e1 : ((acked + l.length) == 4611686018427387904) = false := by simp; omega
  go_enter Try.func12, Try.ntmps12
  go_upto_region 3 with (go_at_call 19; refine (last_any b A l.length c acked _ (by exact hbA.out _) h0 h1).mono ?_; rintro e w' ⟨rfl, k, rfl⟩)
  go_cut [3] (fun s3 wx => s3 = .pointer (some ⟨w.heap.size, 0, none⟩) ∧ Blk wx w.heap.size #[.int .i64 (acked + l.length + 1), .int .i64 xb, .string xd, .int .i64 xc, .int .i64 xn] 29 ∧ Below w.heap.size w wx)
  case first =>
    go_wp2_with (go_at_call 19; refine (last_any b A l.length c acked _ (by exact hbA.out _) h0 h1).mono ?_; rintro e w' ⟨rfl, k, rfl⟩)
    go_meet
    exact ⟨rfl, ((Blk.new w _ _).drewN _).set 0 _, (pw_drewN ((Below.refl _ _).alloc (Nat.le_refl _) _) _).setCell (Nat.le_refl _) _⟩
  case rest =>
    obtain ⟨rfl, hX, hB⟩ := hcut
    have HX := Lib.hid hX
    have HB := Lib.hid hB
    have hbc : Blk wc b #[.slice A l.length c, .int .i64 acked] 53 := hb.upd (Upd.of_below (S := fun _ => False) hB) (fun h => h)
    have hoc : wc.ownsRow B 29 5 (.slice A l.length c) l.length (flat l) := own_upd ho (Upd.of_below (S := fun _ => False) hB) (fun _ _ h => h)
    have HBC := Lib.hid hbc
    have HOC := Lib.hid hoc
    have d0 : wc.cell? ⟨b, 0, none⟩ = some (.slice A l.length c) := hbc.cell 0
    have d0' : ∀ o, (wc.alloc o).cell? ⟨b, 0, none⟩ = some (.slice A l.length c) := fun o => (hbc.alloc o).cell 0
    have x0 : wc.cell? ⟨w.heap.size, 0, none⟩ = some (.int .i64 (acked + l.length + 1)) := hX.cell 0
    have x1 : wc.cell? ⟨w.heap.size, 1, none⟩ = some (.int .i64 xb) := hX.cell 1
    have x2 : wc.cell? ⟨w.heap.size, 2, none⟩ = some (.string xd) := hX.cell 2
    have x3 : wc.cell? ⟨w.heap.size, 3, none⟩ = some (.int .i64 xc) := hX.cell 3
    have x4 : wc.cell? ⟨w.heap.size, 4, none⟩ = some (.int .i64 xn) := hX.cell 4
    have HNE := Lib.hid (own_ne hoc hbc (by decide))
    have HNX := Lib.hid (show (Value.slice A l.length c).ownBlock ≠ some w.heap.size from fun e => Nat.lt_irrefl _ (ho.lt _ e).2)
    clear hX hB hbc hoc c0 c1 hbA e1
    go_wp2_with fail
    go_region_law (go_loud (refine stepN B 36 29 _ 5 48 (Item.mk (acked + l.length + 1) xb xd xc xn).cells 1 (HOC.out.alloc _) (by simp; have := HB.out.size; have := hb.lt; omega) (by omega) Try.underlying36 Try.infoItem rfl (by decide) (by decide) rfl (by simp [Item.cells, Value.oneCell']) ⟨wc.heap.size, 0, none⟩ 1 (Rd.lit rfl _ _) (.tmp 17) (.tmp 19) rfl rfl rfl rfl ?_); intro v1 w1 hown1 hg1 hat1; obtain ⟨A1, c1, rfl, _, _⟩ := own_rd hown1; have hb1 : Blk w1 b #[.slice A l.length c, .int .i64 acked] 53 := Blk.upd ((HBC.out.alloc _).drew) (Upd.of_grown hg1) (fun e => HNE.out e.symm); have q0 : w1.cell? ⟨b, 0, none⟩ = some (.slice A l.length c) := hb1.cell 0; have q1 := hb1.frozen 0; have q2 : ∀ v, (w1.setCell ⟨b, 0, none⟩ v).cell? ⟨w.heap.size, 0, none⟩ = some (.int .i64 (acked + l.length + 1)) := fun v => (Blk.setOther (Blk.upd ((HX.out.alloc _).drew) (Upd.of_grown hg1) (fun e => HNX.out e.symm)) (Nat.ne_of_lt hb.lt) v).cell 0; have HG1 := Lib.hid hg1; have HO1 := Lib.hid hown1; have HAT := Lib.hid hat1; have HB1 := Lib.hid hb1; clear hg1 hown1 hat1 hb1)
    all_goals
      go_wp2
      go_ret2
      have hf : flat (l ++ [Item.mk (acked + l.length + 1) xb xd xc xn]) = flat l ++ (Item.mk (acked + l.length + 1) xb xd xc xn).cells := by rw [flat_append]; simp [flat]
      have hl2 : (l ++ [Item.mk (acked + l.length + 1) xb xd xc xn]).length = l.length + 1 := by simp
      have hwc := HB.out.size
      have hbl := hb.lt
      refine ⟨rfl, _, ⟨HB1.out.set 0 _, ?_, hge, h0, ?_⟩, ?_, ?_⟩
      · rw [hf, hl2]
        exact own_setOther HO1.out (own_ne HO1.out HB1.out (by decide)) _
      · rw [hl2]; omega
      · have u1 : Upd (fun k => (Value.slice A l.length c).ownBlock = some k) (wc.alloc (.cells #[.int .i64 (acked + l.length + 1), .int .i64 xb, .string xd, .int .i64 xc, .int .i64 xn] 29)).drew w1 := (Upd.of_grown HG1.out).mono (fun k _ h => h.symm)
        have u2 : Upd (fun k => k = b ∨ (Value.slice A l.length c).ownBlock = some k) w w1 := ((((Upd.of_below HB.out).alloc _).drew).then u1 (fun k _ h => .inr h))
        exact u2.setCell (.inr (.inl rfl)) _
      · intro g' hg'
        rcases HAT.out with h | ⟨g, h, hg⟩
        · exact .inl (h ▸ hg')
        · refine .inr ?_
          rw [h, Option.some.injEq] at hg'
          have : (wc.alloc (.cells #[.int .i64 (acked + l.length + 1), .int .i64 xb, .string xd, .int .i64 xc, .int .i64 xn] 29)).drew.heap.size = wc.heap.size + 1 := by simp [World.drew]
          omega
theorem add_full (B b : Nat) (lv : Value) (l : List Item) (acked : Int) (x : Item) (w : World) (hs : Snd w B b lv l acked) (hlt : acked + l.length = 4611686018427387904) :
    Calls Try.prog 12 #[.pointer (some ⟨b, 0, none⟩), .agg #[.int .i64 x.seq, .int .i64 x.blk, .string x.data, .int .i64 x.cl, .int .i64 x.n]] w fun e w' => e = .returned (.tuple #[.int .i64 0, .int .i64 23]) ∧ Below w.heap.size w w' := by
  obtain ⟨hb, ho, hge, h0, h1⟩ := hs
  obtain ⟨A, c, rfl, _, hr⟩ := own_rd ho
  obtain ⟨xs, xb, xd, xc, xn⟩ := x
  have hbA := Lib.hid (fun (o : Obj) => hb.alloc o)
  have e1 : ((acked + l.length) == 4611686018427387904) = true := by simp; omega
  have H := Lib.hid hlt; clear hlt
  go_enter Try.func12, Try.ntmps12
  go_wp2_with (go_at_call 19; refine (last_any b A l.length c acked _ (by exact hbA.out _) h0 h1).mono ?_; rintro e w' ⟨rfl, k, rfl⟩)
  go_ret2
  exact ⟨rfl, pw_drewN ((Below.refl _ _).alloc (Nat.le_refl _) _) _⟩

theorem ack_no (B b : Nat) (lv : Value) (l : List Item) (acked seq : Int) (w : World) (hs : Snd w B b lv l acked) (h : seq ≤ acked ∨ acked + l.length < seq) :
    Calls Try.prog 14 #[.pointer (some ⟨b, 0, none⟩), .int .i64 seq] w fun e w' => e = .returned (.bool false) ∧ Below w.heap.size w w' := by
  obtain ⟨hb, ho, hge, h0, h1⟩ := hs
  obtain ⟨A, c, rfl, _, hr⟩ := own_rd ho
  have HB := Lib.hid hb
  have c1 : w.cell? ⟨b, 1, none⟩ = some (.int .i64 acked) := hb.cell 1
  by_cases h2 : seq ≤ acked
  · have k1 : decide (seq ≤ acked) = true := by simpa using h2
    go_enter Try.func14, Try.ntmps14
    go_wp2
    go_ret
    exact ⟨rfl, Below.refl _ _⟩
  · have k1 : decide (seq ≤ acked) = false := by simpa using h2
    have k2 : decide (acked + l.length < seq) = true := by simp; omega
    go_enter Try.func14, Try.ntmps14
    go_wp2_with (go_at_call 19; refine (last_any b A l.length c acked _ HB.out h0 h1).mono ?_; rintro e w' ⟨rfl, k, rfl⟩)
    go_ret
    exact ⟨rfl, pw_drewN (Below.refl _ _) _⟩

set_option maxRecDepth 100000 in
theorem ack_yes (B b k : Nat) (lv : Value) (l : List Item) (acked : Int) (w : World) (hs : Snd w B b lv l acked) (hk : 0 < k) (hk2 : k ≤ l.length) (hn : l.length * 48 ≤ 140737488351232) :
    Calls Try.prog 14 #[.pointer (some ⟨b, 0, none⟩), .int .i64 (acked + k)] w fun e w' => e = .returned (.bool true) ∧ ∃ lv', Snd w' B b lv' (l.drop k) (acked + k) ∧ Upd (fun k => k = b ∨ lv.ownBlock = some k) w w' ∧ (∀ g, lv'.ownBlock = some g → lv.ownBlock = some g ∨ w.heap.size ≤ g) := by
  obtain ⟨hb, ho, hge, h0, h1⟩ := hs
  obtain ⟨A, c, rfl, hlc, hr⟩ := own_rd ho
  have HB := Lib.hid hb
  have c0 : w.cell? ⟨b, 0, none⟩ = some (.slice A l.length c) := hb.cell 0
  have c1 : w.cell? ⟨b, 1, none⟩ = some (.int .i64 acked) := hb.cell 1
  have k1 : decide (acked + k ≤ acked) = false := by simp; omega
  have k2 : decide (acked + l.length < acked + k) = false := by simp; omega
  have hR : Rd w (if c = k then A else Option.map (fun x => x.add (k * 5)) A) (flat (l.drop k)) := by
    split
    · rename_i e
      rw [List.drop_of_length_le (by omega)]
      exact Rd.nil _ _
    · rw [flat_drop]
      exact hr.drop _
  have hZ : (if c = k then A else Option.map (fun x => x.add (k * 5)) A) = none → l.length - k = 0 := by
    intro h
    have : A = none := by
      split at h
      · exact h
      · simpa using h
    have := own_none ho this
    omega
  obtain ⟨A2, hA2⟩ : ∃ A2, (if c = k then A else Option.map (fun x => x.add (k * 5)) A) = A2 := ⟨_, rfl⟩
  rw [hA2] at hR hZ
  have HR := Lib.hid hR
  have HZ := Lib.hid hZ
  clear hR hZ
  have hw : IntKind.i64.wrap (acked + (k : Int) - acked) = (k : Int) := by rw [IntWalk.i64_in _ (by omega)]; omega
  have hk3 : (k : Int) ≤ (l.length : Int) := by omega
  have hk4 : (0 : Int) ≤ (k : Int) := by omega
  go_enter Try.func14, Try.ntmps14
  go_wp2_with (go_at_call 19; refine (last_any b A l.length c acked _ HB.out h0 h1).mono ?_; rintro e w' ⟨rfl, kq, rfl⟩)
  go_region_law (go_simp; go_at_call 24; go_loud (refine (clone_any _ _ _ (l.drop k) _ (by simp) (by omega) (HR.out.below (pw_drewN (Below.refl _ _) _)) HZ.out).mono ?_); rintro e w1 ⟨v1, rfl, ho1, hB1⟩; obtain ⟨A1, c1, rfl, _, _⟩ := own_rd ho1; have hb1 : Blk w1 b #[.slice A l.length c, .int .i64 acked] 53 := (HB.out.drewN _).upd (Upd.of_below (S := fun _ => False) hB1) (fun h => h); have q0 : w1.cell? ⟨b, 0, none⟩ = some (.slice A l.length c) := hb1.cell 0; have q1 := hb1.frozen 0; have q3 := hb1.frozen 1; have HO1 := Lib.hid ho1; have HB1 := Lib.hid hb1; have HL1 := Lib.hid hB1; clear ho1 hb1 hB1)
  all_goals
    have r0 : (w1.setCell ⟨b, 0, none⟩ (.slice A1 (l.length - k) c1)).cell? ⟨b, 1, none⟩ = some (.int .i64 acked) := (HB1.out.set 0 _).cell 1
    go_wp2
    go_ret
    have hsz := HL1.out.size
    have hbl := hb.lt
    have hs0 : ∀ q, (w.drewN q).heap.size = w.heap.size := fun _ => rfl
    rw [hs0] at hsz
    have ho2 : w1.ownsRow B 29 5 (.slice A1 (l.length - k) c1) (l.length - k) (flat (l.drop k)) := own_rebase HO1.out (fun g hg => by have := (HO1.out.lt g hg).1; rw [hs0] at this; omega)
    refine ⟨rfl, _, ⟨(HB1.out.set 0 _).set 1 _, ?_, hge, by omega, ?_⟩, ?_, ?_⟩
    · rw [List.length_drop]
      exact own_setOther (own_setOther ho2 (own_ne HO1.out HB1.out (by decide)) _) (own_ne HO1.out HB1.out (by decide)) _
    · rw [List.length_drop]; omega
    · have u1 : Upd (fun k => k = b ∨ (Value.slice A l.length c).ownBlock = some k) w w1 := ((Upd.refl _ w).drewN _).then (Upd.of_below (S := fun _ => False) HL1.out) (fun _ _ h => h.elim)
      exact Upd.setCell (p := ⟨b, 1, none⟩) (Upd.setCell (p := ⟨b, 0, none⟩) u1 (.inr (.inl rfl)) _) (.inr (.inl rfl)) _
    · intro g hg
      exact .inr (by have := (HO1.out.lt g hg).1; rw [hs0] at this; exact this)
end Go.Proofs.Ytgmehcefmoleoaa
