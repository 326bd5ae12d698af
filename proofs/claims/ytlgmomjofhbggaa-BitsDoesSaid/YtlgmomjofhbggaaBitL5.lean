/- The walk of BitsTurned. No condition but the row's own. -/
import Derived.Test.YtlgmomjofhbggaaBitL4
import Derived.Deep.LoopGhost
import Derived.Deep.DeepCutAuto
set_option linter.unusedVariables false
set_option linter.unusedSimpArgs false
namespace Go.Proofs.Ytlgmomjofhbggaa
open Go.RowKit

theorem is_bytes {w : World} {A : Option Addr} {n c by_ : Nat} (h : Sh.Is w (.slice by_ (.int .u8)) [.slice A n c]) :
    ∃ xs : List Nat, xs.length = n ∧ c * by_ ≤ 140737488351232 ∧ (n ≤ c ∧ (A = none → c = 0)) ∧ Rd w A (by8 xs) ∧ ∀ x ∈ xs, x < 256 := by
  obtain ⟨A', n', c', els, he, hl, hnc, hc, hr, hel⟩ := h
  simp only [List.cons.injEq, Value.slice.injEq, and_true] at he
  obtain ⟨rfl, rfl, rfl⟩ := he
  obtain ⟨ys, rfl, has⟩ := exists_map (f := fun x : Nat => [Value.int .u8 (x : Int)]) (p := fun x => x < 256) els (fun el hel' => by
    obtain ⟨x, rfl, hx⟩ := (hel el hel').2
    have hb := bd_u8 hx
    obtain ⟨y, rfl⟩ := Int.eq_ofNat_of_zero_le hb.1
    exact ⟨y, rfl, by omega⟩)
  refine ⟨ys, by simpa using hl, hc, hnc, ?_, has⟩
  rwa [show (ys.map fun x : Nat => [Value.int .u8 (x : Int)]).flatten = by8 ys by clear has hl hel hr; induction ys <;> simp_all [by8]] at hr

/-- What is done to a row by marking a place that may not be there. -/
def st (m b x : Nat) : Nat := if x < m then put b x else b
def mk (m : Nat) (xs : List Nat) : Nat := xs.foldl (st m) 0
theorem testBit_st (m b x j : Nat) : (st m b x).testBit j = (b.testBit j || (decide (x = j) && decide (x < m))) := by
  unfold st
  split
  · rename_i h
    rw [testBit_put]; simp [h]
  · rename_i h
    simp [h]
theorem testBit_foldl (m : Nat) (xs : List Nat) (b j : Nat) : (xs.foldl (st m) b).testBit j = (b.testBit j || (decide (j ∈ xs) && decide (j < m))) := by
  induction xs generalizing b with
  | nil => simp
  | cons x xs ih =>
    rw [List.foldl_cons, ih, testBit_st]
    by_cases hx : x = j
    · subst hx; by_cases hm : x < m <;> simp [hm]
    · have : ¬ j = x := fun e => hx e.symm
      simp [hx, this]
theorem mk_reverse (m : Nat) (xs : List Nat) : mk m xs.reverse = mk m xs := by
  apply Nat.eq_of_testBit_eq
  intro j
  unfold mk
  rw [testBit_foldl, testBit_foldl]
  simp
theorem st_lt {m b x : Nat} (hm : m ≤ 64) (hb : b < 18446744073709551616) : st m b x < 18446744073709551616 := by
  unfold st
  split
  · exact put_lt hb (by omega)
  · exact hb
theorem foldl_lt {m : Nat} (hm : m ≤ 64) (xs : List Nat) : ∀ {b : Nat}, b < 18446744073709551616 → xs.foldl (st m) b < 18446744073709551616 := by
  induction xs with
  | nil => intro b h; exact h
  | cons x xs ih => intro b h; exact ih (st_lt hm h)
theorem mk_lt {m : Nat} (hm : m ≤ 64) (xs : List Nat) : mk m xs < 18446744073709551616 := foldl_lt hm xs (by decide)
theorem mk_succ (m : Nat) (xs : List Nat) {k : Nat} (hk : k < xs.length) : mk m (xs.take (k + 1)) = st m (mk m (xs.take k)) xs[k] := by
  unfold mk
  rw [List.take_add_one, List.getElem?_eq_getElem hk, List.foldl_append]
  rfl
theorem del_put (b i : Nat) : del (put b i) i = del b i := by
  apply Nat.eq_of_testBit_eq
  intro j
  rw [testBit_del, testBit_put, testBit_del]
  by_cases h : i = j <;> simp [h]
theorem all_put_len (m b i : Nat) : (all m b).length ≤ (all m (put b i)).length := by
  induction m with
  | zero => simp [all]
  | succ m ih =>
    rw [all_succ, all_succ, List.length_append, List.length_append, testBit_put]
    cases b.testBit m <;> simp <;> omega

theorem rem_walk {x y : Nat} (hy : y < 256) (hx : x = y % 64) : IntKind.i64.wrap ((y : Int).tmod 64) = (x : Int) := by
  rw [Int.tmod_eq_emod_of_nonneg (by omega), IntWalk.i64_in _ (by omega)]
  omega
def putN (m : Nat) (i : Int) : Nat := if inn m i then m else 0
def putB (m b : Nat) (i : Int) : Nat := if inn m i then put b i.toNat else 0
def putE (m : Nat) (i : Int) : Int := if inn m i then 0 else 2
theorem put_gen (m b x n' b' : Nat) (e' : Int) (w : World) (h1 : putN m (x : Int) = n') (h2 : putB m b (x : Int) = b') (h3 : putE m (x : Int) = e') (hm : m ≤ 64) (hb : b < 18446744073709551616) :
    Calls Try.prog 13 #[.agg #[.int .i64 (m : Int), .int .u64 (b : Int)], .int .i64 (x : Int)] w fun e w' => e = .returned (.tuple #[.agg #[.int .i64 (n' : Nat), .int .u64 (b' : Nat)], .int .i64 e']) ∧ Below w.heap.size w w' := by
  have := bput_any m b x w hm hb
  subst h1 h2 h3
  unfold putN putB putE
  by_cases h : inn m (x : Int) = true
  · rw [if_pos h] at this ⊢
    simp only [h, if_true] at this ⊢
    exact this
  · rw [if_neg h] at this ⊢
    simp only [h] at this ⊢
    exact this
theorem Kp.old {w W : World} {bs : List (Nat × Nat × Nat)} (h : Kp w W bs) {p : Addr} {v : Value} (hc : w.cell? p = some v) : W.cell? p = some v := (h.1.cell (World.block_lt_of_cell? w p hc)).trans hc
theorem Kp.head0 {w W : World} {g n b : Nat} {bs : List (Nat × Nat × Nat)} (h : Kp w W ((g, n, b) :: bs)) : W.cell? ⟨g, 0, none⟩ = some (.int .i64 (n : Int)) := h.c0 List.mem_cons_self
theorem Kp.head1 {w W : World} {g n b : Nat} {bs : List (Nat × Nat × Nat)} (h : Kp w W ((g, n, b) :: bs)) : W.cell? ⟨g, 1, none⟩ = some (.int .u64 (b : Int)) := h.c1 List.mem_cons_self
/-- A store of a whole row into a cell of its own. -/
theorem Kp.putNew {w W : World} {bs : List (Nat × Nat × Nat)} (h : Kp w W bs) {g : Nat} {x y : Value} (hB : Blk W g #[x, y] 26) (hg : w.heap.size ≤ g) (hne : ∀ p ∈ bs, p.1 ≠ g) (n b : Nat) : Kp w ((W.setCell ⟨g, 0, none⟩ (.int .i64 (n : Int))).setCell ⟨g, 1, none⟩ (.int .u64 (b : Int))) ((g, n, b) :: bs) :=
  ⟨Below.set2 h.1 hg _ _, fun p hp => by
    rcases List.mem_cons.1 hp with rfl | hp
    · exact hB.set2 _ _
    · exact ((h.2 p hp).setOther (fun e => hne p hp e.symm) _).setOther (fun e => hne p hp e.symm) _⟩
theorem Kp.upd {w W : World} {bs cs : List (Nat × Nat × Nat)} (h : Kp w W bs) {g n b : Nat} (hm : (g, n, b) ∈ bs) (hw : w.heap.size ≤ g) (n' b' : Nat) (hcs : ∀ p ∈ cs, p = (g, n', b') ∨ (p ∈ bs ∧ p.1 ≠ g)) :
    Kp w ((W.setCell ⟨g, 0, none⟩ (.int .i64 (n' : Int))).setCell ⟨g, 1, none⟩ (.int .u64 (b' : Int))) cs :=
  ⟨Below.set2 h.1 hw _ _, fun p hp => by
    rcases hcs p hp with rfl | ⟨hb, hne⟩
    · exact (h.2 _ hm).set2 _ _
    · exact ((h.2 p hb).setOther (fun e => hne e.symm) _).setOther (fun e => hne e.symm) _⟩

set_option maxRecDepth 100000 in
set_option maxHeartbeats 4000000 in
theorem w_BitsTurned (a0 : Int) (a1 : Option Addr) (n1 c1 : Nat) (w : World) (b0 : -9223372036854775808 ≤ a0 ∧ a0 ≤ 9223372036854775807) (b1 : Sh.Is w (.slice 1 (.int .u8)) [.slice a1 n1 c1]) :
    Calls Try.prog 8 #[.int .i64 a0, .slice a1 n1 c1] w fun e w' => e = .returned (.bool true) ∧ Below w.heap.size w w' := by
  obtain ⟨ys, yl, hc, hnc, hr, hb⟩ := is_bytes b1
  subst yl
  obtain ⟨m, hM⟩ : ∃ m, newOf a0 = m := ⟨_, rfl⟩
  obtain ⟨o, hO⟩ : ∃ o : Nat, o = 0 := ⟨0, rfl⟩
  have hm : m ≤ 64 := hM ▸ newOf_le a0
  have HM := Lib.hid hM; have HO := Lib.hid hO; have HR := Lib.hid hr; have HB := Lib.hid hb
  clear hM hO hr hb b1 hnc
  obtain ⟨K, hK⟩ : ∃ K, min ys.length 100 = K := ⟨_, rfl⟩
  have HK := Lib.hid hK
  clear hK
  go_enter Try.func8, Try.ntmps8
  go_upto_region 4 with (first
    | (go_at_call 10; refine (awake_any _).mono ?_; rintro e1 w1 ⟨rfl, B1⟩; have K1 := Lib.hid (Kp.nil B1); clear B1)
    | (go_at_call 11; with_reducible refine (new_eq a0 m o _ HM.out HO.out).mono ?_; rintro e2 w2 ⟨rfl, B2⟩; have K2 := Lib.hid (K1.out.step B2); clear B2 K1)
    | (go_at_call 11; with_reducible refine (new_eq a0 m o _ HM.out HO.out).mono ?_; rintro e3 w3 ⟨rfl, B3⟩; have h := ((K2.out.step B3).new m o).new m o; have hg : (w3.alloc (.cells (rc m o) 26)).heap.size = w3.heap.size + 1 := by simp
       rw [hg] at h
       have hw3 := (K2.out.step B3).bel.size
       have K3 := Lib.hid h; clear B3 K2 h hg))
  go_cut [7] (fun s7 wx => s7 = .int .i64 (K : Int) ∧ Kp w wx [(w3.heap.size + 1, m, o), (w3.heap.size, m, o)])
  case first =>
    go_wp2
    all_goals
      go_meet
      exact ⟨by have := HK.out; congr 1; omega, K3.out⟩
  case rest =>
  obtain ⟨rfl, hkp⟩ := hcut
  clear K3
  have K0 := Lib.hid hkp
  clear hkp
  have hgb : w.heap.size ≤ w3.heap.size + 1 := by omega
  have hab : w3.heap.size ≠ w3.heap.size + 1 := by omega
  generalize w3.heap.size + 1 = gb at *
  generalize w3.heap.size = ga at *
  obtain ⟨xs, hxs⟩ : ∃ xs, (ys.take K).map (· % 64) = xs := ⟨_, rfl⟩
  have hKL : K = xs.length := by rw [← hxs]; have := HK.out; simp; omega
  have hK1 : xs.length ≤ ys.length := by rw [← hKL]; have := HK.out; omega
  have hK2 : xs.length ≤ 100 := by rw [← hKL]; have := HK.out; omega
  have HX := Lib.hid (show ∀ j (hj : j < xs.length), xs[j] = ys[j]'(by omega) % 64 by intro j hj; subst hxs; simp)
  subst hKL
  clear HK hxs
  go_wp2
  go_loopg [8] xs.length (fun gk s8 wr => ∃ k : Nat, s8 = .int .i64 (k : Int) ∧ k ≤ xs.length ∧ gk = xs.length - k ∧ Kp w wr [(gb, m, mk m (xs.reverse.take k)), (ga, m, mk m (xs.take k))])
  case atStart => exact ⟨0, rfl, by omega, by omega, by have := K0.out; rw [HO.out] at this; exact this⟩
  case round =>
    obtain ⟨k, rfl, hk, hgk, hkp⟩ := hrel
    clear K0
    have K0 := Lib.hid hkp
    clear hkp
    by_cases hlt : k < xs.length
    · have hlt' : decide ((k : Int) < (xs.length : Int)) = true := by simp; omega
      have hky : k < ys.length := by omega
      have hlty : (k : Int) < (ys.length : Int) := by omega
      have hsum : IntKind.i64.wrap ((k : Int) + 1) = (k : Int) + 1 := IntWalk.i64_in _ (by omega)
      have HSA := Lib.hid (mk_succ m xs hlt)
      have HSB := Lib.hid (mk_succ m xs.reverse (k := k) (by simpa using hlt))
      have hja : xs.length - 1 - k < xs.length := by omega
      obtain ⟨x, hx⟩ : ∃ x, xs[k] = x := ⟨_, rfl⟩
      obtain ⟨x', hx'⟩ : ∃ x', xs[xs.length - 1 - k] = x' := ⟨_, rfl⟩
      rw [List.getElem_reverse] at HSB
      rw [hx'] at HSB
      rw [hx] at HSA
      obtain ⟨b1, o1, rfl, c1⟩ := HR.out.at_ (f := fun x : Nat => Value.int .u8 (x : Int)) k hky
      obtain ⟨b2, o2, he2, c2⟩ := HR.out.at_ (f := fun x : Nat => Value.int .u8 (x : Int)) (xs.length - 1 - k) (by omega)
      simp only [Option.some.injEq, Addr.mk.injEq, and_true] at he2
      obtain ⟨rfl, rfl⟩ := he2
      obtain ⟨y, hy⟩ : ∃ y, ys[k] = y := ⟨_, rfl⟩
      obtain ⟨y', hy'⟩ : ∃ y', ys[xs.length - 1 - k]'(by omega) = y' := ⟨_, rfl⟩
      have e1 : x = y % 64 := by rw [← hx, ← hy]; exact HX.out k hlt
      have e2 : x' = y' % 64 := by rw [← hx', ← hy']; exact HX.out _ hja
      have hyb : y < 256 := by rw [← hy]; exact HB.out _ (List.getElem_mem _)
      have hyb' : y' < 256 := by rw [← hy']; exact HB.out _ (List.getElem_mem _)
      rw [hy] at c1
      rw [hy'] at c2
      have HC1 := Lib.hid c1; have HC2 := Lib.hid c2; have E1 := Lib.hid e1; have E2 := Lib.hid e2
      have YW1 := Lib.hid (rem_walk hyb e1)
      have YW2 := Lib.hid (rem_walk hyb' e2)
      clear c1 c2 e1 e2 hx hx' hy hy'
      have hba := mk_lt hm (xs.take k)
      have hbb := mk_lt hm (xs.reverse.take k)
      generalize mk m (xs.take k) = ba at *
      generalize mk m (xs.reverse.take k) = bb at *
      obtain ⟨nn, hnn⟩ : ∃ n, putN m (x : Int) = n := ⟨_, rfl⟩
      obtain ⟨pb, hpb⟩ : ∃ n, putB m ba (x : Int) = n := ⟨_, rfl⟩
      obtain ⟨ee, hee⟩ : ∃ n, putE m (x : Int) = n := ⟨_, rfl⟩
      have HNN := Lib.hid hnn; have HPB := Lib.hid hpb; have HEE := Lib.hid hee
      clear hnn hpb hee
      go_upto_region 8 with fail
      go_cut [9, 10] (fun s9 s10 wx => ∃ gx, s9 = .pointer (some ⟨gx, 0, none⟩) ∧ s10 = .int .i64 ee ∧ Kp w wx [(gx, nn, pb), (gb, m, bb), (ga, m, ba)])
      case first =>
        have c0 := Kp.c0 K0.out (g := ga) (n := m) (b := ba) (by simp)
        have c1 := Kp.c1 K0.out (g := ga) (n := m) (b := ba) (by simp)
        have cb := K0.out.old HC1.out
        have HS0 : Hid (wr.cell? ⟨ga, 0, none⟩ = some (.int .i64 m) ∧ wr.cell? ⟨ga, 1, none⟩ = some (.int .u64 ba) ∧ wr.cell? ⟨b1, o1 + k, none⟩ = some (.int .u8 y)) := Lib.hid ⟨Kp.c0 K0.out (g := ga) (n := m) (b := ba) (by simp), Kp.c1 K0.out (g := ga) (n := m) (b := ba) (by simp), Kp.old K0.out HC1.out⟩
        refine wp_region_held_drew (S := fun w' => w'.cell? ⟨ga, 0, none⟩ = some (.int .i64 m) ∧ w'.cell? ⟨ga, 1, none⟩ = some (.int .u64 ba) ∧ w'.cell? ⟨b1, o1 + k, none⟩ = some (.int .u8 y)) (by kernel_rfl) HS0.out (fun hHeld => ?_)
        refine region_take (i := 0) (d := 35) (v := ?_) rfl rfl (by kernel_rfl) (by kernel_rfl) (by kernel_rfl) (fun _ _ _ h => h) (Or.inl ⟨by rfl, ?_⟩) (by assumption) ?_
        rotate_left
        · (intro w hSw; (try dsimp only at hSw); go_simp; first | done | with_reducible rfl)
        try simp only [List.setIfInBounds_toArray, List.set_cons_zero, List.set_cons_succ]
        refine region_take (i := 1) (d := 36) (v := ?_) rfl rfl (by kernel_rfl) (by kernel_rfl) (by kernel_rfl) (fun _ _ _ h => h) (Or.inl ⟨by rfl, ?_⟩) (by assumption) ?_
        rotate_left
        · (intro w hSw; (try dsimp only at hSw); go_simp; first | done | with_reducible rfl)
        try simp only [List.setIfInBounds_toArray, List.set_cons_zero, List.set_cons_succ]
        refine region_take (i := 2) (d := 37) (v := ?_) rfl rfl (by kernel_rfl) (by kernel_rfl) (by kernel_rfl) (fun _ _ _ h => h) (Or.inl ⟨by rfl, ?_⟩) (by assumption) ?_
        rotate_left
        · (intro w hSw; (try dsimp only at hSw); go_simp; first | done | with_reducible rfl)
        try simp only [List.setIfInBounds_toArray, List.set_cons_zero, List.set_cons_succ]
        refine region_take (i := 3) (d := 38) (v := ?_) rfl rfl (by kernel_rfl) (by kernel_rfl) (by kernel_rfl) (fun _ _ _ h => h) (Or.inl ⟨by rfl, ?_⟩) (by assumption) ?_
        rotate_left
        · (intro w hSw; (try dsimp only at hSw); go_simp; first | done | with_reducible rfl)
        try simp only [List.setIfInBounds_toArray, List.set_cons_zero, List.set_cons_succ]
        refine region_take (i := 4) (d := 39) (v := ?_) rfl rfl (by kernel_rfl) (by kernel_rfl) (by kernel_rfl) (fun _ _ _ h => h) (Or.inl ⟨by rfl, ?_⟩) (by assumption) ?_
        rotate_left
        · (intro w hSw; (try dsimp only at hSw); go_simp; first | done | with_reducible rfl)
        try simp only [List.setIfInBounds_toArray, List.set_cons_zero, List.set_cons_succ]
        refine region_take (i := 5) (d := 40) (v := ?_) rfl rfl (by kernel_rfl) (by kernel_rfl) (by kernel_rfl) (fun _ _ _ h => h) (Or.inl ⟨by rfl, ?_⟩) (by assumption) ?_
        rotate_left
        · (intro w hSw; (try dsimp only at hSw); go_simp; first | done | with_reducible rfl)
        try simp only [List.setIfInBounds_toArray, List.set_cons_zero, List.set_cons_succ]
        refine region_take (i := 6) (d := 41) (v := ?_) rfl rfl (by kernel_rfl) (by kernel_rfl) (by kernel_rfl) (fun _ _ _ h => h) (Or.inl ⟨by rfl, ?_⟩) (by assumption) ?_
        rotate_left
        · (intro w hSw; (try dsimp only at hSw); go_simp; first | done | with_reducible rfl)
        try simp only [List.setIfInBounds_toArray, List.set_cons_zero, List.set_cons_succ]
        refine wpAnyH_ready (rs := [7, 11]) (by kernel_rfl) (by simp) ?_
        refine AllReadyH.cons rfl (fun K hK => ?_) (AllReadyH.cons rfl (fun K hK => ?_) AllReadyH.nil)
        · go_simp
          go_wp2_with ((go_at_call 13; rw [YW1.out]; with_reducible refine (put_gen m ba x nn pb ee _ HNN.out HPB.out HEE.out hm hba).mono ?_; rintro e w1 ⟨rfl, B⟩; have K1 := Lib.hid (K0.out.drew.step B); clear B))
          refine hK.out _ _ ⟨Kp.c0 K1.out (g := ga) (n := m) (b := ba) (by simp), Kp.c1 K1.out (g := ga) (n := m) (b := ba) (by simp), Kp.old K1.out HC1.out⟩ (fun hHeld => ?_)
          try simp only [List.setIfInBounds_toArray, List.set_cons_zero, List.set_cons_succ]
          refine region_take (i := 8) (d := 34) (v := ?_) rfl rfl (by kernel_rfl) (by kernel_rfl) (by kernel_rfl) (fun _ _ _ h => h) (Or.inl ⟨by rfl, ?_⟩) (by assumption) ?_
          rotate_left
          · (intro w hSw; (try dsimp only at hSw); go_simp; first | done | with_reducible rfl)
          try simp only [List.setIfInBounds_toArray, List.set_cons_zero, List.set_cons_succ]
          refine region_take (i := 9) (d := 43) (v := ?_) rfl rfl (by kernel_rfl) (by kernel_rfl) (by kernel_rfl) (fun _ _ _ h => h) (Or.inl ⟨by rfl, ?_⟩) (by assumption) ?_
          rotate_left
          · (intro w hSw; (try dsimp only at hSw); go_simp; first | done | with_reducible rfl)
          try simp only [List.setIfInBounds_toArray, List.set_cons_zero, List.set_cons_succ]
          refine region_take (i := 10) (d := 44) (v := ?_) rfl rfl (by kernel_rfl) (by kernel_rfl) (by kernel_rfl) (fun _ _ _ h => h) (Or.inl ⟨by rfl, ?_⟩) (by assumption) ?_
          rotate_left
          · (intro w hSw; (try dsimp only at hSw); go_simp; first | done | with_reducible rfl)
          try simp only [List.setIfInBounds_toArray, List.set_cons_zero, List.set_cons_succ]
          refine wpAnyH_ready (rs := [11]) (by kernel_rfl) (by simp) ?_
          refine AllReadyH.cons rfl (fun K hK => ?_) AllReadyH.nil
          go_simp
          refine hK.out _ _ ⟨Kp.c0 (K1.out.more (.cells #[.int .i64 0, .int .u64 0] 26)) (g := ga) (n := m) (b := ba) (by simp), Kp.c1 (K1.out.more (.cells #[.int .i64 0, .int .u64 0] 26)) (g := ga) (n := m) (b := ba) (by simp), Kp.old (K1.out.more (.cells #[.int .i64 0, .int .u64 0] 26)) HC1.out⟩ (fun hHeld => ?_)
          try simp only [List.setIfInBounds_toArray, List.set_cons_zero, List.set_cons_succ]
          refine wpAnyH_ready (rs := [12]) (by kernel_rfl) (by simp) ?_
          refine AllReadyH.cons rfl (fun K hK => ?_) AllReadyH.nil
          go_simp
          have K3 := Lib.hid (K1.out.new nn pb)
          refine hK.out _ _ ⟨Kp.c0 K3.out (g := ga) (n := m) (b := ba) (by simp), Kp.c1 K3.out (g := ga) (n := m) (b := ba) (by simp), Kp.old K3.out HC1.out⟩ (fun hHeld => ?_)
          try simp only [List.setIfInBounds_toArray, List.set_cons_zero, List.set_cons_succ]
          refine region_take (i := 13) (d := 10) (v := ?_) rfl rfl (by kernel_rfl) (by kernel_rfl) (by kernel_rfl) (fun _ _ _ h => h) (Or.inl ⟨by rfl, ?_⟩) (by assumption) ?_
          rotate_left
          · (intro w hSw; (try dsimp only at hSw); go_simp; first | done | with_reducible rfl)
          try simp only [List.setIfInBounds_toArray, List.set_cons_zero, List.set_cons_succ]
          refine wpAnyH_done (by kernel_rfl) ?_ _
          go_wp2
          go_meet
          exact ⟨_, rfl, rfl, K3.out⟩
        · go_simp
          have K1 := Lib.hid (K0.out.more (.cells #[.int .i64 0, .int .u64 0] 26)).drew
          have hB0 := Lib.hid (Blk.new wr #[.int .i64 0, .int .u64 0] 26).drew
          refine hK.out _ _ ⟨Kp.c0 K1.out (g := ga) (n := m) (b := ba) (by simp), Kp.c1 K1.out (g := ga) (n := m) (b := ba) (by simp), Kp.old K1.out HC1.out⟩ (fun hHeld => ?_)
          try simp only [List.setIfInBounds_toArray, List.set_cons_zero, List.set_cons_succ]
          refine wpAnyH_ready (rs := [7]) (by kernel_rfl) (by simp) ?_
          refine AllReadyH.cons rfl (fun K hK => ?_) AllReadyH.nil
          go_simp
          go_wp2_with ((go_at_call 13; rw [YW1.out]; with_reducible refine (put_gen m ba x nn pb ee _ HNN.out HPB.out HEE.out hm hba).mono ?_; rintro e w1 ⟨rfl, B⟩; have K2 := Lib.hid (K1.out.step B); have hBz := hB0.out.below B; obtain ⟨z0, z1, fz0, fz1⟩ := hBz.c2; have HBZ := Lib.hid hBz; clear B hBz))
          refine hK.out _ _ ⟨Kp.c0 K2.out (g := ga) (n := m) (b := ba) (by simp), Kp.c1 K2.out (g := ga) (n := m) (b := ba) (by simp), Kp.old K2.out HC1.out⟩ (fun hHeld => ?_)
          try simp only [List.setIfInBounds_toArray, List.set_cons_zero, List.set_cons_succ]
          refine region_take (i := 8) (d := 34) (v := ?_) rfl rfl (by kernel_rfl) (by kernel_rfl) (by kernel_rfl) (fun _ _ _ h => h) (Or.inl ⟨by rfl, ?_⟩) (by assumption) ?_
          rotate_left
          · (intro w hSw; (try dsimp only at hSw); go_simp; first | done | with_reducible rfl)
          try simp only [List.setIfInBounds_toArray, List.set_cons_zero, List.set_cons_succ]
          refine region_take (i := 9) (d := 43) (v := ?_) rfl rfl (by kernel_rfl) (by kernel_rfl) (by kernel_rfl) (fun _ _ _ h => h) (Or.inl ⟨by rfl, ?_⟩) (by assumption) ?_
          rotate_left
          · (intro w hSw; (try dsimp only at hSw); go_simp; first | done | with_reducible rfl)
          try simp only [List.setIfInBounds_toArray, List.set_cons_zero, List.set_cons_succ]
          refine region_take (i := 10) (d := 44) (v := ?_) rfl rfl (by kernel_rfl) (by kernel_rfl) (by kernel_rfl) (fun _ _ _ h => h) (Or.inl ⟨by rfl, ?_⟩) (by assumption) ?_
          rotate_left
          · (intro w hSw; (try dsimp only at hSw); go_simp; first | done | with_reducible rfl)
          try simp only [List.setIfInBounds_toArray, List.set_cons_zero, List.set_cons_succ]
          refine wpAnyH_ready (rs := [12]) (by kernel_rfl) (by simp) ?_
          refine AllReadyH.cons rfl (fun K hK => ?_) AllReadyH.nil
          go_simp
          have K3 := Lib.hid (K2.out.putNew HBZ.out K0.out.bel.size (fun p hp he => by have := (K0.out.2 p hp).lt; omega) nn pb)
          refine hK.out _ _ ⟨Kp.c0 K3.out (g := ga) (n := m) (b := ba) (by simp), Kp.c1 K3.out (g := ga) (n := m) (b := ba) (by simp), Kp.old K3.out HC1.out⟩ (fun hHeld => ?_)
          try simp only [List.setIfInBounds_toArray, List.set_cons_zero, List.set_cons_succ]
          refine region_take (i := 13) (d := 10) (v := ?_) rfl rfl (by kernel_rfl) (by kernel_rfl) (by kernel_rfl) (fun _ _ _ h => h) (Or.inl ⟨by rfl, ?_⟩) (by assumption) ?_
          rotate_left
          · (intro w hSw; (try dsimp only at hSw); go_simp; first | done | with_reducible rfl)
          try simp only [List.setIfInBounds_toArray, List.set_cons_zero, List.set_cons_succ]
          refine wpAnyH_done (by kernel_rfl) ?_ _
          go_wp2
          go_meet
          exact ⟨_, rfl, rfl, K3.out⟩
      case rest =>
      obtain ⟨gx, rfl, rfl, hkp⟩ := hcut
      clear K0
      have K4 := Lib.hid hkp
      clear hkp
      go_upto_if 46 with fail
      go_cut [] (fun wx => Kp w wx [(gb, m, bb), (ga, m, st m ba x)])
      case first =>
        have c0 := K4.out.head0
        have c1 := K4.out.head1
        obtain ⟨d0, d1, f0, f1⟩ := (K4.out.mem (g := ga) (n := m) (b := ba) (by simp)).c2
        by_cases hin : x < m
        · have hi2 : inn m (x : Int) = true := by simp [inn]; omega
          have q : (ee == 0) = true := by rw [← HEE.out, putE, if_pos hi2]; rfl
          go_wp2
          go_meet
          have hn : nn = m := by rw [← HNN.out, putN, if_pos hi2]
          have hp : pb = st m ba x := by rw [← HPB.out, putB, if_pos hi2, st, if_pos hin, Int.toNat_natCast]
          rw [← hp]
          have hga : w.heap.size ≤ ga := by omega
          have K5 := K4.out
          rw [hn] at K5 ⊢
          exact K5.upd (g := ga) (n := m) (b := ba) (by simp) hga _ _ (fun p hp => by
            simp only [List.mem_cons, List.not_mem_nil, or_false] at hp
            rcases hp with rfl | rfl
            · exact .inr ⟨by simp, by simp only; omega⟩
            · exact .inl rfl)
        · have hi2 : inn m (x : Int) = false := by simp [inn]; omega
          have q : (ee == 0) = false := by rw [← HEE.out, putE, if_neg (by rw [hi2]; decide)]; rfl
          go_wp2
          go_meet
          rw [st, if_neg hin]
          exact K4.out.sub (by simp)
      case rest =>
      clear K4
      have K0 := Lib.hid hcut
      clear hcut
      have hba2 := st_lt (x := x) hm hba
      generalize hst : st m ba x = ba2 at *
      clear HNN HPB HEE
      obtain ⟨nn, hnn⟩ : ∃ n, putN m (x' : Int) = n := ⟨_, rfl⟩
      obtain ⟨pb, hpb⟩ : ∃ n, putB m bb (x' : Int) = n := ⟨_, rfl⟩
      obtain ⟨ee, hee⟩ : ∃ n, putE m (x' : Int) = n := ⟨_, rfl⟩
      have HNN := Lib.hid hnn; have HPB := Lib.hid hpb; have HEE := Lib.hid hee; have HST := Lib.hid hst
      clear hnn hpb hee hst
      go_upto_region 11 with fail
      go_cut [11, 12] (fun s9 s10 wx => ∃ gx, s9 = .pointer (some ⟨gx, 0, none⟩) ∧ s10 = .int .i64 ee ∧ Kp w wx [(gx, nn, pb), (gb, m, bb), (ga, m, ba2)])
      case first =>
        have hs1 : IntKind.i64.wrap ((xs.length : Int) - 1) = (xs.length : Int) - 1 := IntWalk.i64_in _ (by omega)
        have hs2 : IntKind.i64.wrap ((xs.length : Int) - 1 - (k : Int)) = ((xs.length - 1 - k : Nat) : Int) := by rw [IntWalk.i64_in _ (by omega)]; omega
        have hlt2 : ((xs.length - 1 - k : Nat) : Int) < (ys.length : Int) := by omega
        generalize xs.length - 1 - k = jj at *
        have HS0 : Hid (wc.cell? ⟨gb, 0, none⟩ = some (.int .i64 m) ∧ wc.cell? ⟨gb, 1, none⟩ = some (.int .u64 bb) ∧ wc.cell? ⟨b1, o1 + jj, none⟩ = some (.int .u8 y')) := Lib.hid ⟨Kp.c0 K0.out (g := gb) (n := m) (b := bb) (by simp), Kp.c1 K0.out (g := gb) (n := m) (b := bb) (by simp), Kp.old K0.out HC2.out⟩
        refine wp_region_held_drew (S := fun w' => w'.cell? ⟨gb, 0, none⟩ = some (.int .i64 m) ∧ w'.cell? ⟨gb, 1, none⟩ = some (.int .u64 bb) ∧ w'.cell? ⟨b1, o1 + jj, none⟩ = some (.int .u8 y')) (by kernel_rfl) HS0.out (fun hHeld => ?_)
        refine region_take (i := 0) (d := 49) (v := ?_) rfl rfl (by kernel_rfl) (by kernel_rfl) (by kernel_rfl) (fun _ _ _ h => h) (Or.inl ⟨by rfl, ?_⟩) (by assumption) ?_
        rotate_left
        · (intro w hSw; (try dsimp only at hSw); go_simp; first | done | with_reducible rfl)
        try simp only [List.setIfInBounds_toArray, List.set_cons_zero, List.set_cons_succ]
        refine region_take (i := 1) (d := 50) (v := ?_) rfl rfl (by kernel_rfl) (by kernel_rfl) (by kernel_rfl) (fun _ _ _ h => h) (Or.inl ⟨by rfl, ?_⟩) (by assumption) ?_
        rotate_left
        · (intro w hSw; (try dsimp only at hSw); go_simp; first | done | with_reducible rfl)
        try simp only [List.setIfInBounds_toArray, List.set_cons_zero, List.set_cons_succ]
        refine region_take (i := 2) (d := 51) (v := ?_) rfl rfl (by kernel_rfl) (by kernel_rfl) (by kernel_rfl) (fun _ _ _ h => h) (Or.inl ⟨by rfl, ?_⟩) (by assumption) ?_
        rotate_left
        · (intro w hSw; (try dsimp only at hSw); go_simp; first | done | with_reducible rfl)
        try simp only [List.setIfInBounds_toArray, List.set_cons_zero, List.set_cons_succ]
        refine region_take (i := 3) (d := 52) (v := ?_) rfl rfl (by kernel_rfl) (by kernel_rfl) (by kernel_rfl) (fun _ _ _ h => h) (Or.inl ⟨by rfl, ?_⟩) (by assumption) ?_
        rotate_left
        · (intro w hSw; (try dsimp only at hSw); go_simp; first | done | with_reducible rfl)
        try simp only [List.setIfInBounds_toArray, List.set_cons_zero, List.set_cons_succ]
        refine region_take (i := 4) (d := 53) (v := ?_) rfl rfl (by kernel_rfl) (by kernel_rfl) (by kernel_rfl) (fun _ _ _ h => h) (Or.inl ⟨by rfl, ?_⟩) (by assumption) ?_
        rotate_left
        · (intro w hSw; (try dsimp only at hSw); go_simp; first | done | with_reducible rfl)
        try simp only [List.setIfInBounds_toArray, List.set_cons_zero, List.set_cons_succ]
        refine region_take (i := 5) (d := 54) (v := ?_) rfl rfl (by kernel_rfl) (by kernel_rfl) (by kernel_rfl) (fun _ _ _ h => h) (Or.inl ⟨by rfl, ?_⟩) (by assumption) ?_
        rotate_left
        · (intro w hSw; (try dsimp only at hSw); go_simp; first | done | with_reducible rfl)
        try simp only [List.setIfInBounds_toArray, List.set_cons_zero, List.set_cons_succ]
        refine region_take (i := 6) (d := 55) (v := ?_) rfl rfl (by kernel_rfl) (by kernel_rfl) (by kernel_rfl) (fun _ _ _ h => h) (Or.inl ⟨by rfl, ?_⟩) (by assumption) ?_
        rotate_left
        · (intro w hSw; (try dsimp only at hSw); go_simp; first | done | with_reducible rfl)
        try simp only [List.setIfInBounds_toArray, List.set_cons_zero, List.set_cons_succ]
        refine region_take (i := 7) (d := 56) (v := ?_) rfl rfl (by kernel_rfl) (by kernel_rfl) (by kernel_rfl) (fun _ _ _ h => h) (Or.inl ⟨by rfl, ?_⟩) (by assumption) ?_
        rotate_left
        · (intro w hSw; (try dsimp only at hSw); go_simp; first | done | with_reducible rfl)
        try simp only [List.setIfInBounds_toArray, List.set_cons_zero, List.set_cons_succ]
        refine region_take (i := 8) (d := 57) (v := ?_) rfl rfl (by kernel_rfl) (by kernel_rfl) (by kernel_rfl) (fun _ _ _ h => h) (Or.inl ⟨by rfl, ?_⟩) (by assumption) ?_
        rotate_left
        · (intro w hSw; (try dsimp only at hSw); go_simp; first | done | with_reducible rfl)
        try simp only [List.setIfInBounds_toArray, List.set_cons_zero, List.set_cons_succ]
        refine region_take (i := 9) (d := 58) (v := ?_) rfl rfl (by kernel_rfl) (by kernel_rfl) (by kernel_rfl) (fun _ _ _ h => h) (Or.inl ⟨by rfl, ?_⟩) (by assumption) ?_
        rotate_left
        · (intro w hSw; (try dsimp only at hSw); go_simp; first | done | with_reducible rfl)
        try simp only [List.setIfInBounds_toArray, List.set_cons_zero, List.set_cons_succ]
        refine wpAnyH_ready (rs := [10, 14]) (by kernel_rfl) (by simp) ?_
        refine AllReadyH.cons rfl (fun K hK => ?_) (AllReadyH.cons rfl (fun K hK => ?_) AllReadyH.nil)
        · go_simp
          go_wp2_with ((go_at_call 13; rw [YW2.out]; with_reducible refine (put_gen m bb x' nn pb ee _ HNN.out HPB.out HEE.out hm hbb).mono ?_; rintro e w1 ⟨rfl, B⟩; have K1 := Lib.hid (K0.out.drew.step B); clear B))
          refine hK.out _ _ ⟨Kp.c0 K1.out (g := gb) (n := m) (b := bb) (by simp), Kp.c1 K1.out (g := gb) (n := m) (b := bb) (by simp), Kp.old K1.out HC2.out⟩ (fun hHeld => ?_)
          try simp only [List.setIfInBounds_toArray, List.set_cons_zero, List.set_cons_succ]
          refine region_take (i := 11) (d := 48) (v := ?_) rfl rfl (by kernel_rfl) (by kernel_rfl) (by kernel_rfl) (fun _ _ _ h => h) (Or.inl ⟨by rfl, ?_⟩) (by assumption) ?_
          rotate_left
          · (intro w hSw; (try dsimp only at hSw); go_simp; first | done | with_reducible rfl)
          try simp only [List.setIfInBounds_toArray, List.set_cons_zero, List.set_cons_succ]
          refine region_take (i := 12) (d := 60) (v := ?_) rfl rfl (by kernel_rfl) (by kernel_rfl) (by kernel_rfl) (fun _ _ _ h => h) (Or.inl ⟨by rfl, ?_⟩) (by assumption) ?_
          rotate_left
          · (intro w hSw; (try dsimp only at hSw); go_simp; first | done | with_reducible rfl)
          try simp only [List.setIfInBounds_toArray, List.set_cons_zero, List.set_cons_succ]
          refine region_take (i := 13) (d := 61) (v := ?_) rfl rfl (by kernel_rfl) (by kernel_rfl) (by kernel_rfl) (fun _ _ _ h => h) (Or.inl ⟨by rfl, ?_⟩) (by assumption) ?_
          rotate_left
          · (intro w hSw; (try dsimp only at hSw); go_simp; first | done | with_reducible rfl)
          try simp only [List.setIfInBounds_toArray, List.set_cons_zero, List.set_cons_succ]
          refine wpAnyH_ready (rs := [14]) (by kernel_rfl) (by simp) ?_
          refine AllReadyH.cons rfl (fun K hK => ?_) AllReadyH.nil
          go_simp
          refine hK.out _ _ ⟨Kp.c0 (K1.out.more (.cells #[.int .i64 0, .int .u64 0] 26)) (g := gb) (n := m) (b := bb) (by simp), Kp.c1 (K1.out.more (.cells #[.int .i64 0, .int .u64 0] 26)) (g := gb) (n := m) (b := bb) (by simp), Kp.old (K1.out.more (.cells #[.int .i64 0, .int .u64 0] 26)) HC2.out⟩ (fun hHeld => ?_)
          try simp only [List.setIfInBounds_toArray, List.set_cons_zero, List.set_cons_succ]
          refine wpAnyH_ready (rs := [15]) (by kernel_rfl) (by simp) ?_
          refine AllReadyH.cons rfl (fun K hK => ?_) AllReadyH.nil
          go_simp
          have K3 := Lib.hid (K1.out.new nn pb)
          refine hK.out _ _ ⟨Kp.c0 K3.out (g := gb) (n := m) (b := bb) (by simp), Kp.c1 K3.out (g := gb) (n := m) (b := bb) (by simp), Kp.old K3.out HC2.out⟩ (fun hHeld => ?_)
          try simp only [List.setIfInBounds_toArray, List.set_cons_zero, List.set_cons_succ]
          refine region_take (i := 16) (d := 12) (v := ?_) rfl rfl (by kernel_rfl) (by kernel_rfl) (by kernel_rfl) (fun _ _ _ h => h) (Or.inl ⟨by rfl, ?_⟩) (by assumption) ?_
          rotate_left
          · (intro w hSw; (try dsimp only at hSw); go_simp; first | done | with_reducible rfl)
          try simp only [List.setIfInBounds_toArray, List.set_cons_zero, List.set_cons_succ]
          refine wpAnyH_done (by kernel_rfl) ?_ _
          go_wp2
          go_meet
          exact ⟨_, rfl, rfl, K3.out⟩
        · go_simp
          have K1 := Lib.hid (K0.out.more (.cells #[.int .i64 0, .int .u64 0] 26)).drew
          have hB0 := Lib.hid (Blk.new wc #[.int .i64 0, .int .u64 0] 26).drew
          refine hK.out _ _ ⟨Kp.c0 K1.out (g := gb) (n := m) (b := bb) (by simp), Kp.c1 K1.out (g := gb) (n := m) (b := bb) (by simp), Kp.old K1.out HC2.out⟩ (fun hHeld => ?_)
          try simp only [List.setIfInBounds_toArray, List.set_cons_zero, List.set_cons_succ]
          refine wpAnyH_ready (rs := [10]) (by kernel_rfl) (by simp) ?_
          refine AllReadyH.cons rfl (fun K hK => ?_) AllReadyH.nil
          go_simp
          go_wp2_with ((go_at_call 13; rw [YW2.out]; with_reducible refine (put_gen m bb x' nn pb ee _ HNN.out HPB.out HEE.out hm hbb).mono ?_; rintro e w1 ⟨rfl, B⟩; have K2 := Lib.hid (K1.out.step B); have hBz := hB0.out.below B; obtain ⟨z0, z1, fz0, fz1⟩ := hBz.c2; have HBZ := Lib.hid hBz; clear B hBz))
          refine hK.out _ _ ⟨Kp.c0 K2.out (g := gb) (n := m) (b := bb) (by simp), Kp.c1 K2.out (g := gb) (n := m) (b := bb) (by simp), Kp.old K2.out HC2.out⟩ (fun hHeld => ?_)
          try simp only [List.setIfInBounds_toArray, List.set_cons_zero, List.set_cons_succ]
          refine region_take (i := 11) (d := 48) (v := ?_) rfl rfl (by kernel_rfl) (by kernel_rfl) (by kernel_rfl) (fun _ _ _ h => h) (Or.inl ⟨by rfl, ?_⟩) (by assumption) ?_
          rotate_left
          · (intro w hSw; (try dsimp only at hSw); go_simp; first | done | with_reducible rfl)
          try simp only [List.setIfInBounds_toArray, List.set_cons_zero, List.set_cons_succ]
          refine region_take (i := 12) (d := 60) (v := ?_) rfl rfl (by kernel_rfl) (by kernel_rfl) (by kernel_rfl) (fun _ _ _ h => h) (Or.inl ⟨by rfl, ?_⟩) (by assumption) ?_
          rotate_left
          · (intro w hSw; (try dsimp only at hSw); go_simp; first | done | with_reducible rfl)
          try simp only [List.setIfInBounds_toArray, List.set_cons_zero, List.set_cons_succ]
          refine region_take (i := 13) (d := 61) (v := ?_) rfl rfl (by kernel_rfl) (by kernel_rfl) (by kernel_rfl) (fun _ _ _ h => h) (Or.inl ⟨by rfl, ?_⟩) (by assumption) ?_
          rotate_left
          · (intro w hSw; (try dsimp only at hSw); go_simp; first | done | with_reducible rfl)
          try simp only [List.setIfInBounds_toArray, List.set_cons_zero, List.set_cons_succ]
          refine wpAnyH_ready (rs := [15]) (by kernel_rfl) (by simp) ?_
          refine AllReadyH.cons rfl (fun K hK => ?_) AllReadyH.nil
          go_simp
          have K3 := Lib.hid (K2.out.putNew HBZ.out K0.out.bel.size (fun p hp he => by have := (K0.out.2 p hp).lt; omega) nn pb)
          refine hK.out _ _ ⟨Kp.c0 K3.out (g := gb) (n := m) (b := bb) (by simp), Kp.c1 K3.out (g := gb) (n := m) (b := bb) (by simp), Kp.old K3.out HC2.out⟩ (fun hHeld => ?_)
          try simp only [List.setIfInBounds_toArray, List.set_cons_zero, List.set_cons_succ]
          refine region_take (i := 16) (d := 12) (v := ?_) rfl rfl (by kernel_rfl) (by kernel_rfl) (by kernel_rfl) (fun _ _ _ h => h) (Or.inl ⟨by rfl, ?_⟩) (by assumption) ?_
          rotate_left
          · (intro w hSw; (try dsimp only at hSw); go_simp; first | done | with_reducible rfl)
          try simp only [List.setIfInBounds_toArray, List.set_cons_zero, List.set_cons_succ]
          refine wpAnyH_done (by kernel_rfl) ?_ _
          go_wp2
          go_meet
          exact ⟨_, rfl, rfl, K3.out⟩
      case rest =>
      obtain ⟨gy, rfl, rfl, hkp⟩ := hcut
      clear K0
      have K4 := Lib.hid hkp
      clear hkp
      have c0 := K4.out.head0
      have c1 := K4.out.head1
      obtain ⟨d0, d1, f0, f1⟩ := (K4.out.mem (g := gb) (n := m) (b := bb) (by simp)).c2
      by_cases hin : x' < m
      · have hi2 : inn m (x' : Int) = true := by simp [inn]; omega
        have q : (ee == 0) = true := by rw [← HEE.out, putE, if_pos hi2]; rfl
        have hn : nn = m := by rw [← HNN.out, putN, if_pos hi2]
        have hp : pb = st m bb x' := by rw [← HPB.out, putB, if_pos hi2, st, if_pos hin, Int.toNat_natCast]
        have HN := Lib.hid hn; have HP := Lib.hid hp
        clear hn hp
        go_wp2
        go_roundg (xs.length - (k + 1))
        case measure => omega
        case rel =>
          refine ⟨k + 1, by push_cast; rfl, by omega, by omega, ?_⟩
          rw [HSA.out, HSB.out, ← HP.out]
          have K5 := K4.out
          rw [HN.out] at K5 ⊢
          exact K5.upd (g := gb) (n := m) (b := bb) (by simp) hgb _ _ (fun p hp => by
            simp only [List.mem_cons, List.not_mem_nil, or_false] at hp
            rcases hp with rfl | rfl
            · exact .inl rfl
            · exact .inr ⟨by simp, by simp only; omega⟩)
      · have hi2 : inn m (x' : Int) = false := by simp [inn]; omega
        have q : (ee == 0) = false := by rw [← HEE.out, putE, if_neg (by rw [hi2]; decide)]; rfl
        go_wp2
        go_roundg (xs.length - (k + 1))
        case measure => omega
        case rel =>
          refine ⟨k + 1, by push_cast; rfl, by omega, by omega, ?_⟩
          rw [HSA.out, HSB.out, show st m bb x' = bb from if_neg hin]
          exact K4.out.sub (by simp)
    · have hlt' : decide ((k : Int) < (xs.length : Int)) = false := by simp; omega
      obtain rfl : k = xs.length := by omega
      rw [List.take_of_length_le (Nat.le_refl _), List.take_of_length_le (by simp), mk_reverse] at K0
      have hba := mk_lt hm xs
      generalize mk m xs = ba at *
      obtain ⟨s, hT⟩ : ∃ s, strOf (text m ba) = s := ⟨_, rfl⟩
      have HT := Lib.hid hT
      clear hT
      go_upto_region 14 with fail
      have HSa : Hid (wr.cell? ⟨ga, 0, none⟩ = some (.int .i64 m) ∧ wr.cell? ⟨ga, 1, none⟩ = some (.int .u64 ba) ∧ wr.cell? ⟨gb, 0, none⟩ = some (.int .i64 m) ∧ wr.cell? ⟨gb, 1, none⟩ = some (.int .u64 ba)) := Lib.hid ⟨Kp.c0 K0.out (g := ga) (n := m) (b := ba) (by simp), Kp.c1 K0.out (g := ga) (n := m) (b := ba) (by simp), Kp.c0 K0.out (g := gb) (n := m) (b := ba) (by simp), Kp.c1 K0.out (g := gb) (n := m) (b := ba) (by simp)⟩
      go_region_held3 (fun w' => w'.cell? ⟨ga, 0, none⟩ = some (.int .i64 m) ∧ w'.cell? ⟨ga, 1, none⟩ = some (.int .u64 ba) ∧ w'.cell? ⟨gb, 0, none⟩ = some (.int .i64 m) ∧ w'.cell? ⟨gb, 1, none⟩ = some (.int .u64 ba))
        (first | exact HSa.out | exact Sa1.out | exact Sa2.out)
        (first
        | (go_at_call 22; with_reducible refine (text_eq m ba s _ HT.out hm hba).mono ?_; rintro e wa1 ⟨rfl, B⟩; have h := K0.out.drew.step B; have Sa1 : Hid (wa1.cell? ⟨ga, 0, none⟩ = some (.int .i64 m) ∧ wa1.cell? ⟨ga, 1, none⟩ = some (.int .u64 ba) ∧ wa1.cell? ⟨gb, 0, none⟩ = some (.int .i64 m) ∧ wa1.cell? ⟨gb, 1, none⟩ = some (.int .u64 ba)) := Lib.hid ⟨Kp.c0 h (g := ga) (n := m) (b := ba) (by simp), Kp.c1 h (g := ga) (n := m) (b := ba) (by simp), Kp.c0 h (g := gb) (n := m) (b := ba) (by simp), Kp.c1 h (g := gb) (n := m) (b := ba) (by simp)⟩; have Ka1 := Lib.hid h; clear B h K0)
        | (go_at_call 22; with_reducible refine (text_eq m ba s _ HT.out hm hba).mono ?_; rintro e wa2 ⟨rfl, B⟩; have h := Ka1.out.step B; have Sa2 : Hid (wa2.cell? ⟨ga, 0, none⟩ = some (.int .i64 m) ∧ wa2.cell? ⟨ga, 1, none⟩ = some (.int .u64 ba) ∧ wa2.cell? ⟨gb, 0, none⟩ = some (.int .i64 m) ∧ wa2.cell? ⟨gb, 1, none⟩ = some (.int .u64 ba)) := Lib.hid ⟨Kp.c0 h (g := ga) (n := m) (b := ba) (by simp), Kp.c1 h (g := ga) (n := m) (b := ba) (by simp), Kp.c0 h (g := gb) (n := m) (b := ba) (by simp), Kp.c1 h (g := gb) (n := m) (b := ba) (by simp)⟩; have Ka2 := Lib.hid h; clear B h Ka1))
      generalize wa2 = W2 at *
      have KL := Lib.hid (show Kp w W2 [(ga, m, ba)] from Ka2.out.sub (by simp))
      clear Ka2 HSa Sa1 Sa2
      go_wp2
      go_loopg [13] m (fun gk s13 wr => ∃ k : Nat, s13 = .int .i64 (k : Int) ∧ k ≤ m ∧ gk = m - k ∧ Kp w wr [(ga, m, ba)])
      case atStart => exact ⟨0, rfl, by omega, by omega, KL.out⟩
      case round =>
        obtain ⟨k, rfl, hk2, hgk2, hkp⟩ := hrel
        clear KL
        have K0 := Lib.hid hkp
        clear hkp
        have c0 := Kp.c0 K0.out (g := ga) (n := m) (b := ba) (by simp)
        have c1 := Kp.c1 K0.out (g := ga) (n := m) (b := ba) (by simp)
        by_cases hlt2 : k < m
        · have hlt3 : decide ((k : Int) < (m : Int)) = true := by simp; omega
          have hsum : IntKind.i64.wrap ((k : Int) + 1) = (k : Int) + 1 := IntWalk.i64_in _ (by omega)
          have hin : inn m (k : Int) = true := by simp [inn]; omega
          obtain ⟨bx, hbx⟩ : ∃ q, put ba k = q := ⟨_, rfl⟩
          obtain ⟨bz, hbz⟩ : ∃ q, del ba k = q := ⟨_, rfl⟩
          have hx : bx < 18446744073709551616 := by rw [← hbx]; exact put_lt hba (by omega)
          have hz : bz < 18446744073709551616 := by rw [← hbz]; exact del_lt hba (by omega)
          have HBX := Lib.hid hbx; have HBZ := Lib.hid hbz
          have HBY := Lib.hid (show del bx k = bz by rw [← hbx, ← hbz]; exact del_put ba k)
          have HHA := Lib.hid (show has m bz (k : Int) = false by rw [← hbz, has_nat, testBit_del]; simp)
          have q : decide (((all m bx).length : Int) < ((all m ba).length : Int)) = false := by have := all_put_len m ba k; rw [hbx] at this; simp; omega
          have q3 : (all m ba).length ≤ (all m bx).length := by have := all_put_len m ba k; rwa [hbx] at this
          have q2 : decide ((all m bx).length < (all m ba).length) = false := by simp; omega
          clear hbx hbz
          obtain ⟨s2, hT2⟩ : ∃ s, strOf (text m bz) = s := ⟨_, rfl⟩
          have HT2 := Lib.hid hT2
          clear hT2
          go_upto_region 22 with (first
            | (go_at_call 25; with_reducible refine (blen_any m ba _).mono ?_; rintro e4 w4 ⟨rfl, B4⟩; have h := K0.out.step B4; clear c0 c1; have c0 := Kp.c0 h (g := ga) (n := m) (b := ba) (by simp); have c1 := Kp.c1 h (g := ga) (n := m) (b := ba) (by simp); have K4 := Lib.hid h; clear B4 h)
            | (go_at_call 13; with_reducible refine (put_in m ba (k : Int) _ hin hm hba).mono ?_; simp only [Int.toNat_natCast, HBX.out]; rintro e5 w5 ⟨rfl, B5⟩; have h := (K4.out.step B5).new m bx; clear c0 c1; have K5 := Lib.hid h; clear B5 h)
            | (go_at_call 15; with_reducible refine (del_in m bx (k : Int) _ hin hm hx).mono ?_; simp only [Int.toNat_natCast, HBY.out]; rintro e6 w6 ⟨rfl, B6⟩; have h := (K5.out.step B6).new m bz; have c0 := Kp.c0 h (g := ga) (n := m) (b := ba) (by simp); have c1 := Kp.c1 h (g := ga) (n := m) (b := ba) (by simp); have K6 := Lib.hid h; clear B6 h)
            | (go_at_call 15; with_reducible refine (del_in m ba (k : Int) _ hin hm hba).mono ?_; simp only [Int.toNat_natCast, HBZ.out]; rintro e7 w7 ⟨rfl, B7⟩; have h := (K6.out.step B7).new m bz; clear c0 c1; have K7 := Lib.hid h; clear B7 h))
          generalize w7.alloc (.cells (rc m bz) 26) = W7 at *
          generalize w7.heap.size = gz at *
          generalize w6.heap.size = gy at *
          generalize w5.heap.size = gx at *
          have HSb : Hid (W7.cell? ⟨gy, 0, none⟩ = some (.int .i64 m) ∧ W7.cell? ⟨gy, 1, none⟩ = some (.int .u64 bz) ∧ W7.cell? ⟨gz, 0, none⟩ = some (.int .i64 m) ∧ W7.cell? ⟨gz, 1, none⟩ = some (.int .u64 bz) ∧ W7.cell? ⟨gx, 0, none⟩ = some (.int .i64 m) ∧ W7.cell? ⟨gx, 1, none⟩ = some (.int .u64 bx) ∧ W7.cell? ⟨ga, 0, none⟩ = some (.int .i64 m) ∧ W7.cell? ⟨ga, 1, none⟩ = some (.int .u64 ba)) := Lib.hid ⟨Kp.c0 K7.out (g := gy) (n := m) (b := bz) (by simp), Kp.c1 K7.out (g := gy) (n := m) (b := bz) (by simp), Kp.c0 K7.out (g := gz) (n := m) (b := bz) (by simp), Kp.c1 K7.out (g := gz) (n := m) (b := bz) (by simp), Kp.c0 K7.out (g := gx) (n := m) (b := bx) (by simp), Kp.c1 K7.out (g := gx) (n := m) (b := bx) (by simp), Kp.c0 K7.out (g := ga) (n := m) (b := ba) (by simp), Kp.c1 K7.out (g := ga) (n := m) (b := ba) (by simp)⟩
          go_region_held3 (fun w' => w'.cell? ⟨gy, 0, none⟩ = some (.int .i64 m) ∧ w'.cell? ⟨gy, 1, none⟩ = some (.int .u64 bz) ∧ w'.cell? ⟨gz, 0, none⟩ = some (.int .i64 m) ∧ w'.cell? ⟨gz, 1, none⟩ = some (.int .u64 bz) ∧ w'.cell? ⟨gx, 0, none⟩ = some (.int .i64 m) ∧ w'.cell? ⟨gx, 1, none⟩ = some (.int .u64 bx) ∧ w'.cell? ⟨ga, 0, none⟩ = some (.int .i64 m) ∧ w'.cell? ⟨ga, 1, none⟩ = some (.int .u64 ba))
            (first | exact HSb.out | exact Sb1.out | exact Sb2.out | exact Sb3.out | exact Sb4.out | exact Sb5.out)
            (first
            | (go_at_call 22; with_reducible refine (text_eq m bz s2 _ HT2.out hm hz).mono ?_; rintro e wb1 ⟨rfl, B⟩; have h := K7.out.drew.step B; have Sb1 : Hid (wb1.cell? ⟨gy, 0, none⟩ = some (.int .i64 m) ∧ wb1.cell? ⟨gy, 1, none⟩ = some (.int .u64 bz) ∧ wb1.cell? ⟨gz, 0, none⟩ = some (.int .i64 m) ∧ wb1.cell? ⟨gz, 1, none⟩ = some (.int .u64 bz) ∧ wb1.cell? ⟨gx, 0, none⟩ = some (.int .i64 m) ∧ wb1.cell? ⟨gx, 1, none⟩ = some (.int .u64 bx) ∧ wb1.cell? ⟨ga, 0, none⟩ = some (.int .i64 m) ∧ wb1.cell? ⟨ga, 1, none⟩ = some (.int .u64 ba)) := Lib.hid ⟨Kp.c0 h (g := gy) (n := m) (b := bz) (by simp), Kp.c1 h (g := gy) (n := m) (b := bz) (by simp), Kp.c0 h (g := gz) (n := m) (b := bz) (by simp), Kp.c1 h (g := gz) (n := m) (b := bz) (by simp), Kp.c0 h (g := gx) (n := m) (b := bx) (by simp), Kp.c1 h (g := gx) (n := m) (b := bx) (by simp), Kp.c0 h (g := ga) (n := m) (b := ba) (by simp), Kp.c1 h (g := ga) (n := m) (b := ba) (by simp)⟩; have Kb1 := Lib.hid h; clear B h K7)
            | (go_at_call 22; with_reducible refine (text_eq m bz s2 _ HT2.out hm hz).mono ?_; rintro e wb2 ⟨rfl, B⟩; have h := Kb1.out.step B; have Sb2 : Hid (wb2.cell? ⟨gy, 0, none⟩ = some (.int .i64 m) ∧ wb2.cell? ⟨gy, 1, none⟩ = some (.int .u64 bz) ∧ wb2.cell? ⟨gz, 0, none⟩ = some (.int .i64 m) ∧ wb2.cell? ⟨gz, 1, none⟩ = some (.int .u64 bz) ∧ wb2.cell? ⟨gx, 0, none⟩ = some (.int .i64 m) ∧ wb2.cell? ⟨gx, 1, none⟩ = some (.int .u64 bx) ∧ wb2.cell? ⟨ga, 0, none⟩ = some (.int .i64 m) ∧ wb2.cell? ⟨ga, 1, none⟩ = some (.int .u64 ba)) := Lib.hid ⟨Kp.c0 h (g := gy) (n := m) (b := bz) (by simp), Kp.c1 h (g := gy) (n := m) (b := bz) (by simp), Kp.c0 h (g := gz) (n := m) (b := bz) (by simp), Kp.c1 h (g := gz) (n := m) (b := bz) (by simp), Kp.c0 h (g := gx) (n := m) (b := bx) (by simp), Kp.c1 h (g := gx) (n := m) (b := bx) (by simp), Kp.c0 h (g := ga) (n := m) (b := ba) (by simp), Kp.c1 h (g := ga) (n := m) (b := ba) (by simp)⟩; have Kb2 := Lib.hid h; clear B h Kb1)
            | (go_at_call 26; with_reducible refine (has_eq m bz (k : Int) false _ HHA.out hm hz).mono ?_; rintro e wb3 ⟨rfl, B⟩; have h := Kb2.out.step B; have Sb3 : Hid (wb3.cell? ⟨gy, 0, none⟩ = some (.int .i64 m) ∧ wb3.cell? ⟨gy, 1, none⟩ = some (.int .u64 bz) ∧ wb3.cell? ⟨gz, 0, none⟩ = some (.int .i64 m) ∧ wb3.cell? ⟨gz, 1, none⟩ = some (.int .u64 bz) ∧ wb3.cell? ⟨gx, 0, none⟩ = some (.int .i64 m) ∧ wb3.cell? ⟨gx, 1, none⟩ = some (.int .u64 bx) ∧ wb3.cell? ⟨ga, 0, none⟩ = some (.int .i64 m) ∧ wb3.cell? ⟨ga, 1, none⟩ = some (.int .u64 ba)) := Lib.hid ⟨Kp.c0 h (g := gy) (n := m) (b := bz) (by simp), Kp.c1 h (g := gy) (n := m) (b := bz) (by simp), Kp.c0 h (g := gz) (n := m) (b := bz) (by simp), Kp.c1 h (g := gz) (n := m) (b := bz) (by simp), Kp.c0 h (g := gx) (n := m) (b := bx) (by simp), Kp.c1 h (g := gx) (n := m) (b := bx) (by simp), Kp.c0 h (g := ga) (n := m) (b := ba) (by simp), Kp.c1 h (g := ga) (n := m) (b := ba) (by simp)⟩; have Kb3 := Lib.hid h; clear B h Kb2)
            | (go_at_call 28; with_reducible refine (bcount_any m bx _ hm hx).mono ?_; rintro e wb4 ⟨rfl, B⟩; have h := Kb3.out.step B; have Sb4 : Hid (wb4.cell? ⟨gy, 0, none⟩ = some (.int .i64 m) ∧ wb4.cell? ⟨gy, 1, none⟩ = some (.int .u64 bz) ∧ wb4.cell? ⟨gz, 0, none⟩ = some (.int .i64 m) ∧ wb4.cell? ⟨gz, 1, none⟩ = some (.int .u64 bz) ∧ wb4.cell? ⟨gx, 0, none⟩ = some (.int .i64 m) ∧ wb4.cell? ⟨gx, 1, none⟩ = some (.int .u64 bx) ∧ wb4.cell? ⟨ga, 0, none⟩ = some (.int .i64 m) ∧ wb4.cell? ⟨ga, 1, none⟩ = some (.int .u64 ba)) := Lib.hid ⟨Kp.c0 h (g := gy) (n := m) (b := bz) (by simp), Kp.c1 h (g := gy) (n := m) (b := bz) (by simp), Kp.c0 h (g := gz) (n := m) (b := bz) (by simp), Kp.c1 h (g := gz) (n := m) (b := bz) (by simp), Kp.c0 h (g := gx) (n := m) (b := bx) (by simp), Kp.c1 h (g := gx) (n := m) (b := bx) (by simp), Kp.c0 h (g := ga) (n := m) (b := ba) (by simp), Kp.c1 h (g := ga) (n := m) (b := ba) (by simp)⟩; have Kb4 := Lib.hid h; clear B h Kb3)
            | (go_at_call 28; with_reducible refine (bcount_any m ba _ hm hba).mono ?_; rintro e wb5 ⟨rfl, B⟩; have h := Kb4.out.step B; have Sb5 : Hid (wb5.cell? ⟨gy, 0, none⟩ = some (.int .i64 m) ∧ wb5.cell? ⟨gy, 1, none⟩ = some (.int .u64 bz) ∧ wb5.cell? ⟨gz, 0, none⟩ = some (.int .i64 m) ∧ wb5.cell? ⟨gz, 1, none⟩ = some (.int .u64 bz) ∧ wb5.cell? ⟨gx, 0, none⟩ = some (.int .i64 m) ∧ wb5.cell? ⟨gx, 1, none⟩ = some (.int .u64 bx) ∧ wb5.cell? ⟨ga, 0, none⟩ = some (.int .i64 m) ∧ wb5.cell? ⟨ga, 1, none⟩ = some (.int .u64 ba)) := Lib.hid ⟨Kp.c0 h (g := gy) (n := m) (b := bz) (by simp), Kp.c1 h (g := gy) (n := m) (b := bz) (by simp), Kp.c0 h (g := gz) (n := m) (b := bz) (by simp), Kp.c1 h (g := gz) (n := m) (b := bz) (by simp), Kp.c0 h (g := gx) (n := m) (b := bx) (by simp), Kp.c1 h (g := gx) (n := m) (b := bx) (by simp), Kp.c0 h (g := ga) (n := m) (b := ba) (by simp), Kp.c1 h (g := ga) (n := m) (b := ba) (by simp)⟩; have Kb5 := Lib.hid h; clear B h Kb4))
          go_wp2
          go_roundg (m - (k + 1))
          case measure => omega
          case rel => exact ⟨k + 1, by push_cast; rfl, by omega, by omega, Kb5.out.sub (by simp)⟩
        · have hlt3 : decide ((k : Int) < (m : Int)) = false := by simp; omega
          go_wp2_with (go_at_call 25; with_reducible refine (blen_any m ba _).mono ?_; rintro e4 w4 ⟨rfl, B4⟩; have K4 := Lib.hid (K0.out.step B4); clear B4)
          go_ret
          exact ⟨rfl, K4.out.bel⟩
end Go.Proofs.Ytlgmomjofhbggaa
