/- The walk of BitsLoads. No condition but the row's own. -/
import Derived.Test.YtlgmomjofhbggaaBitQ
set_option linter.unusedVariables false
set_option linter.unusedSimpArgs false
namespace Go.Proofs.Ytlgmomjofhbggaa
open Go.RowKit

/-- A whole row is loaded, behind a guard that lets it by. -/
theorem load_rf_g {ops : Array Oper} {rest : List Oper} {o : Oper} {a : Act} {W : World} {Q : Exit → Act → World → Prop} {g n b : Nat} (hb : RB W g n b) (hw : Region.wanted o (yielded ops a.tmps) = true) (x : Operand) (ho : o.op = .load rT x) (hx : a.eval x = .pointer (some ⟨g, 0, none⟩))
    (h : wpList Try.prog ops Q rest (a.put o.dst (.agg (rf n b).toArray)) W) : wpList Try.prog ops Q (o :: rest) a W := by
  refine wpList_step fun K hK => ?_
  rw [if_pos hw]
  exact wp_load_mid rT x ho g 0 hx (rf n b) _ (fun j v hv => by rw [Nat.zero_add, hb.cell j, List.getElem?_toArray]; exact hv) Try.underlying30 rfl (by rw [info65, rf_len]) (hK _ _ h)
theorem rload_some (s : ByteArray) (n b : Nat) (w : World) (h : load (natsOf s) = some (n, b)) (hs : s.size ≤ 140737488351232) :
    Calls Try.prog 20 #[.string s] w fun e w' => e = .returned (.tuple #[.agg (rf n b).toArray, .int .i64 0]) ∧ Below w.heap.size w w' := by
  have := rload_any s w hs
  rwa [h] at this
theorem rload_none (s : ByteArray) (o : Nat) (w : World) (h : load (natsOf s) = none) (ho : o = 0) (hs : s.size ≤ 140737488351232) :
    Calls Try.prog 20 #[.string s] w fun e w' => e = .returned (.tuple #[.agg (rf o o).toArray, .int .i64 4]) ∧ Below w.heap.size w w' := by
  subst ho
  have := rload_any s w hs
  rwa [h] at this

theorem w_BitsLoads (a0 : ByteArray) (a1 : Int) (w : World) (b0 : a0.size ≤ 140737488351232) (b1 : -9223372036854775808 ≤ a1 ∧ a1 ≤ 9223372036854775807) :
    Calls Try.prog 4 #[.string a0, .int .i64 a1] w fun e w' => e = .returned (.bool true) ∧ Below w.heap.size w w' := by
  by_cases g : 4096 < a0.size
  · have k0 : decide ((4096 : Int) < (a0.size : Int)) = true := by simp; omega
    go_enter Try.func4, Try.ntmps4
    go_wp2_with (go_at_call 10; refine (awake_any _).mono ?_; rintro e1 w1 ⟨rfl, B1⟩)
    go_ret
    exact ⟨rfl, B1⟩
  have k0 : decide ((4096 : Int) < (a0.size : Int)) = false := by simp; omega
  have hz := run_zero65
  obtain ⟨n, b, v, hn, hb, hbn, hL, hRL⟩ : ∃ (n b : Nat) (v : Int), n ≤ 64 ∧ b < 18446744073709551616 ∧ b < 2 ^ n ∧
      (∀ W, Calls Try.prog 19 #[.string a0] W fun e w' => e = .returned (.tuple #[.agg #[.int .i64 n, .int .u64 b], .int .i64 v]) ∧ Below W.heap.size W w') ∧
      (∀ W, Calls Try.prog 20 #[.string a0] W fun e w' => e = .returned (.tuple #[.agg (rf n b).toArray, .int .i64 v]) ∧ Below W.heap.size W w') := by
    cases hl : load (natsOf a0) with
    | none => exact ⟨0, 0, 4, by omega, by decide, by decide, fun W => load_none a0 0 W hl rfl b0, fun W => rload_none a0 0 W hl rfl b0⟩
    | some p =>
      obtain ⟨n, b⟩ := p
      have hlx := text_load (natsOf_lt a0) hl
      exact ⟨n, b, 0, hlx.2.1, Nat.lt_of_lt_of_le hlx.2.2 (by rw [← p64]; exact Nat.pow_le_pow_right (by decide) hlx.2.1), hlx.2.2, fun W => load_some a0 n b W hl b0, fun W => rload_some a0 n b W hl b0⟩
  have HL := Lib.hid hL; have HRL := Lib.hid hRL
  clear hL hRL
  go_enter Try.func4, Try.ntmps4
  go_upto_region 7 with (first
    | (go_at_call 10; refine (awake_any _).mono ?_; rintro e1 w1 ⟨rfl, B1⟩; have K1 := Lib.hid (Kp.nil B1); clear B1)
    | (go_at_call 19; refine (HL.out _).mono ?_; rintro e2 w2 ⟨rfl, B2⟩; have K2 := Lib.hid ((K1.out.step B2).new n b); clear B2 K1)
    | (go_at_call 20; refine (HRL.out _).mono ?_; rintro e3 w3 ⟨rfl, B3⟩; have hA := Blk.new w3 (rf 0 0).toArray rT; have hst := RB.store hA n b; have HA := Lib.hid hA; have K3 := Lib.hid (K2.out.step B3); clear hA B3 K2))
  have HA2 : Hid (RB ((w3.alloc (.cells (rf 0 0).toArray rT)).setCells w3.heap.size 0 (rf n b)) w3.heap.size n b) := Lib.hid (Blk.fill HA.out (by rw [rf_len, List.size_toArray, rf_len]))
  have hwl := K3.out.bel.size
  have hgl := (K3.out.mem (g := w2.heap.size) (n := n) (b := b) (by simp)).lt
  have HUP := Lib.hid (Upd.setCells (rf n b) 0 (Upd.refl (fun k => k = w3.heap.size) (w3.alloc (.cells (rf 0 0).toArray rT))) (b := w3.heap.size) (.inr rfl))
  have HG := Lib.hid (((K3.out.mem (g := w2.heap.size) (n := n) (b := b) (by simp)).alloc (.cells (rf 0 0).toArray rT)).upd HUP.out (by omega))
  have HB2 := Lib.hid ((K3.out.bel.alloc hwl (.cells (rf 0 0).toArray rT)).trans (HUP.out.below (B := w.heap.size) (by simp; omega) (fun k hk => by omega)))
  clear hst HA HUP K3
  generalize (w3.alloc (.cells (rf 0 0).toArray rT)).setCells w3.heap.size 0 (rf n b) = W1 at *
  generalize w3.heap.size = g7 at *
  generalize w2.heap.size = g5 at *
  obtain ⟨c0, c1, _, _⟩ := HG.out.c2
  refine wp_region_lit (l := [_, _, _, _, _, _, _, _, _, _]) ?_
  iterate 5
    refine wpList_step fun K hK => ?_
    go_simp
    refine hK _ _ ?_
    clear hK
  refine load_rf_g HA2.out rfl (.tmp 7) rfl rfl ?_
  go_wp2_with (go_at_call 18; with_reducible refine (same_any n b a1 _ hn hb hbn b1).mono ?_; rintro e4 w4 ⟨rfl, B4⟩; have HB4 := Lib.hid (Below.and HB2.out B4); clear B4)
  go_ret
  exact ⟨rfl, HB4.out⟩
end Go.Proofs.Ytlgmomjofhbggaa
