/- The walk of CrcJoins. No condition but the row's own. -/
import Derived.Test.YtpiiepnljeifhaaCrcL1
set_option linter.unusedVariables false
set_option linter.unusedSimpArgs false
namespace Go.Proofs.Ytpiiepnljeifhaa
open Go.RowKit

theorem csum_n (A : Option Addr) (bs : List Nat) (n c : Nat) (w : World) (hl : bs.length = n) (hr : Rd w A (by8 bs)) (hb : ∀ b ∈ bs, b < 256) (hn : n ≤ 140737488351232) :
    Calls Try.prog 12 #[.slice A n c] w fun e w' => e = .returned (.int .u32 (sum bs)) ∧ w' = w := by
  subst hl; exact csum_any A bs c w hr hb hn
theorem cmore_n (s : Nat) (A : Option Addr) (bs : List Nat) (n c : Nat) (w : World) (hs : s < 4294967296) (hl : bs.length = n) (hr : Rd w A (by8 bs)) (hb : ∀ b ∈ bs, b < 256) (hn : n ≤ 140737488351232) :
    Calls Try.prog 13 #[.int .u32 s, .slice A n c] w fun e w' => e = .returned (.int .u32 (more s bs)) ∧ w' = w := by
  subst hl; exact cmore_any s A bs c w hs hr hb hn
theorem ccheck_n (A : Option Addr) (bs : List Nat) (n c s : Nat) (w : World) (hs : s < 4294967296) (hl : bs.length = n) (hr : Rd w A (by8 bs)) (hb : ∀ b ∈ bs, b < 256) (hn : n ≤ 140737488351232) :
    Calls Try.prog 15 #[.slice A n c, .int .u32 s] w fun e w' => e = .returned (.bool (decide (sum bs = s))) ∧ w' = w := by
  subst hl; exact ccheck_any A bs c s w hs hr hb hn
theorem sum_lt {bs : List Nat} (hb : ∀ b ∈ bs, b < 256) : sum bs < 4294967296 := more_lt bs (by decide) hb
/-- Behind an append onto a new empty row. -/
theorem below_app0 {w w1 x1 : World} {T : TypeId} (B1 : Below w.heap.size w w1) (hg : (w1.alloc (.cells #[] T)).grownBy x1 (Value.slice (some ⟨w1.heap.size, 0, none⟩) 0 0).ownBlock) : Below w.heap.size w x1 :=
  Below.grown (B1.alloc B1.size _) hg (by simp; have := B1.size; omega) (by intro q hq; simp [Value.ownBlock] at hq; have := B1.size; omega)
theorem below_app1 {w x1 x2 : World} {T : TypeId} {v : Value} {n sz : Nat} {xs : List Value} (B : Below w.heap.size w x1) (h : x1.ownsRow w.heap.size T sz v n xs) (hg : x1.grownBy x2 v.ownBlock) : Below w.heap.size w x2 :=
  Below.grown B hg B.size (fun q hq => (h.lt q hq).1)

set_option maxHeartbeats 1000000 in
theorem w_CrcJoins (a0 : Option Addr) (n0 c0 : Nat) (a1 : Option Addr) (n1 c1 : Nat) (w : World) (b0 : Sh.Is w (.slice 1 (.int .u8)) [.slice a0 n0 c0]) (b1 : Sh.Is w (.slice 1 (.int .u8)) [.slice a1 n1 c1]) :
    Calls Try.prog 3 #[.slice a0 n0 c0, .slice a1 n1 c1] w fun e w' => e = .returned (.bool true) ∧ Below w.heap.size w w' := by
  obtain ⟨xs, xl, xc, xnc, xr, xb⟩ := is_bytes b0
  obtain ⟨ys, yl, yc, ync, yr, yb⟩ := is_bytes b1
  subst xl yl
  have XR := Lib.hid xr; have XB := Lib.hid xb; have XC := Lib.hid xnc
  have YR := Lib.hid yr; have YB := Lib.hid yb; have YC := Lib.hid ync
  clear b0 b1 xr xb yr yb xnc ync xc yc
  by_cases g : 16384 < xs.length
  · have k0 : decide ((16384 : Int) < (xs.length : Int)) = true := by simp; omega
    go_enter Try.func3, Try.ntmps3
    go_wp2_with (go_at_call 11; refine (awake_any _).mono ?_; rintro e1 w1 ⟨rfl, B1⟩)
    go_ret
    exact ⟨rfl, B1⟩
  have k0 : decide ((16384 : Int) < (xs.length : Int)) = false := by simp; omega
  by_cases g1 : 16384 < ys.length
  · have k1 : decide ((16384 : Int) < (ys.length : Int)) = true := by simp; omega
    go_enter Try.func3, Try.ntmps3
    go_wp2_with (go_at_call 11; refine (awake_any _).mono ?_; rintro e1 w1 ⟨rfl, B1⟩)
    go_ret
    exact ⟨rfl, B1⟩
  have k1 : decide ((16384 : Int) < (ys.length : Int)) = false := by simp; omega
  have q1 : (((sum (xs ++ ys) : Nat) : Int) == ((more (sum xs) ys : Nat) : Int)) = true := by rw [sum_append]; simp
  have q2 : (((sum (xs ++ ys) : Nat) : Int) == ((join (sum xs) (sum ys) ys.length : Nat) : Int)) = true := by rw [sum_append, join_sum]; simp
  have AB := Lib.hid (show ∀ b ∈ xs ++ ys, b < 256 by
    intro b hb
    rcases List.mem_append.1 hb with h | h
    · exact XB.out b h
    · exact YB.out b h)
  have AL := Lib.hid (show (xs ++ ys).length = xs.length + ys.length from List.length_append)
  go_enter Try.func3, Try.ntmps3
  go_wp2_with fail
  refine (awake_any _).mono ?_
  rintro e1 w1 ⟨rfl, B1⟩
  have HB1 := Lib.hid B1; clear B1
  go_wp2_with (first
    | (at_builtin; refine appO w.heap.size 22 5 (.int .u8 0) 1 1 (by8 xs) xs.length (own_base' (own_empty w1 5 1) HB1.out.size) (Nat.le_trans HB1.out.size (by simp)) (by omega) Try.underlying22 infoU8 rfl (by decide) (by decide) (by simp [by8]) (by8_one xs) a0 c0 ((XR.out.below HB1.out).below ((Below.refl _ _).alloc (Nat.le_refl _) _)) XC.out.1 XC.out.2 (.tmp 16) (.tmp 17) rfl rfl rfl rfl ?_
       intro v1 x1 hown hg _
       have HX1 := Lib.hid (below_app0 HB1.out hg)
       have HO1 := Lib.hid hown
       clear hg hown)
    | (at_builtin; refine appO w.heap.size 22 5 (.int .u8 0) 1 1 (by8 ys) ys.length HO1.out HX1.out.size (by omega) Try.underlying22 infoU8 rfl (by decide) (by decide) (by simp [by8]) (by8_one ys) a1 c1 (YR.out.below HX1.out) YC.out.1 YC.out.2 (.tmp 18) (.tmp 19) rfl rfl rfl rfl ?_
       intro v2 x2 hown hg _
       have HX2 := Lib.hid (below_app1 HX1.out HO1.out hg)
       obtain ⟨A2, c2, rfl, _, R2⟩ := own_rd hown
       have HR2 := Lib.hid (show Rd x2 A2 (by8 (xs ++ ys)) by rw [List.nil_append, ← List.map_append] at R2; exact R2)
       clear hg hown R2)
    | (go_at_call 12; with_reducible refine (csum_n a0 xs xs.length c0 _ rfl (XR.out.below HX2.out) XB.out (by omega)).mono ?_; rintro e1 w2 ⟨rfl, rfl⟩)
    | (go_at_call 12; with_reducible refine (csum_n a1 ys ys.length c1 _ rfl (YR.out.below HX2.out) YB.out (by omega)).mono ?_; rintro e1 w2 ⟨rfl, rfl⟩)
    | (go_at_call 12; with_reducible refine (csum_n A2 (xs ++ ys) _ c2 _ (by rw [AL.out]; try omega) HR2.out AB.out (by omega)).mono ?_; rintro e1 w2 ⟨rfl, rfl⟩)
    | (go_at_call 13; with_reducible refine (cmore_n (sum xs) a1 ys ys.length c1 _ (sum_lt XB.out) rfl (YR.out.below HX2.out) YB.out (by omega)).mono ?_; rintro e1 w2 ⟨rfl, rfl⟩)
    | (go_at_call 14; with_reducible refine (cjoin_any (sum xs) (sum ys) ys.length _ (sum_lt XB.out) (sum_lt YB.out) (by omega)).mono ?_; rintro e1 w3 ⟨rfl, B3⟩))
  go_ret
  exact ⟨rfl, HX2.out.trans (B3.mono HX2.out.size)⟩
end Go.Proofs.Ytpiiepnljeifhaa
