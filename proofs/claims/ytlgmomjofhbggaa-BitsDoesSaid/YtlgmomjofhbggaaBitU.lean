/- The walk of the document's Load. Condition: a text of a size that a machine has. -/
import Derived.Test.YtlgmomjofhbggaaBitT
set_option linter.unusedVariables false
set_option linter.unusedSimpArgs false
namespace Go.Proofs.Ytlgmomjofhbggaa
open Go.RowKit

theorem num_bit (ys : List Nat) (h : ∀ y ∈ ys, y < 256) (i : Nat) (hi : i / 8 < ys.length) : (ys[i / 8]).testBit (i % 8) = (num ys).testBit i := by
  have hb := bytes_num ys h
  have e : ys[i / 8] = num ys / 2 ^ (8 * (i / 8)) % 256 := by
    have h1 := congrArg (fun l => l[i / 8]?) hb
    simp only [List.getElem?_map, List.getElem?_range hi, Option.map_some, List.getElem?_eq_getElem hi, Option.some.injEq] at h1
    exact h1.symm
  rw [e, show (256 : Nat) = 2 ^ 8 from rfl, Nat.testBit_mod_two_pow, Nat.testBit_div_two_pow]
  have : i % 8 < 8 := Nat.mod_lt _ (by decide)
  simp only [this, decide_true, Bool.true_and]
  congr 1
  omega
theorem rload_err {n : Nat} {ys : List Nat} {i : Nat} (hn : n ≤ 64) (hl : ys.length = (n + 7) / 8) (hi : i < 8 * ys.length) (hin : n ≤ i) (hb : (num ys).testBit i = true) : load (n :: ys) = none := by
  have h0 : num ys / 2 ^ n ≠ 0 := by
    intro h
    rcases Nat.div_eq_zero_iff.1 h with h | h
    · exact absurd h (Nat.ne_of_gt (Nat.two_pow_pos _))
    · rw [Nat.testBit_lt_two_pow (Nat.lt_of_lt_of_le h (Nat.pow_le_pow_right (by decide) hin))] at hb
      cases hb
  rw [load, if_neg (by omega), if_neg (by omega), if_pos ⟨by omega, h0⟩]
theorem rload_ok {n : Nat} {ys : List Nat} (hn : n ≤ 64) (hl : ys.length = (n + 7) / 8) (hb : num ys < 2 ^ n) : load (n :: ys) = some (n, num ys) := by
  rw [load, if_neg (by omega), if_neg (by omega), if_neg (by rw [Nat.div_eq_of_lt hb]; simp)]
def rloadV : Option (Nat × Nat) → Value
  | some (n, b) => .tuple #[.agg (rf n b).toArray, .int .i64 0]
  | none => .tuple #[.agg (rf 0 0).toArray, .int .i64 4]

structure RLoadRel (w wr : World) (g n : Nat) (ys : List Nat) (i : Value) (k : Nat) : Prop where
  hk : k ≤ 8 * ys.length
  hi : i = .int .i64 (k : Int)
  blk : RB wr g n (num ys % 2 ^ k)
  res : RB wr w.heap.size 0 0
  low : num ys % 2 ^ k < 2 ^ n
  bel : Below w.heap.size w wr

set_option maxRecDepth 100000 in
set_option maxHeartbeats 4000000 in
theorem rload_any (s : ByteArray) (w : World) (hs : s.size ≤ 140737488351232) :
    Calls Try.prog 20 #[.string s] w fun e w' => e = .returned (rloadV (load (natsOf s))) ∧ Below w.heap.size w w' := by
  have hz := run_zero65
  have HR0 : Hid (RB (w.alloc (.cells (rf 0 0).toArray rT)) w.heap.size 0 0) := Lib.hid (Blk.new w _ _)
  have HB0 : Hid (Below w.heap.size w (w.alloc (.cells (rf 0 0).toArray rT))) := Lib.hid ((Below.refl _ _).alloc (Nat.le_refl _) _)
  by_cases h0 : s.size = 0
  · have k0 : ((s.size : Int) == 0) = true := by rw [h0]; rfl
    have HE := Lib.hid (show load (natsOf s) = none by rw [List.eq_nil_of_length_eq_zero ((natsOf_len s).trans h0)]; rfl)
    rw [HE.out]
    clear h0
    go_enter Try.func20, Try.ntmps20
    go_upto_region 2 with fail
    refine wp_region_lit (l := [_, _, _]) ?_
    refine build_rf (rf 0 0).toArray #[] rfl rfl (by kernel_rfl) ?_
    refine store_rf 0 0 HR0.out rfl (.tmp 2) (.tmp 16) rfl rfl rfl ?_
    intro w2 hr2 hu2
    have HR2 := Lib.hid hr2; have HU2 := Lib.hid hu2
    clear hr2 hu2
    go_wp2
    refine ret_cell_tmp (k := 2) (u := 3) (by kernel_rfl) rfl rfl HR2.out (by kernel_rfl) (by rw [info65]; simp [rf]) ⟨rfl, HB0.out.trans (HU2.out.below HB0.out.size (fun k hk => by omega))⟩
  have k0 : ((s.size : Int) == 0) = false := beq_eq_false_iff_ne.2 (by omega)
  have hp : 0 < s.size := by omega
  obtain ⟨n, hn⟩ : ∃ n, s[0].toNat = n := ⟨_, rfl⟩
  obtain ⟨ys, hys⟩ : ∃ ys, natsOf s = n :: ys := by
    cases hl : natsOf s with
    | nil => have := natsOf_len s; rw [hl] at this; simp at this; omega
    | cons a l =>
      have := natsOf_get s 0 hp
      simp only [hl, List.getElem_cons_zero] at this
      exact ⟨l, by rw [this, hn]⟩
  have hm : s.size = ys.length + 1 := by rw [← natsOf_len, hys]; rfl
  have HYS : Hid (∀ (j : Nat) (h1 : j < ys.length) (h2 : 1 + j < s.size), (s[1 + j]'h2).toNat = ys[j]) := Lib.hid (fun j h1 h2 => by
    rw [← natsOf_get s (1 + j) h2]
    simp [hys, Nat.add_comm 1 j])
  have HYB := Lib.hid (show ∀ y ∈ ys, y < 256 from fun y hy => natsOf_lt s y (by rw [hys]; simp [hy]))
  rw [hys]
  have hys2 := hys
  clear hys
  by_cases h1 : 64 < n
  · have k1 : decide (64 < (n : Int)) = true := by simp; omega
    have HE := Lib.hid (show load (n :: ys) = none by rw [load, if_pos h1])
    rw [HE.out]
    go_enter Try.func20, Try.ntmps20
    go_upto_region 2 with fail
    refine wp_region_lit (l := [_, _, _]) ?_
    refine build_rf (rf 0 0).toArray #[] rfl rfl (by kernel_rfl) ?_
    refine store_rf 0 0 HR0.out rfl (.tmp 2) (.tmp 16) rfl rfl rfl ?_
    intro w2 hr2 hu2
    have HR2 := Lib.hid hr2; have HU2 := Lib.hid hu2
    clear hr2 hu2
    go_wp2
    refine ret_cell_tmp (k := 2) (u := 3) (by kernel_rfl) rfl rfl HR2.out (by kernel_rfl) (by rw [info65]; simp [rf]) ⟨rfl, HB0.out.trans (HU2.out.below HB0.out.size (fun k hk => by omega))⟩
  have k1 : decide (64 < (n : Int)) = false := by simp; omega
  have HN := Lib.hid (show newOf (n : Int) = n by unfold newOf; rw [if_neg (by omega)]; omega)
  have H1 : n ≤ 64 := by omega
  clear hys2
  have HM := Lib.hid hm
  go_enter Try.func20, Try.ntmps20
  go_upto_region 3 with fail
  generalize w.alloc (.cells (rf 0 0).toArray rT) = W0 at *
  clear hm h1
  refine wp_region_lit (l := [_, _, _, _, _, _]) ?_
  go_upto_region 4 with (go_at_call 12; with_reducible refine (rnew_any (n : Int) _).mono ?_; rw [HN.out]; rintro e1 w1 ⟨rfl, B1⟩; have hA := Blk.new w1 (rf 0 0).toArray rT; have hst := RB.store hA n 0; have HA := Lib.hid hA; have HB1 := Lib.hid B1; clear hA B1)
  have HA2 : Hid (RB ((w1.alloc (.cells (rf 0 0).toArray rT)).setCells w1.heap.size 0 (rf n 0)) w1.heap.size n 0) := Lib.hid (Blk.fill HA.out (by rw [rf_len, List.size_toArray, rf_len]))
  have HR1 := Lib.hid ((HR0.out.below HB1.out).alloc (.cells (rf 0 0).toArray rT))
  have hwl : w.heap.size < w1.heap.size := by have := HR0.out.lt; have := HB1.out.size; omega
  have HUP := Lib.hid (Upd.setCells (rf n 0) 0 (Upd.refl (fun k => k = w1.heap.size) (w1.alloc (.cells (rf 0 0).toArray rT))) (b := w1.heap.size) (.inr rfl))
  have HR2 := Lib.hid (HR1.out.upd HUP.out (by omega))
  have HB2 := Lib.hid (((HB0.out.trans (HB1.out.mono HB0.out.size)).alloc (by omega) (.cells (rf 0 0).toArray rT)).trans (HUP.out.below (B := w.heap.size) (by simp; omega) (fun k hk => by omega)))
  clear hst HA HR1 HUP HB1 HR0 HB0
  generalize (w1.alloc (.cells (rf 0 0).toArray rT)).setCells w1.heap.size 0 (rf n 0) = W1 at *
  generalize w1.heap.size = g at *
  have cg := RB.c0 HA2.out
  by_cases h2 : ys.length = (n + 7) / 8
  · have k2 : ((s.size : Int) - 1 != ((n : Int) + 7) / 8) = false := by have := HM.out; simp; omega
    have H2 := Lib.hid h2
    clear h2
    have R0 := Lib.hid (show RLoadRel w W1 g n ys (.int .i64 0) 0 from ⟨by omega, rfl, by rw [Nat.pow_zero, Nat.mod_one]; exact HA2.out, HR2.out, by rw [Nat.pow_zero, Nat.mod_one]; exact Nat.two_pow_pos _, HB2.out⟩)
    clear HA2 HR2 HB2
    go_wp2
    clear cg
    go_loopw [5] (fun i wr => ∃ (k : Nat), RLoadRel w wr g n ys i k) (fun i _ => 8 * ys.length - (intOf i).toNat)
    case atStart => exact ⟨0, R0.out⟩
    case round =>
      obtain ⟨i, hi, rfl, hblk, hres, hlow, hbel⟩ := hrel
      have HK := Lib.hid hblk; have HR := Lib.hid hres; have HB := Lib.hid hbel; have HL := Lib.hid hlow
      have c0 := hblk.c0
      clear hblk hres hbel hlow R0
      have hmul : IntKind.i64.wrap (8 * ((s.size : Int) - 1)) = 8 * ((s.size : Int) - 1) := IntWalk.i64_in _ (by omega)
      by_cases hlt : i < 8 * ys.length
      · have q1 : decide ((i : Int) < 8 * ((s.size : Int) - 1)) = true := by have := HM.out; simp; omega
        have hij : i / 8 < ys.length := by omega
        have hks : 1 + i / 8 < s.size := by have := HM.out; omega
        have hy := HYS.out (i / 8) hij hks
        have hbit := num_bit ys HYB.out i hij
        have hyb := HYB.out _ (List.getElem_mem hij)
        generalize ys[i / 8] = y at *
        go_upto_region 11 with fail
        go_loopw [6, 7] (fun x t wi => ∃ j : Nat, j ≤ i % 8 ∧ x = .int .u8 ((y / 2 ^ j : Nat) : Int) ∧ t = .int .i64 (j : Int) ∧ wi = wr) (fun _ t _ => i % 8 - (intOf t).toNat)
        case atStart => exact ⟨0, by omega, by simp, rfl, rfl⟩
        case round =>
          obtain ⟨j, hj, rfl, rfl, rfl⟩ := hrel
          by_cases hj2 : j < i % 8
          · have q2 : decide ((j : Int) < (i : Int) % 8) = true := by simp; omega
            have hx : y / 2 ^ j < 256 := Nat.lt_of_le_of_lt (Nat.div_le_self _ _) hyb
            have HX := Lib.hid (show y / 2 ^ j / 2 = y / 2 ^ (j + 1) by rw [Nat.div_div_eq_div_mul, ← Nat.pow_succ])
            generalize y / 2 ^ j = x at *
            go_wp2
            go_roundw
            case rel => exact ⟨j + 1, by omega, by rw [← HX.out]; push_cast; rfl, by push_cast; rfl, trivial⟩
            case measure => simp [intOf]; omega
          · have q2 : decide ((j : Int) < (i : Int) % 8) = false := by simp; omega
            obtain rfl : j = i % 8 := by omega
            have hb1 := bit_at y (i % 8)
            rw [hbit] at hb1
            have HX := Lib.hid hb1
            clear hb1 hbit
            have hsum : IntKind.i64.wrap ((i : Int) + 1) = (i : Int) + 1 := IntWalk.i64_in _ (by omega)
            have HLS := Lib.hid (low_succ (num ys) i)
            generalize hz0 : y / 2 ^ (i % 8) = x at *
            clear hz0
            cases hb : (num ys).testBit i with
            | true =>
              have q4 : ((x : Int) % 2 == 1) = true := by have := HX.out; rw [hb] at this; simpa using this
              clear HX
              by_cases hin : i < n
              · have q3 : decide ((n : Int) ≤ (i : Int)) = false := by simp; omega
                have hp64 : (i : Int) < 64 := by omega
                have ck := RB.ck HK.out (k := i) (by omega)
                have fk := HK.out.frozen (1 + i)
                have HLS2 := Lib.hid (show num ys % 2 ^ (i + 1) = put (num ys % 2 ^ i) i by rw [HLS.out, if_pos hb])
                clear hb HLS
                go_wp2
                go_roundw
                case rel =>
                  refine ⟨i + 1, by omega, by push_cast; rfl, by rw [HLS2.out]; exact HK.out.put (by omega), HR.out.setOther (by simp; omega) _, Nat.lt_of_lt_of_le (Nat.mod_lt _ (Nat.two_pow_pos _)) (Nat.pow_le_pow_right (by decide) (by omega)), HB.out.setCell (by simp; omega) _⟩
                case measure => simp [intOf]; omega
              · have q3 : decide ((n : Int) ≤ (i : Int)) = true := by simp; omega
                have q5 : decide (n ≤ i) = true := by simp; omega
                have HE := Lib.hid (rload_err H1 H2.out hlt (by omega) hb)
                clear hb HLS
                go_upto_region 16 with fail
                refine wp_region_lit (l := [_, _, _]) ?_
                refine build_rf (rf 0 0).toArray #[] rfl rfl (by kernel_rfl) ?_
                refine store_rf 0 0 HR.out rfl (.tmp 2) (.tmp 58) rfl rfl rfl ?_
                intro w2 hr2 hu2
                have HR3 := Lib.hid hr2; have HU3 := Lib.hid hu2
                clear hr2 hu2
                go_wp2
                refine ret_cell_tmp (k := 2) (u := 3) (by kernel_rfl) rfl rfl HR3.out (by kernel_rfl) (by rw [info65]; simp [rf]) ⟨by rw [HE.out]; rfl, HB.out.trans (HU3.out.below HB.out.size (fun k hk => by omega))⟩
            | false =>
              have q4 : ((x : Int) % 2 == 1) = false := by have := HX.out; rw [hb] at this; simpa using this
              have HLS2 := Lib.hid (show num ys % 2 ^ (i + 1) = num ys % 2 ^ i by rw [HLS.out, if_neg (by rw [hb]; decide)])
              clear HX hb HLS
              go_wp2
              go_roundw
              case rel => exact ⟨i + 1, by omega, by push_cast; rfl, by rw [HLS2.out]; exact HK.out, HR.out, by rw [HLS2.out]; exact HL.out, HB.out⟩
              case measure => simp [intOf]; omega
      · have q1 : decide ((i : Int) < 8 * ((s.size : Int) - 1)) = false := by have := HM.out; simp; omega
        have hmod : num ys % 2 ^ i = num ys := Nat.mod_eq_of_lt (by rw [show i = 8 * ys.length by omega]; exact num_lt ys HYB.out)
        rw [hmod] at HK HL
        have HE := Lib.hid (rload_ok H1 H2.out HL.out)
        clear hmod
        go_upto_region 18 with fail
        refine wp_region_lit (l := [_, _, _]) ?_
        refine load_rf HK.out rfl (.tmp 4) rfl rfl ?_
        refine store_rf n (num ys) HR.out rfl (.tmp 2) (.tmp 62) rfl rfl rfl ?_
        intro w2 hr2 hu2
        have HR3 := Lib.hid hr2; have HU3 := Lib.hid hu2
        clear hr2 hu2
        go_wp2
        refine ret_cell_tmp (k := 2) (u := 3) (by kernel_rfl) rfl rfl HR3.out (by kernel_rfl) (by rw [info65]; simp [rf]) ⟨by rw [HE.out]; rfl, HB.out.trans (HU3.out.below HB.out.size (fun k hk => by omega))⟩
  · have k2 : ((s.size : Int) - 1 != ((n : Int) + 7) / 8) = true := by have := HM.out; simp only [bne, Bool.not_eq_true', beq_eq_false_iff_ne]; omega
    have HE := Lib.hid (show load (n :: ys) = none by rw [load, if_neg (by omega), if_pos h2])
    clear h2
    go_upto_region 5 with fail
    refine wp_region_lit (l := [_, _, _]) ?_
    refine build_rf (rf 0 0).toArray #[] rfl rfl (by kernel_rfl) ?_
    refine store_rf 0 0 HR2.out rfl (.tmp 2) (.tmp 29) rfl rfl rfl ?_
    intro w2 hr2 hu2
    have HR3 := Lib.hid hr2; have HU3 := Lib.hid hu2
    clear hr2 hu2
    go_wp2
    refine ret_cell_tmp (k := 2) (u := 3) (by kernel_rfl) rfl rfl HR3.out (by kernel_rfl) (by rw [info65]; simp [rf]) ⟨by rw [HE.out]; rfl, HB2.out.trans (HU3.out.below HB2.out.size (fun k hk => by omega))⟩
end Go.Proofs.Ytlgmomjofhbggaa
