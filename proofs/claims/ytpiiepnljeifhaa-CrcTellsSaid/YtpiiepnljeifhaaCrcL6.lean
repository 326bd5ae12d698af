/- The walk of CrcTells. No condition but the row's own. -/
import Derived.Test.YtpiiepnljeifhaaCrcL5
set_option linter.unusedVariables false
set_option linter.unusedSimpArgs false
namespace Go.Proofs.Ytpiiepnljeifhaa
open Go.RowKit

theorem it_pow (m : Nat) : it m (2 ^ m) = 1 := by
  induction m with
  | zero => rfl
  | succ m ih =>
    show it m (stp (2 ^ (m + 1))) = 1
    rw [show stp (2 ^ (m + 1)) = 2 ^ m by unfold stp; rw [Nat.pow_succ]; simp]
    exact ih
theorem run_tog (s j m : Nat) (xs : List Nat) (hj : j < xs.length) : run s (xs.set j (xs[j] ^^^ 2 ^ m)) = run s xs ^^^ it (8 * (xs.length - j)) (2 ^ m) := by
  induction xs generalizing s j with
  | nil => simp at hj
  | cons x xs ih =>
    cases j with
    | zero =>
      show run (onB s (x ^^^ 2 ^ m)) xs = run (onB s x) xs ^^^ _
      rw [run_split (onB s (x ^^^ 2 ^ m)), run_split (onB s x)]
      unfold onB
      rw [← Nat.xor_assoc s, it_xor 8 (s ^^^ x), it_xor, List.length_cons, Nat.sub_zero, show 8 * (xs.length + 1) = 8 + 8 * xs.length by omega, it_add]
      simp only [Nat.xor_assoc]
      rw [Nat.xor_comm (it (8 * xs.length) (it 8 (2 ^ m)))]
    | succ j =>
      have hj' : j < xs.length := by simpa using hj
      have := ih (onB s x) j hj'
      simp only [List.length_cons, Nat.succ_sub_succ_eq_sub]
      exact this
theorem sum_tog (j m : Nat) (xs : List Nat) (hj : j < xs.length) : sum (xs.set j (xs[j] ^^^ 2 ^ m)) = sum xs ^^^ it (8 * (xs.length - j)) (2 ^ m) := by
  unfold sum more
  rw [run_tog, Nat.xor_assoc]
theorem shift_bit {n at_ k : Nat} (h : (at_ + k) / 8 < n) : it (8 * (n - (at_ + k) / 8)) (2 ^ ((at_ + k) % 8)) = it (8 * n - at_) (2 ^ k) := by
  rw [show 8 * (n - (at_ + k) / 8) = (at_ + k) % 8 + (8 * n - (at_ + k)) by omega, it_add, it_pow, show 8 * n - at_ = k + (8 * n - (at_ + k)) by omega, it_add, it_pow]
theorem new_bit {V k : Nat} (h : V < 2 ^ k) : V ^^^ 2 ^ k ≠ 0 ∧ V ^^^ 2 ^ k < 2 ^ (k + 1) := by
  constructor
  · intro h0
    have := xor_z h0
    omega
  · exact Nat.xor_lt_two_pow (n := k + 1) (by rw [Nat.pow_succ]; omega) (by rw [Nat.pow_succ]; have := Nat.two_pow_pos k; omega)

structure TeRel (w wr : World) (g c' n at_ : Nat) (xs : List Nat) (s8 s9 : Value) (k V : Nat) (cs : List Nat) : Prop where
  hk : k ≤ 32
  h8 : s8 = .bool (decide (V ≠ 0))
  h9 : s9 = .int .i64 k
  own : wr.ownsRow w.heap.size 5 1 (.slice (some ⟨g, 0, none⟩) n c') n (by8 cs)
  len : cs.length = n
  lt : ∀ b ∈ cs, b < 256
  hV : V < 2 ^ k
  eq : sum cs ^^^ sum xs = it (8 * n - at_) V
  bel : Below w.heap.size w wr

set_option maxRecDepth 100000 in
set_option maxHeartbeats 2000000 in
theorem w_CrcTells (a0 : Option Addr) (n0 c0 : Nat) (a1 : Int) (a2 : Int) (w : World) (b0 : Sh.Is w (.slice 1 (.int .u8)) [.slice a0 n0 c0]) (b1 : -9223372036854775808 ≤ a1 ∧ a1 ≤ 9223372036854775807) (b2 : 0 ≤ a2 ∧ a2 ≤ 4294967295) :
    Calls Try.prog 5 #[.slice a0 n0 c0, .int .i64 a1, .int .u32 a2] w fun e w' => e = .returned (.bool true) ∧ Below w.heap.size w w' := by
  obtain ⟨xs, xl, xc, xnc, xr, xb⟩ := is_bytes b0
  subst xl
  obtain ⟨tu, rfl, htu⟩ := natOf (m := 4294967295) b2
  have XR := Lib.hid xr; have XB := Lib.hid xb; have XC := Lib.hid xnc
  clear b0 b2 xr xb xnc
  by_cases g : 16384 < xs.length
  · have k0 : decide ((16384 : Int) < (xs.length : Int)) = true := by simp; omega
    go_enter Try.func5, Try.ntmps5
    go_wp2_with (go_at_call 11; refine (awake_any _).mono ?_; rintro e1 w1 ⟨rfl, B1⟩)
    go_ret
    exact ⟨rfl, B1⟩
  have k0 : decide ((16384 : Int) < (xs.length : Int)) = false := by simp; omega
  by_cases g1 : a1 < 0
  · have k1 : decide (a1 < 0) = true := by simpa using g1
    go_enter Try.func5, Try.ntmps5
    go_wp2_with (go_at_call 11; refine (awake_any _).mono ?_; rintro e1 w1 ⟨rfl, B1⟩)
    go_ret
    exact ⟨rfl, B1⟩
  have k1 : decide (a1 < 0) = false := by simpa using g1
  have p0 : 0 ≤ a1 := by omega
  obtain ⟨t, rfl⟩ := Int.eq_ofNat_of_zero_le p0
  have pt : t ≤ 9223372036854775807 := by omega
  clear g1 p0 b1
  by_cases g2 : xs.length ≤ t / 8
  · have k2 : decide ((xs.length : Int) ≤ (t : Int) / 8) = true := by simp; omega
    go_enter Try.func5, Try.ntmps5
    go_wp2_with (go_at_call 11; refine (awake_any _).mono ?_; rintro e1 w1 ⟨rfl, B1⟩)
    go_ret
    exact ⟨rfl, B1⟩
  have k2 : decide ((xs.length : Int) ≤ (t : Int) / 8) = false := by simp; omega
  by_cases g3 : tu = 0
  · have k3 : ((tu : Int) == 0) = true := beq_iff_eq.2 (by omega)
    clear g3
    go_enter Try.func5, Try.ntmps5
    go_wp2_with (go_at_call 11; refine (awake_any _).mono ?_; rintro e1 w1 ⟨rfl, B1⟩)
    go_ret
    exact ⟨rfl, B1⟩
  have k3 : ((tu : Int) == 0) = false := beq_eq_false_iff_ne.2 (by omega)
  clear g3
  go_enter Try.func5, Try.ntmps5
  go_wp2_with (first
    | (go_at_call 11; refine (awake_any _).mono ?_; rintro e1 w1 ⟨rfl, B1⟩)
    | (at_builtin; refine appO w.heap.size 22 5 (.int .u8 0) 1 1 (by8 xs) xs.length (own_base' (own_empty w1 5 1) B1.size) (Nat.le_trans B1.size (by simp)) (by omega) Try.underlying22 infoU8 rfl (by decide) (by decide) (by simp [by8]) (by8_one xs) a0 c0 ((XR.out.below B1).below ((Below.refl _ _).alloc (Nat.le_refl _) _)) XC.out.1 XC.out.2 (.tmp 30) (.tmp 31) rfl rfl rfl rfl ?_
       intro v1 x1 hown hg _
       have HX1 := Lib.hid (below_app0 B1 hg)
       rw [List.nil_append, Nat.zero_add] at hown
       obtain ⟨g', c', rfl⟩ := own_some hown (by omega)
       have HO1 := Lib.hid hown
       clear hg hown))
  have R0 := Lib.hid (show TeRel w x1 g' c' xs.length t xs (.bool false) (.int .i64 0) 0 0 xs from
    ⟨by omega, rfl, rfl, HO1.out, rfl, XB.out, by decide, by rw [Nat.xor_self, it_zero], HX1.out⟩)
  clear HO1 HX1 B1
  go_loopw [8, 9] (fun s8 s9 wr => ∃ (k V : Nat) (cs : List Nat), TeRel w wr g' c' xs.length t xs s8 s9 k V cs) (fun _ i _ => 32 - (intOf i).toNat)
  case atStart => exact ⟨0, 0, xs, R0.out⟩
  case round =>
    obtain ⟨k, V, cs, hk, rfl, rfl, own, len, lt, hV, heq, bel⟩ := hrel
    have HO := Lib.hid own; have HL := Lib.hid lt; have HV := Lib.hid hV; have HE := Lib.hid heq; have HB := Lib.hid bel; have HN := Lib.hid len
    clear own lt hV heq bel len
    by_cases h1 : k < 32
    · have hk1 : (k : Int) < 32 := by omega
      have hd : tu / 2 ^ k < 4294967296 := Nat.lt_of_le_of_lt (Nat.div_le_self _ _) (by omega)
      have ha := and1 hd
      have hcast : (tu : Int) / 2 ^ k = ((tu / 2 ^ k : Nat) : Int) := by simp
      rcases Nat.mod_two_eq_zero_or_one (tu / 2 ^ k) with h2 | h2
      · rw [h2, ← hcast] at ha
        have HD := Lib.hid hd
        clear hcast hd h2
        go_wp2
        go_roundw
        case rel => exact ⟨k + 1, V, cs, ⟨by omega, rfl, rfl, HO.out, HN.out, HL.out, Nat.lt_of_lt_of_le HV.out (Nat.pow_le_pow_right (by decide) (by omega)), HE.out, HB.out⟩⟩
        case measure => simp [intOf]; omega
      · rw [h2, ← hcast] at ha
        have HD := Lib.hid hd
        clear hcast hd h2
        by_cases h3 : (t + k) / 8 < xs.length
        · have k4 : decide (((t : Int) + k) / 8 < (xs.length : Int)) = true := by simp; omega
          go_upto_region 11 with fail
          have hj : (t + k) / 8 < cs.length := by rw [HN.out]; exact h3
          have hc := own_cell HO.out ((t + k) / 8) (.int .u8 (cs[(t + k) / 8] : Nat)) (by simp [by8, List.getElem?_eq_getElem hj])
          have hf := own_frozen HO.out (by omega) ((t + k) / 8)
          have hq : ((t : Int) + k) / 8 < (xs.length : Int) := by omega
          have hq0 : (0 : Int) ≤ ((t : Int) + k) / 8 := by omega
          have hw : IntKind.i64.wrap ((t : Int) + k) = (t : Int) + k := IntWalk.i64_in _ (by omega)
          have hcast2 : (((t : Int) + k) / 8).toNat = (t + k) / 8 := by omega
          go_region
          have hx := HL.out _ (List.getElem_mem hj)
          have HS := Lib.hid (turn8 (x := cs[(t + k) / 8]) (t + k) hx)
          rw [HS.out.1]
          have hy := HS.out.2.1
          have hbel := (HB.out.setCell (p := ⟨g', (t + k) / 8, none⟩) (HO.out.lt g' rfl).1 (.int .u8 ((cs[(t + k) / 8] ^^^ 2 ^ ((t + k) % 8) : Nat) : Int))).drew
          have R1 := Lib.hid (show TeRel w ((wr.setCell ⟨g', (t + k) / 8, none⟩ (.int .u8 ((cs[(t + k) / 8] ^^^ 2 ^ ((t + k) % 8) : Nat) : Int))).drew) g' c' xs.length t xs (.bool true) (.int .i64 (k + 1 : Nat)) (k + 1) (V ^^^ 2 ^ k) (cs.set ((t + k) / 8) (cs[(t + k) / 8] ^^^ 2 ^ ((t + k) % 8))) from
            ⟨by omega, by rw [decide_eq_true (new_bit HV.out).1], rfl, by
              have h := own_set HO.out ((t + k) / 8) (.int .u8 ((cs[(t + k) / 8] ^^^ 2 ^ ((t + k) % 8) : Nat) : Int))
              rw [by8_set] at h
              exact h, by rw [List.length_set]; exact HN.out, by
              intro b hb
              rcases List.mem_or_eq_of_mem_set hb with h | h
              · exact HL.out b h
              · rw [h]; exact hy, (new_bit HV.out).2, by
              rw [sum_tog _ _ _ hj, HN.out, shift_bit h3, it_xor, ← HE.out, Nat.xor_assoc, Nat.xor_assoc]
              rw [Nat.xor_comm (it _ _)], hbel⟩)
          clear hbel hc hf
          generalize (wr.setCell ⟨g', (t + k) / 8, none⟩ (.int .u8 ((cs[(t + k) / 8] ^^^ 2 ^ ((t + k) % 8) : Nat) : Int))).drew = w5 at *
          go_wp2
          go_roundw
          case rel => exact ⟨k + 1, _, _, R1.out⟩
          case measure => simp [intOf]; omega
        · have k4 : decide (((t : Int) + k) / 8 < (xs.length : Int)) = false := by simp; omega
          go_wp2
          go_roundw
          case rel => exact ⟨k + 1, V, cs, ⟨by omega, rfl, rfl, HO.out, HN.out, HL.out, Nat.lt_of_lt_of_le HV.out (Nat.pow_le_pow_right (by decide) (by omega)), HE.out, HB.out⟩⟩
          case measure => simp [intOf]; omega
    · obtain rfl : k = 32 := by omega
      have hk1 : ¬ (32 : Int) < 32 := by omega
      by_cases hz : V = 0
      · have hz2 : decide (V ≠ 0) = false := by simp [hz]
        rw [hz2]
        clear hz hz2
        go_wp2
        go_ret
        exact ⟨rfl, HB.out⟩
      · have hz2 : decide (V ≠ 0) = true := by simp [hz]
        rw [hz2]
        have hne : sum cs ≠ sum xs := by
          intro h
          have he := HE.out
          rw [h, Nat.xor_self] at he
          exact hz (it_null _ (by have := HV.out; omega) he.symm)
        have q1 : (((sum cs : Nat) : Int) != ((sum xs : Nat) : Int)) = true := by simp; omega
        have HD := Lib.hid (show decide (sum cs = sum xs) = false by simpa using hne)
        have HSL := Lib.hid (sum_lt XB.out)
        clear hz hz2 hne
        go_wp2_with (first
          | (go_at_call 12; with_reducible refine (csum_n _ cs xs.length _ _ HN.out (own_rdg HO.out) HL.out (by omega)).mono ?_; rintro e1 w6 ⟨rfl, rfl⟩)
          | (go_at_call 12; with_reducible refine (csum_n _ xs xs.length _ _ rfl (XR.out.below HB.out) XB.out (by omega)).mono ?_; rintro e1 w6 ⟨rfl, rfl⟩)
          | (go_at_call 15; with_reducible refine (ccheck_n _ cs xs.length _ _ _ HSL.out HN.out (own_rdg HO.out) HL.out (by omega)).mono ?_; rintro e1 w6 ⟨rfl, rfl⟩; rw [HD.out]))
        go_ret
        exact ⟨ret_bool (by simp), HB.out⟩
end Go.Proofs.Ytpiiepnljeifhaa
