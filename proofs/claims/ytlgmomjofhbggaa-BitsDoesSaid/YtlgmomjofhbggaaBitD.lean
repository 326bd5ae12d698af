/- The walk of the loader. Condition: a text of a size that a machine has. -/
import Derived.Test.YtlgmomjofhbggaaBitV
set_option linter.unusedVariables false
set_option linter.unusedSimpArgs false
namespace Go.Proofs.Ytlgmomjofhbggaa
open Go.RowKit

theorem natsOf_len (s : ByteArray) : (natsOf s).length = s.size := by simp [natsOf]
theorem natsOf_lt (s : ByteArray) : ∀ x ∈ natsOf s, x < 256 := by
  intro x hx
  simp only [natsOf, List.mem_map] at hx
  obtain ⟨u, _, rfl⟩ := hx
  exact u.toNat_lt
theorem natsOf_get (s : ByteArray) (k : Nat) (h : k < s.size) : (natsOf s)[k]'(by rw [natsOf_len]; exact h) = s[k].toNat := by
  simp [natsOf]
  rfl
theorem isEmpty_size (s : ByteArray) : s.toList.isEmpty = decide (s.size = 0) := by
  rw [ByteArray.toList_eq]
  cases h : s.data.toList with
  | nil => simp [ByteArray.size, ← Array.length_toList, h]
  | cons a l => simp [ByteArray.size, ← Array.length_toList, h]

theorem div_walk (b j : Nat) : ((b : Int) / 2 ^ j) = ((b / 2 ^ j : Nat) : Int) := by
  rw [Int.natCast_ediv, Int.natCast_pow]; rfl
theorem or_walk (ys : List Nat) (k : Nat) (hk : k < ys.length) (h8 : k < 8) (h : ∀ y ∈ ys, y < 256) :
    bits BinOp.or IntKind.u64 ((num (ys.take k) : Nat) : Int) (IntKind.u64.wrap (IntKind.u64.wrap ((ys[k] : Nat) : Int) * 2 ^ (8 * k))) = ((num (ys.take (k + 1)) : Nat) : Int) := by
  have hy := h ys[k] (List.getElem_mem _)
  have e1 : IntKind.u64.wrap ((ys[k] : Nat) : Int) = ((ys[k] : Nat) : Int) := wraps_u64 _ (by omega) (by omega)
  have hpow : 2 ^ (8 * k) ≤ 2 ^ 56 := Nat.pow_le_pow_right (by decide) (by omega)
  have hprod : ys[k] * 2 ^ (8 * k) < 18446744073709551616 := by
    have : ys[k] * 2 ^ (8 * k) ≤ 255 * 2 ^ 56 := Nat.mul_le_mul (by omega) hpow
    omega
  have e2 : ((ys[k] : Nat) : Int) * 2 ^ (8 * k) = ((ys[k] * 2 ^ (8 * k) : Nat) : Int) := by rw [Int.natCast_mul, Int.natCast_pow]; rfl
  have e3 : IntKind.u64.wrap ((ys[k] * 2 ^ (8 * k) : Nat) : Int) = ((ys[k] * 2 ^ (8 * k) : Nat) : Int) := wraps_u64 _ (by omega) (by omega)
  have hn := num_lt (ys.take k) (fun y hy => h y (List.mem_of_mem_take hy))
  have hn' : num (ys.take k) < 18446744073709551616 := by
    rw [List.length_take, Nat.min_eq_left (by omega)] at hn
    omega
  rw [e1, e2, e3, or64 hn' hprod, num_take_succ ys k hk h]

structure LoadRel (w wr : World) (g n : Nat) (ys : List Nat) (i : Value) (k : Nat) : Prop where
  hk : k ≤ ys.length
  hi : i = .int .i64 k
  blk : Blk wr g #[.int .i64 n, .int .u64 (num (ys.take k) : Nat)] 26
  res : Blk wr w.heap.size #[.int .i64 0, .int .u64 0] 26
  bel : Below w.heap.size w wr

theorem bload_any (s : ByteArray) (w : World) (hs : s.size ≤ 140737488351232) :
    Calls Try.prog 19 #[.string s] w fun e w' => e = .returned (loadV (load (natsOf s))) ∧ Below w.heap.size w w' := by
  by_cases h0 : s.size = 0
  · have k0 : s.toList.isEmpty = true := by rw [isEmpty_size]; simpa using h0
    have HE := Lib.hid (show load (natsOf s) = none by rw [List.eq_nil_of_length_eq_zero ((natsOf_len s).trans h0)]; rfl)
    go_enter Try.func19, Try.ntmps19
    go_wp2
    rw [HE.out]
    refine ret_cell_tmp (k := 2) (u := 3) (by kernel_rfl) rfl rfl (Blk.new _ _ _) (by kernel_rfl) (by kernel_rfl) ⟨rfl, (Below.refl _ _).alloc (by simp) _⟩
  have k0 : s.toList.isEmpty = false := by rw [isEmpty_size]; simpa using h0
  have hp : 0 < s.size := by omega
  obtain ⟨n, hn⟩ : ∃ n, s[0].toNat = n := ⟨_, rfl⟩
  obtain ⟨ys, hys⟩ : ∃ ys, natsOf s = n :: ys := by
    cases hl : natsOf s with
    | nil => have := natsOf_len s; rw [hl] at this; simp at this; omega
    | cons a l =>
      have := natsOf_get s 0 hp
      simp only [hl, List.getElem_cons_zero] at this
      exact ⟨l, by rw [this, hn]⟩
  have hm : s.size = ys.length + 1 := by rw [← natsOf_len, hys]; rfl
  have HY := Lib.hid hys
  have HYB := Lib.hid (show ∀ y ∈ ys, y < 256 from fun y hy => natsOf_lt s y (by rw [hys]; simp [hy]))
  clear hys
  by_cases h1 : 64 < n
  · have k1 : decide (64 < (n : Int)) = true := by simp; omega
    have HE := Lib.hid (show load (natsOf s) = none by rw [HY.out, load, if_pos h1])
    go_enter Try.func19, Try.ntmps19
    go_wp2
    rw [HE.out]
    refine ret_cell_tmp (k := 2) (u := 3) (by kernel_rfl) rfl rfl (Blk.new _ _ _) (by kernel_rfl) (by kernel_rfl) ⟨rfl, (Below.refl _ _).alloc (by simp) _⟩
  have k1 : decide (64 < (n : Int)) = false := by simp; omega
  have HN := Lib.hid (show newOf (n : Int) = n by unfold newOf; rw [if_neg (by omega)]; omega)
  by_cases h2 : ys.length = (n + 7) / 8
  · have k2 : ((s.size : Int) != 1 + ((n : Int) + 7) / 8) = false := by rw [hm]; simp; omega
    have H2 := Lib.hid h2; have HM := Lib.hid hm
    clear h2 hm
    go_enter Try.func19, Try.ntmps19
    go_upto_region 5 with (go_at_call 11; refine (bnew_any _ _).mono ?_; rw [HN.out]; rintro e1 w1 ⟨rfl, B1⟩; have HA := Lib.hid ((Blk.new w #[.int .i64 0, .int .u64 0] 26).below B1); have HB := Lib.hid ((((Below.refl w.heap.size w).alloc (Nat.le_refl _) (.cells #[.int .i64 0, .int .u64 0] 26))).trans (B1.mono (by simp))); have hg := B1.size; clear B1)
    have R0 := Lib.hid (show LoadRel w (w1.alloc (.cells #[.int .i64 n, .int .u64 0] 26)) w1.heap.size n ys (.int .i64 0) 0 from
      ⟨by omega, rfl, by have := Blk.new w1 #[.int .i64 n, .int .u64 0] 26; exact this, HA.out.alloc _, HB.out.alloc HB.out.size _⟩)
    have hg' : w.heap.size < w1.heap.size := by simp at hg; omega
    generalize w1.alloc (.cells #[.int .i64 n, .int .u64 0] 26) = w0 at *
    clear HA HB hg k2
    generalize w1.heap.size = g at *
    go_loopw [30] (fun i wr => ∃ (k : Nat), LoadRel w wr g n ys i k) (fun i _ => ys.length - (intOf i).toNat)
    case atStart => exact ⟨0, R0.out⟩
    case round =>
      obtain ⟨k, hk, rfl, hblk, hres, hbel⟩ := hrel
      obtain ⟨ca0, ca1, fa0, fa1⟩ := hblk.c2
      have HK := Lib.hid hblk
      have HR := Lib.hid hres
      have HB := Lib.hid hbel
      clear hblk hres hbel
      by_cases hlt : k < ys.length
      · have hlt' : decide ((k : Int) < (s.size : Int) - 1) = true := by have := HM.out; simp; omega
        have hks : k + 1 < s.size := by rw [HM.out]; omega
        have hy : (s[k + 1]'hks).toNat = ys[k] := by
          rw [← natsOf_get s (k + 1) hks]
          simp [HY.out]
        have hk8 : k < 8 := by have := H2.out; omega
        have hsum : IntKind.i64.wrap ((k : Int) + 1) = (k : Int) + 1 := IntWalk.i64_in _ (by omega)
        have hmul : IntKind.i64.wrap (8 * (k : Int)) = 8 * (k : Int) := IntWalk.i64_in _ (by omega)
        have hneg : decide (8 * (k : Int) < 0) = false := by simp; omega
        have HO := Lib.hid (or_walk ys k hlt hk8 HYB.out)
        go_wp2
        go_region
        rw [HO.out]
        go_wp2
        go_roundw
        case rel => exact ⟨k + 1, by omega, by push_cast; rfl, (HK.out.set 1 (.int .u64 (num (ys.take (k + 1)) : Nat))).drew, (HR.out.setOther (p := ⟨g, 1, none⟩) (by simp; omega) _).drew, (HB.out.setCell (by simp; omega) _).drew⟩
        case measure => simp [intOf]; omega
      · have hlt' : decide ((k : Int) < (s.size : Int) - 1) = false := by have := HM.out; simp; omega
        obtain rfl : k = ys.length := by omega
        have HL := Lib.hid (num_lt ys HYB.out)
        have H2' := H2.out
        rw [List.take_of_length_le (Nat.le_refl _)] at HK ca1
        obtain ⟨cb0, cb1, fb0, fb1⟩ := HR.out.c2
        by_cases h3 : n < 64
        · have k3 : decide ((n : Int) < 64) = true := by simp; omega
          by_cases h4 : num ys / 2 ^ n = 0
          · have k4 : (((num ys : Nat) : Int) / 2 ^ n != 0) = false := by rw [div_walk, h4]; rfl
            have HE := Lib.hid (show load (natsOf s) = some (n, num ys) by rw [HY.out, load, if_neg h1, if_neg (by omega), if_neg (by simp [h4])])
            clear H2' h4
            go_wp2
            rw [HE.out]
            refine ret_cell_tmp (k := 2) (u := 3) (by kernel_rfl) rfl rfl ((HR.out.set 0 _).set 1 _) (by kernel_rfl) (by kernel_rfl) ⟨rfl, (HB.out.setCell (by simp) _).setCell (by simp) _⟩
          · have k4 : (((num ys : Nat) : Int) / 2 ^ n != 0) = true := by rw [div_walk]; simp only [bne, Bool.not_eq_true', beq_eq_false_iff_ne]; omega
            have HE := Lib.hid (show load (natsOf s) = none by rw [HY.out, load, if_neg h1, if_neg (by omega), if_pos ⟨h3, h4⟩])
            clear H2' h4
            go_wp2
            rw [HE.out]
            refine ret_cell_tmp (k := 2) (u := 3) (by kernel_rfl) rfl rfl ((HR.out.set 0 _).set 1 _) (by kernel_rfl) (by kernel_rfl) ⟨rfl, (HB.out.setCell (by simp) _).setCell (by simp) _⟩
        · have k3 : decide ((n : Int) < 64) = false := by simp; omega
          have HE := Lib.hid (show load (natsOf s) = some (n, num ys) by rw [HY.out, load, if_neg h1, if_neg (by omega), if_neg (by omega)])
          clear H2'
          go_wp2
          rw [HE.out]
          refine ret_cell_tmp (k := 2) (u := 3) (by kernel_rfl) rfl rfl ((HR.out.set 0 _).set 1 _) (by kernel_rfl) (by kernel_rfl) ⟨rfl, (HB.out.setCell (by simp) _).setCell (by simp) _⟩
  · have k2 : ((s.size : Int) != 1 + ((n : Int) + 7) / 8) = true := by rw [hm]; simp [bne]; omega
    have HE := Lib.hid (show load (natsOf s) = none by rw [HY.out, load, if_neg h1, if_pos h2])
    have HM := Lib.hid hm
    clear hm
    go_enter Try.func19, Try.ntmps19
    go_wp2_with (go_at_call 11; refine (bnew_any _ _).mono ?_; rw [HN.out]; rintro e1 w1 ⟨rfl, B1⟩; have hA := (Blk.new w #[.int .i64 0, .int .u64 0] 26).below B1; have hA2 := hA.alloc (.cells #[.int .i64 n, .int .u64 0] 26); obtain ⟨ca0, ca1, fa0, fa1⟩ := hA2.c2; have HA := Lib.hid hA2; have HB := Lib.hid ((((Below.refl w.heap.size w).alloc (Nat.le_refl _) (.cells #[.int .i64 0, .int .u64 0] 26))).trans (B1.mono (by simp))); clear B1 hA hA2)
    rw [HE.out]
    refine ret_cell_tmp (k := 2) (u := 3) (by kernel_rfl) rfl rfl ((HA.out.set 0 _).set 1 _) (by kernel_rfl) (by kernel_rfl) ⟨rfl, ((HB.out.alloc HB.out.size _).setCell (by simp) _).setCell (by simp) _⟩

end Go.Proofs.Ytlgmomjofhbggaa
