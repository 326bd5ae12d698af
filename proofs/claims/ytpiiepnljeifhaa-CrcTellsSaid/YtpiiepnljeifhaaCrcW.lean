/- The walks of package crc. Conditions: numbers of 32 bits, bytes. -/
import Derived.Test.YtpiiepnljeifhaaLib
import Derived.Test.YtpiiepnljeifhaaProg
import Derived.Test.YtpiiepnljeifhaaMem
import Derived.Test.YtpiiepnljeifhaaCrcM
import Derived.Deep.MidRow
import Derived.Deep.QuietTactic
import Derived.BigQuiet
import Derived.WalkSpells
import Derived.Deep.DeepCutAuto
import Derived.Deep.RegionLaw
set_option linter.unusedVariables false
set_option linter.unusedSimpArgs false
namespace Go.Proofs.Ytpiiepnljeifhaa
open Go.RowKit

theorem vu32 {a b : Int} (h : a = b) : Value.int .u32 a = .int .u32 b := by rw [h]
theorem vret {k : IntKind} {a b : Nat} (h : a = b) : Ending.returned (.int k a) = .returned (.int k b) := by rw [h]
theorem con_any (s b : Nat) (w : World) (hs : s < 4294967296) (hb : b < 256) :
    Calls Try.prog 16 #[.int .u32 s, .int .u8 b] w fun e w' => e = .returned (.int .u32 (onB s b)) ∧ w' = w := by
  have hx := xor32 hs (b := b) (by omega)
  have hl : s ^^^ b < 4294967296 := xor_lt hs (by omega)
  go_enter Try.func16, Try.ntmps16
  go_wp2
  generalize hz : s ^^^ b = z at *
  go_loop [0, 10] (fun s0 i => ∃ (k : Nat), k ≤ 8 ∧ i = .int .i64 k ∧ s0 = .int .u32 (it k z : Nat)) (fun _ i => 8 - (intOf i).toNat)
  case atStart => exact ⟨0, by omega, rfl, rfl⟩
  case round =>
    obtain ⟨k, hk, rfl, rfl⟩ := hrel
    have hz2 := it_lt k hl
    have ha := and1 hz2
    have hp := xor32 (a := it k z / 2) (b := 2197175160) (by omega) (by decide)
    by_cases hlt : k < 8
    · have hlt' : (k : Int) < 8 := by omega
      rcases Nat.mod_two_eq_zero_or_one (it k z) with h2 | h2
      · have e1 : it (k + 1) z = it k z / 2 := by rw [it_succ, stp, h2]; rfl
        go_wp2
        go_round
        case rel => exact ⟨k + 1, by omega, rfl, vu32 (by rw [e1]; rfl)⟩
        case measure => simp [intOf]; omega
      · have e1 : it (k + 1) z = it k z / 2 ^^^ 2197175160 := by rw [it_succ, stp, h2]; rfl
        go_wp2
        go_round
        case rel => exact ⟨k + 1, by omega, rfl, vu32 (by rw [e1]; exact hp)⟩
        case measure => simp [intOf]; omega
    · have hlt' : ¬ (k : Int) < 8 := by omega
      obtain rfl : k = 8 := by omega
      go_wp2
      go_ret
      exact ⟨by subst hz; rfl, rfl⟩
/-- A row of bytes. -/
abbrev by8 (bs : List Nat) : List Value := bs.map fun b : Nat => Value.int .u8 (b : Int)
theorem cmore_any (s : Nat) (A : Option Addr) (bs : List Nat) (c : Nat) (w : World) (hs : s < 4294967296) (hr : Rd w A (by8 bs)) (hb : ∀ b ∈ bs, b < 256) (hn : bs.length ≤ 140737488351232) :
    Calls Try.prog 13 #[.int .u32 s, .slice A bs.length c] w fun e w' => e = .returned (.int .u32 (more s bs)) ∧ w' = w := by
  have hm : IntKind.u32.max = 4294967295 := by decide
  have hsg : IntKind.u32.signed = false := rfl
  have hx : bits .xor .u32 4294967295 (s : Int) = ((4294967295 ^^^ s : Nat) : Int) := xor32 (a := 4294967295) (by decide) hs
  have hl : 4294967295 ^^^ s < 4294967296 := xor_lt (by decide) hs
  have HR := Lib.hid hr; clear hr
  have HB := Lib.hid hb; clear hb
  go_enter Try.func13, Try.ntmps13
  go_wp2
  generalize hz : 4294967295 ^^^ s = z at *
  go_loop [5, 12] (fun s5 i => ∃ (k : Nat), k ≤ bs.length ∧ i = .int .i64 k ∧ s5 = .int .u32 (run z (bs.take k) : Nat)) (fun _ i => bs.length - (intOf i).toNat)
  case atStart => exact ⟨0, by omega, rfl, rfl⟩
  case round =>
    obtain ⟨k, hk, rfl, rfl⟩ := hrel
    have hz2 := run_lt (bs.take k) hl (fun b hb => HB.out b (List.mem_of_mem_take hb))
    by_cases hlt : k < bs.length
    · have hlt' : (k : Int) < bs.length := by omega
      obtain ⟨b, o, rfl, hc⟩ := HR.out.at_ k hlt
      have hbk := HB.out _ (List.getElem_mem hlt)
      have e1 : run z (bs.take (k + 1)) = onB (run z (bs.take k)) bs[k] := by rw [List.take_add_one, List.getElem?_eq_getElem hlt, run_append]; rfl
      generalize bs[k] = x at *
      go_wp2_with (go_at_call 16; refine (con_any (run z (bs.take k)) x _ hz2 hbk).mono ?_; rintro e w1 ⟨rfl, rfl⟩)
      go_round
      case rel => exact ⟨k + 1, by omega, rfl, vu32 (by rw [e1])⟩
      case measure => simp [intOf]; omega
    · have hlt' : ¬ (k : Int) < bs.length := by omega
      obtain rfl : k = bs.length := by omega
      rw [List.take_length] at *
      have hy : bits .xor .u32 4294967295 (run z bs : Int) = ((4294967295 ^^^ run z bs : Nat) : Int) := xor32 (a := 4294967295) (by decide) hz2
      go_wp2
      go_ret
      exact ⟨by subst hz; rfl, rfl⟩
theorem csum_any (A : Option Addr) (bs : List Nat) (c : Nat) (w : World) (hr : Rd w A (by8 bs)) (hb : ∀ b ∈ bs, b < 256) (hn : bs.length ≤ 140737488351232) :
    Calls Try.prog 12 #[.slice A bs.length c] w fun e w' => e = .returned (.int .u32 (sum bs)) ∧ w' = w := by
  go_enter Try.func12, Try.ntmps12
  go_wp2_with (go_at_call 13; refine (cmore_any 0 A bs c _ (by decide) hr hb hn).mono ?_; rintro e w1 ⟨rfl, rfl⟩)
  go_ret
  exact ⟨rfl, rfl⟩
theorem ccheck_any (A : Option Addr) (bs : List Nat) (c s : Nat) (w : World) (hs : s < 4294967296) (hr : Rd w A (by8 bs)) (hb : ∀ b ∈ bs, b < 256) (hn : bs.length ≤ 140737488351232) :
    Calls Try.prog 15 #[.slice A bs.length c, .int .u32 s] w fun e w' => e = .returned (.bool (decide (sum bs = s))) ∧ w' = w := by
  have hd : ((sum bs : Int) == (s : Int)) = decide (sum bs = s) := by
    by_cases h : sum bs = s
    · simp [h]
    · simp [h]; omega
  go_enter Try.func15, Try.ntmps15
  go_wp2_with (go_at_call 12; refine (csum_any A bs c _ hr hb hn).mono ?_; rintro e w1 ⟨rfl, rfl⟩)
  go_ret
  exact ⟨rfl, rfl⟩

/-! ### Joining -/
/-- What becomes of each bit. -/
def mat (L : Nat → Nat) : List Nat := (List.range 32).map fun i => L (2 ^ i)
def u32s (l : List Nat) : List Value := l.map fun b : Nat => Value.int .u32 (b : Int)
theorem Blk.setCells {T : TypeId} {b : Nat} : ∀ (vs : List Value) (o : Nat) (w : World) (cs : Array Value), Blk w b cs T →
    ∃ cs', Blk (w.setCells b o vs) b cs' T ∧ cs'.size = cs.size ∧ ∀ j, j < cs.size → cs'[j]? = if o ≤ j ∧ j < o + vs.length then vs[j - o]? else cs[j]?
  | [], o, w, cs, h => ⟨cs, h, rfl, fun j hj => by rw [if_neg (by simp)]⟩
  | v :: r, o, w, cs, h => by
    obtain ⟨cs', h1, h2, h3⟩ := Blk.setCells r (o + 1) _ _ (h.set o v)
    refine ⟨cs', h1, by simpa using h2, fun j hj => ?_⟩
    rw [h3 j (by simpa using hj)]
    by_cases hjo : j = o
    · subst hjo
      rw [if_neg (by omega), if_pos (by simp)]
      simp [hj]
    · rw [Array.getElem?_setIfInBounds_ne (by omega)]
      by_cases hr : o + 1 ≤ j ∧ j < o + 1 + r.length
      · rw [if_pos hr, if_pos (by simp; omega)]
        rw [show j - o = (j - (o + 1)) + 1 by omega, List.getElem?_cons_succ]
      · rw [if_neg hr, if_neg (by simp; omega)]
theorem Blk.fill {T : TypeId} {b : Nat} {w : World} {cs : Array Value} {vs : List Value} (h : Blk w b cs T) (hl : vs.length = cs.size) : Blk (w.setCells b 0 vs) b vs.toArray T := by
  obtain ⟨cs', h1, h2, h3⟩ := Blk.setCells vs 0 w cs h
  have : cs' = vs.toArray := by
    apply Array.ext_getElem?
    intro j
    by_cases hj : j < cs.size
    · rw [h3 j hj, if_pos (by omega)]; simp
    · rw [Array.getElem?_eq_none (by omega), Array.getElem?_eq_none (by simp; omega)]
  rwa [this] at h1
theorem Upd.setCells {S : Nat → Prop} {b : Nat} : ∀ (vs : List Value) (o : Nat) {a w : World}, Upd S a w → (a.heap.size ≤ b ∨ S b) → Upd S a (w.setCells b o vs)
  | [], o, a, w, h, _ => h
  | v :: r, o, a, w, h, hp => Upd.setCells r (o + 1) (h.setCell (p := ⟨b, o, none⟩) hp v) hp
theorem Blk.range {T : TypeId} {b : Nat} {w : World} {vs : List Value} (h : Blk w b vs.toArray T) : w.rangeAt b 0 vs := fun j v hv => by
  rw [Nat.zero_add, h.cell j]; simpa using hv
theorem Blk.there {T : TypeId} {b : Nat} {w : World} {cs : Array Value} (h : Blk w b cs T) : w.there b 0 cs.size := fun j hj => by
  rw [Nat.zero_add, h.cell j]; exact ⟨by simp [hj], h.frozen j⟩

theorem low_bit (s k : Nat) : s % 2 ^ (k + 1) = if (s / 2 ^ k) % 2 = 1 then (s % 2 ^ k) ^^^ 2 ^ k else s % 2 ^ k := by
  apply Nat.eq_of_testBit_eq
  intro j
  have hb : s.testBit k = decide ((s / 2 ^ k) % 2 = 1) := by
    rw [Nat.testBit_eq_decide_div_mod_eq]
  by_cases h : (s / 2 ^ k) % 2 = 1
  · rw [if_pos h, Nat.testBit_mod_two_pow, Nat.testBit_xor, Nat.testBit_mod_two_pow, Nat.testBit_two_pow]
    by_cases hj : j = k
    · subst hj; simp [hb, h]
    · by_cases hj2 : j < k
      · have : j < k + 1 := by omega
        have : ¬ k = j := by omega
        simp [*]
      · have : ¬ j < k + 1 := by omega
        have : ¬ k = j := by omega
        simp [*]
  · rw [if_neg h, Nat.testBit_mod_two_pow, Nat.testBit_mod_two_pow]
    by_cases hj : j = k
    · subst hj; simp [hb, h]
    · by_cases hj2 : j < k
      · have : j < k + 1 := by omega
        simp [*]
      · have : ¬ j < k + 1 := by omega
        simp [*]

/-- A map that goes bit by bit, within 32 bits. -/
structure Lin (L : Nat → Nat) : Prop where
  xor : ∀ x y, L (x ^^^ y) = L x ^^^ L y
  lt : ∀ x, x < 4294967296 → L x < 4294967296
theorem Lin.zero {L : Nat → Nat} (h : Lin L) : L 0 = 0 := by
  have := h.xor 0 0
  rw [Nat.xor_self] at this
  rw [this, Nat.xor_self]

theorem cof_any (b : Nat) (L : Nat → Nat) (s : Nat) (T : TypeId) (w : World) (hs : s < 4294967296) (hb : Blk w b (u32s (mat L)).toArray T) (hL : Lin L) :
    Calls Try.prog 17 #[.pointer (some ⟨b, 0, none⟩), .int .u32 s] w fun e w' => e = .returned (.int .u32 (L s)) ∧ w' = w := by
  go_enter Try.func17, Try.ntmps17
  go_wp2
  go_loop [5, 7] (fun s5 i => ∃ (k : Nat), k ≤ 32 ∧ i = .int .i64 k ∧ s5 = .int .u32 (L (s % 2 ^ k) : Nat)) (fun _ i => 32 - (intOf i).toNat)
  case atStart => exact ⟨0, by omega, rfl, vu32 (by simp [Nat.mod_one, hL.zero])⟩
  case round =>
    obtain ⟨k, hk, rfl, rfl⟩ := hrel
    by_cases hlt : k < 32
    · have hlt' : (k : Int) < 32 := by omega
      have hc : w.cell? ⟨b, k, none⟩ = some (.int .u32 (L (2 ^ k) : Nat)) := by
        rw [hb.cell k]; simp [u32s, mat, hlt]
      have hd : s / 2 ^ k < 4294967296 := Nat.lt_of_le_of_lt (Nat.div_le_self _ _) hs
      have ha := and1 hd
      have hcast : (s : Int) / 2 ^ k = ((s / 2 ^ k : Nat) : Int) := by simp
      have hm : s % 2 ^ k < 4294967296 := Nat.lt_of_le_of_lt (Nat.mod_le _ _) hs
      have hp2 : 2 ^ k < 4294967296 := Nat.pow_lt_pow_right (by decide) hlt
      have hx := xor32 (hL.lt _ hm) (hL.lt _ hp2)
      rw [← hL.xor] at hx
      have hlow := low_bit s k
      rcases Nat.mod_two_eq_zero_or_one (s / 2 ^ k) with h2 | h2
      · rw [h2] at ha hlow
        rw [← hcast] at ha
        clear hx hcast
        go_wp2
        go_round
        case rel => exact ⟨k + 1, by omega, rfl, vu32 (by rw [hlow]; rfl)⟩
        case measure => simp [intOf]; omega
      · rw [h2] at ha hlow
        rw [← hcast] at ha
        clear hcast
        go_wp2
        go_round
        case rel => exact ⟨k + 1, by omega, rfl, vu32 (by rw [hlow]; first | rfl | exact hx)⟩
        case measure => simp [intOf]; omega
    · have hlt' : ¬ (k : Int) < 32 := by omega
      obtain rfl : k = 32 := by omega
      rw [show s % 2 ^ 32 = s from Nat.mod_eq_of_lt hs] at *
      go_wp2
      go_ret
      exact ⟨rfl, rfl⟩
theorem zero32 : (Array.replicate 32 (Value.int .u32 0)) = #[Value.int IntKind.u32 0, Value.int IntKind.u32 0, Value.int IntKind.u32 0, Value.int IntKind.u32 0, Value.int IntKind.u32 0, Value.int IntKind.u32 0, Value.int IntKind.u32 0, Value.int IntKind.u32 0, Value.int IntKind.u32 0, Value.int IntKind.u32 0, Value.int IntKind.u32 0, Value.int IntKind.u32 0, Value.int IntKind.u32 0, Value.int IntKind.u32 0, Value.int IntKind.u32 0, Value.int IntKind.u32 0, Value.int IntKind.u32 0, Value.int IntKind.u32 0, Value.int IntKind.u32 0, Value.int IntKind.u32 0, Value.int IntKind.u32 0, Value.int IntKind.u32 0, Value.int IntKind.u32 0, Value.int IntKind.u32 0, Value.int IntKind.u32 0, Value.int IntKind.u32 0, Value.int IntKind.u32 0, Value.int IntKind.u32 0, Value.int IntKind.u32 0, Value.int IntKind.u32 0, Value.int IntKind.u32 0, Value.int IntKind.u32 0] := rfl
/-- The first k numbers, then zeros. -/
def upto (l : List Nat) (k : Nat) : Array Value := (u32s (l.take k) ++ List.replicate (32 - k) (Value.int .u32 0)).toArray
theorem upto_size {l : List Nat} (hl : l.length = 32) {k : Nat} (hk : k ≤ 32) : (upto l k).size = 32 := by
  simp [upto, u32s, hl]; omega
theorem upto_full {l : List Nat} (hl : l.length = 32) : upto l 32 = (u32s l).toArray := by
  simp [upto, ← hl]
theorem upto_set {l : List Nat} (hl : l.length = 32) {k : Nat} (hk : k < 32) : (upto l k).setIfInBounds k (.int .u32 ((l[k]'(by omega) : Nat) : Int)) = upto l (k + 1) := by
  unfold upto
  rw [List.setIfInBounds_toArray]
  congr 1
  rw [List.set_append, if_neg (by simp [u32s, hl]; omega), List.take_add_one, List.getElem?_eq_getElem (by omega)]
  simp only [u32s, List.map_append, List.length_map, List.length_take, hl, List.append_assoc, List.append_cancel_left_eq]
  rw [show k - min k 32 = 0 by omega, show 32 - k = (32 - (k + 1)) + 1 by omega, List.replicate_succ]
  rfl
theorem mat_len (L : Nat → Nat) : (mat L).length = 32 := by simp [mat]
theorem mat_get (L : Nat → Nat) {k : Nat} (hk : k < 32) : (mat L)[k]'(by simp [mat]; omega) = L (2 ^ k) := by simp [mat]

theorem results_cell {P : Program} {fn : Func} {tmps : Array Value} {w : World} {k : Nat} {T : TypeId} {a : Addr} {v : Value} (h : fn.results = #[.cell k T]) (ht : tmps.getD k undef = .pointer (some a))
    (hl : (loadVar T a).run P w = .ok v w) : (results fn tmps).run P w = .ok v w := by
  unfold results
  rw [h]
  have ht' : tmps[k]?.getD undef = .pointer (some a) := by simpa using ht
  simp [ht', hl, asAddr]

structure TwRel (w wr : World) (b : Nat) (L : Nat → Nat) (T : TypeId) (i : Value) (k : Nat) : Prop where
  hk : k ≤ 32
  hi : i = .int .i64 k
  row : Blk wr (w.heap.size + 1) (upto (mat fun x => L (L x)) k) 40
  res : Blk wr w.heap.size (Array.replicate 32 (Value.int .u32 0)) 40
  src : Blk wr b (u32s (mat L)).toArray T
  bel : Below w.heap.size w wr

set_option maxRecDepth 100000 in
theorem ctwice_any (b : Nat) (L : Nat → Nat) (T : TypeId) (w : World) (hb : Blk w b (u32s (mat L)).toArray T) (hL : Lin L) :
    Calls Try.prog 18 #[.pointer (some ⟨b, 0, none⟩)] w fun e w' => e = .returned (.agg (u32s (mat fun x => L (L x))).toArray) ∧ Below w.heap.size w w' := by
  have HL := Lib.hid hL; clear hL
  go_enter Try.func18, Try.ntmps18
  go_wp2
  rw [← zero32]
  have R0 := Lib.hid (show TwRel w ((w.alloc (.cells (Array.replicate 32 (Value.int .u32 0)) 40)).alloc (.cells (Array.replicate 32 (Value.int .u32 0)) 40)) b L T (.int .i64 0) 0 from
    ⟨by omega, rfl, Blk.new' (by simp) _ _, (Blk.new _ _ _).alloc _, (hb.alloc _).alloc _, ((Below.refl _ _).alloc (Nat.le_refl _) _).alloc (by simp) _⟩)
  have hbw := hb.lt
  generalize (w.alloc (.cells (Array.replicate 32 (Value.int .u32 0)) 40)).alloc (.cells (Array.replicate 32 (Value.int .u32 0)) 40) = w0 at *
  go_loopw [5] (fun i wr => ∃ (k : Nat), TwRel w wr b L T i k) (fun i _ => 32 - (intOf i).toNat)
  case atStart => exact ⟨0, R0.out⟩
  case round =>
    obtain ⟨k, hk, rfl, hrow, hres, hsrc, hbel⟩ := hrel
    by_cases hlt : k < 32
    · have hlt' : (k : Int) < 32 := by omega
      have hc : wr.cell? ⟨b, k, none⟩ = some (.int .u32 (L (2 ^ k) : Nat)) := by
        rw [hsrc.cell k]; simp [u32s, mat, hlt]
      have hp2 : 2 ^ k < 4294967296 := Nat.pow_lt_pow_right (by decide) hlt
      have hd : (wr.cell? ⟨w.heap.size + 1, k, none⟩).isSome = true := by
        rw [hrow.cell k]; have := upto_size (mat_len fun x => L (L x)) hk; simp; omega
      obtain ⟨u, hu⟩ := Option.isSome_iff_exists.1 hd
      have hf := hrow.frozen k
      have R1 : TwRel w (wr.setCell ⟨w.heap.size + 1, k, none⟩ (.int .u32 (L (L (2 ^ k)) : Nat))) b L T (.int .i64 (k + 1 : Nat)) (k + 1) :=
        ⟨by omega, rfl, by have h := hrow.set k (.int .u32 (L (L (2 ^ k)) : Nat)); rw [← mat_get (fun x => L (L x)) hlt, upto_set (mat_len _) hlt] at h; rwa [← mat_get (fun x => L (L x)) hlt], hres.setOther (by simp) _, hsrc.setOther (by simp; omega) _, hbel.setCell (by simp) _⟩
      have HR1 := Lib.hid R1
      have HS := Lib.hid hsrc
      clear R1 hsrc hrow hres hd
      go_wp2_with (go_at_call 17; refine (cof_any b L (L (2 ^ k)) T _ (HL.out.lt _ hp2) HS.out HL.out).mono ?_; rintro e w1 ⟨rfl, rfl⟩)
      go_roundw
      case rel => exact ⟨k + 1, HR1.out⟩
      case measure => simp [intOf]; omega
    · have hlt' : ¬ (k : Int) < 32 := by omega
      obtain rfl : k = 32 := by omega
      rw [upto_full (mat_len _)] at hrow
      have hsz : (Try.prog.info? 40).map (·.size) = some 32 := by kernel_rfl
      have hln : (u32s (mat fun x => L (L x))).length = 32 := by simp [u32s, mat]
      have hload := hrow.range
      have hln' : (Try.prog.info? 40).map (·.size) = some (u32s (mat fun x => L (L x))).length := by rw [hln]; exact hsz
      have hstore : wr.there w.heap.size 0 (u32s (mat fun x => L (L x))).toArray.size := by have := hres.there; simpa [u32s, mat] using this
      have hone : (u32s (mat fun x => L (L x))).toArray.all (·.oneCell') = true := all_oneCell_toArray (by simp [u32s, Value.oneCell'])
      have F := Lib.hid (hres.fill (vs := u32s (mat fun x => L (L x))) (by rw [hln]; simp))
      have B := Lib.hid (Upd.setCells (u32s (mat fun x => L (L x))) 0 (Upd.of_below (S := fun _ => False) hbel) (b := w.heap.size) (.inl (Nat.le_refl _)))
      clear hsz hrow hres hsrc hbel
      generalize hm : u32s (mat fun x => L (L x)) = cs at *
      have HM := Lib.hid hm; clear hm
      go_upto_region 7 with fail
      refine wp_region_lit (l := [_, _]) ?_
      refine wpList_load_mid rfl 40 (.tmp 3) rfl _ _ rfl cs _ hload rfl rfl hln' ?_
      refine wpList_store_mid rfl 40 (.tmp 2) (.tmp 18) rfl _ _ cs.toArray rfl rfl hstore (by rw [List.size_toArray]; exact hln') hone ?_
      have hload2 := run_loadVar_mid (P := Try.prog) _ w.heap.size 0 40 _ _ F.out.range rfl rfl hln'
      rw [List.toList_toArray]
      generalize wr.setCells w.heap.size 0 cs = w3 at *
      have HF := Lib.hid F
      clear hload hln' hstore hone F hln
      go_wp2
      refine bodyPost_ret (v := .agg cs.toArray) (results_cell (k := 2) (by kernel_rfl) rfl hload2) rfl ⟨by rw [HM.out], B.out.below (Nat.le_refl _) (fun _ h => h.elim)⟩

/-- A map n times. -/
def pw (R : Nat → Nat) : Nat → Nat → Nat
  | 0, x => x
  | n + 1, x => pw R n (R x)
theorem pw_even (R : Nat → Nat) (n x : Nat) : pw R (2 * n) x = pw (fun x => R (R x)) n x := by
  induction n generalizing x with
  | zero => rfl
  | succ n ih => exact ih _
theorem pw_odd (R : Nat → Nat) (n x : Nat) : pw R (2 * n + 1) x = pw (fun x => R (R x)) n (R x) := pw_even R n (R x)
theorem pw_it (n x : Nat) : pw (it 8) n x = it (8 * n) x := by
  induction n generalizing x with
  | zero => rfl
  | succ n ih => rw [pw, ih, Nat.mul_succ, Nat.add_comm, it_add]
theorem Lin.twice {L : Nat → Nat} (h : Lin L) : Lin fun x => L (L x) := ⟨fun x y => by rw [h.xor, h.xor], fun x hx => h.lt _ (h.lt _ hx)⟩
theorem lin_it : Lin (it 8) := ⟨it_xor 8, fun _ h => it_lt 8 h⟩

theorem shl_one {k : Nat} (h : k < 32) : ((2 : Int) ^ k % 4294967296) = ((2 ^ k : Nat) : Int) := by
  have h2 : 2 ^ k < 4294967296 := Nat.pow_lt_pow_right (by decide) h
  have e : ((2 ^ k : Nat) : Int) = (2 : Int) ^ k := by simp
  rw [← e]
  generalize 2 ^ k = x at *
  omega
theorem u32s_one (l : List Nat) : ∀ v ∈ u32s l, v.oneCell' = true := by simp [u32s, Value.oneCell']
theorem fill_run {P : Program} {w : World} {b : Nat} {cs : Array Value} {T : TypeId} {vs : List Value} (h : Blk w b cs T) (hl : vs.length = cs.size) (h1 : ∀ v ∈ vs, v.oneCell' = true) :
    (storeCells ⟨b, 0, none⟩ vs 0).run P w = .ok () (w.setCells b 0 vs) :=
  run_storeCells_cells b 0 vs 0 w (fun j hj => by simpa using (h.there j (by omega)).1) (fun j hj => by simpa using (h.there j (by omega)).2) h1
theorem half64 {n : Nat} (h : n ≤ 9223372036854775807) : IntKind.i64.wrap ((n : Int).tdiv 2) = (n : Int) / 2 := by
  rw [Int.tdiv_eq_ediv_of_nonneg (by omega), IntKind.wrap_i64]
  omega
structure J1 (w wr : World) (i : Value) (k : Nat) : Prop where
  hk : k ≤ 32
  hi : i = .int .i64 k
  row : Blk wr w.heap.size (upto (mat (it 8)) k) 40
  bel : Below w.heap.size w wr
structure J2 (w wr : World) (a0 n0 : Nat) (s0 s2 : Value) (a n : Nat) (R : Nat → Nat) : Prop where
  ha : a < 4294967296
  hn : n ≤ n0
  h0 : s0 = .int .u32 a
  h2 : s2 = .int .i64 n
  row : Blk wr w.heap.size (u32s (mat R)).toArray 40
  lin : Lin R
  eq : pw R n a = it (8 * n0) a0
  bel : Below w.heap.size w wr

set_option maxRecDepth 100000 in
set_option maxHeartbeats 2000000 in
theorem cjoin_any (a b n : Nat) (w : World) (ha : a < 4294967296) (hb : b < 4294967296) (hn : n ≤ 9223372036854775807) :
    Calls Try.prog 14 #[.int .u32 a, .int .u32 b, .int .i64 n] w fun e w' => e = .returned (.int .u32 (join a b n)) ∧ Below w.heap.size w w' := by
  by_cases hn0 : n = 0
  · have k0 : decide ((n : Int) < 1) = true := by simp; omega
    go_enter Try.func14, Try.ntmps14
    go_wp2
    go_ret
    exact ⟨vret (by rw [hn0]; rfl), Below.refl _ _⟩
  have k0 : decide ((n : Int) < 1) = false := by simp; omega
  go_enter Try.func14, Try.ntmps14
  go_wp2
  rw [← zero32]
  have R0 := Lib.hid (show J1 w (w.alloc (.cells (Array.replicate 32 (Value.int .u32 0)) 40)) (.int .i64 0) 0 from ⟨by omega, rfl, Blk.new _ _ _, (Below.refl _ _).alloc (Nat.le_refl _) _⟩)
  generalize w.alloc (.cells (Array.replicate 32 (Value.int .u32 0)) 40) = w0 at *
  go_loopw [12] (fun i wr => ∃ (k : Nat), J1 w wr i k) (fun i _ => 32 - (intOf i).toNat)
  case atStart => exact ⟨0, R0.out⟩
  case round =>
    obtain ⟨k, hk, rfl, hrow, hbel⟩ := hrel
    by_cases hlt : k < 32
    · have hlt' : (k : Int) < 32 := by omega
      have hp2 : 2 ^ k < 4294967296 := Nat.pow_lt_pow_right (by decide) hlt
      have hd : (wr.cell? ⟨w.heap.size, k, none⟩).isSome = true := by
        rw [hrow.cell k]; have := upto_size (mat_len (it 8)) hk; simp; omega
      obtain ⟨u, hu⟩ := Option.isSome_iff_exists.1 hd
      have hf := hrow.frozen k
      have R1 : J1 w (wr.setCell ⟨w.heap.size, k, none⟩ (.int .u32 (it 8 (2 ^ k) : Nat))) (.int .i64 (k + 1 : Nat)) (k + 1) :=
        ⟨by omega, rfl, by have h := hrow.set k (.int .u32 (it 8 (2 ^ k) : Nat)); rw [← mat_get (it 8) hlt, upto_set (mat_len _) hlt] at h; rwa [← mat_get (it 8) hlt], hbel.setCell (by simp) _⟩
      have HR1 := Lib.hid R1
      have HS := Lib.hid (shl_one hlt)
      clear R1 hrow hd
      go_wp2_with (go_at_call 16; rw [HS.out]; refine (con_any (2 ^ k) 0 _ hp2 (by decide)).mono ?_; rintro e w1 ⟨rfl, rfl⟩)
      rw [show onB (2 ^ k) 0 = it 8 (2 ^ k) by unfold onB; rw [Nat.xor_zero]]
      go_roundw
      case rel => exact ⟨k + 1, HR1.out⟩
      case measure => simp [intOf]; omega
    · have hlt' : ¬ (k : Int) < 32 := by omega
      obtain rfl : k = 32 := by omega
      rw [upto_full (mat_len _)] at hrow
      have R2 := Lib.hid (show J2 w wr a n (.int .u32 a) (.int .i64 n) a n (it 8) from ⟨ha, Nat.le_refl _, rfl, rfl, hrow, lin_it, pw_it n a, hbel⟩)
      clear hrow hbel
      go_wp2
      go_loopw [0, 2] (fun s0 s2 wr => ∃ (a' n' : Nat) (R : Nat → Nat), J2 w wr a n s0 s2 a' n' R) (fun _ i _ => (intOf i).toNat)
      case atStart => exact ⟨a, n, _, R2.out⟩
      case round =>
        obtain ⟨a', n', R, ha', hn', rfl, rfl, hrow, hlin, heq, hbel⟩ := hrel
        by_cases hz : n' = 0
        · subst hz
          have hlt' : ¬ (0 : Int) < 0 := by omega
          have hx := xor32 ha' hb
          have HE := Lib.hid heq
          clear heq hrow hlin
          go_wp2
          go_ret
          exact ⟨vret (by have := HE.out; unfold pw at this; rw [this, join, if_neg hn0]), hbel⟩
        · have hlt' : (0 : Int) < n' := by omega
          have HROW := Lib.hid hrow
          have HLIN := Lib.hid hlin
          have HE := Lib.hid heq
          have HBEL := Lib.hid hbel
          have HDV := Lib.hid (show ((n' : Int) / 2) = ((n' / 2 : Nat) : Int) by omega)
          have hnn : n' ≤ 9223372036854775807 := by omega
          clear hrow hlin heq hbel
          rcases Nat.mod_two_eq_zero_or_one n' with h2 | h2
          · have k1 : ((n' : Int) % 2 == 1) = false := by simp; omega
            go_upto_region 10 with (first
              | (go_at_call 17; refine (cof_any w.heap.size R a' _ _ ha' HROW.out HLIN.out).mono ?_; rintro e w1 ⟨rfl, rfl⟩)
              | (go_at_call 18; refine (ctwice_any w.heap.size R _ _ HROW.out HLIN.out).mono ?_; rintro e w1 ⟨rfl, B1⟩; have hrow1 := HROW.out.upd (Upd.of_below (S := fun _ => False) B1) (fun h => h); have HR1 := Lib.hid hrow1; have hsc := fill_run (P := Try.prog) (vs := u32s (mat fun x => R (R x))) hrow1 (by simp [u32s, mat]) (u32s_one _); have HB1 := Lib.hid (Upd.of_below (S := fun _ => False) (HBEL.out.trans (B1.mono HBEL.out.size))); clear hrow1 B1))
            clear hsc
            go_wp2
            go_roundw
            case rel =>
              refine ⟨a', n' / 2, _, ha', by omega, rfl, by rw [← HDV.out], HR1.out.fill (by simp [u32s, mat]), HLIN.out.twice, ?_, (Upd.setCells _ 0 HB1.out (.inl (Nat.le_refl _))).below (Nat.le_refl _) (fun _ h => h.elim)⟩
              rw [← pw_even, show 2 * (n' / 2) = n' by omega]; exact HE.out
            case measure => simp [intOf]; omega
          · have k1 : ((n' : Int) % 2 == 1) = true := by simp; omega
            go_upto_region 10 with (first
              | (go_at_call 17; refine (cof_any w.heap.size R a' _ _ ha' HROW.out HLIN.out).mono ?_; rintro e w1 ⟨rfl, rfl⟩)
              | (go_at_call 18; refine (ctwice_any w.heap.size R _ _ HROW.out HLIN.out).mono ?_; rintro e w1 ⟨rfl, B1⟩; have hrow1 := HROW.out.upd (Upd.of_below (S := fun _ => False) B1) (fun h => h); have HR1 := Lib.hid hrow1; have hsc := fill_run (P := Try.prog) (vs := u32s (mat fun x => R (R x))) hrow1 (by simp [u32s, mat]) (u32s_one _); have HB1 := Lib.hid (Upd.of_below (S := fun _ => False) (HBEL.out.trans (B1.mono HBEL.out.size))); clear hrow1 B1))
            clear hsc
            go_wp2
            go_roundw
            case rel =>
              refine ⟨R a', n' / 2, _, HLIN.out.lt _ ha', by omega, rfl, by rw [← HDV.out], HR1.out.fill (by simp [u32s, mat]), HLIN.out.twice, ?_, (Upd.setCells _ 0 HB1.out (.inl (Nat.le_refl _))).below (Nat.le_refl _) (fun _ h => h.elim)⟩
              rw [← pw_odd, show 2 * (n' / 2) + 1 = n' by omega]; exact HE.out
            case measure => simp [intOf]; omega
end Go.Proofs.Ytpiiepnljeifhaa
