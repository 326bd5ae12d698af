/- The walk of the law MirrorLeft: it returns true. Conditions: as its arguments are read. -/
import Derived.Test.YtgmehcefmoleoaaMirS
set_option linter.unusedVariables false
set_option linter.unusedSimpArgs false
namespace Go.Proofs.Ytgmehcefmoleoaa
open Go.RowKit

/-- Items numbered one by one behind a base. -/
def num (base : Int) : List Item → List Item
  | [] => []
  | x :: xs => { x with seq := base + 1 } :: num (base + 1) xs
theorem num_length : ∀ (l : List Item) (base : Int), (num base l).length = l.length
  | [], _ => rfl
  | x :: l, base => by simp [num, num_length l]
theorem num_snoc : ∀ (l : List Item) (base : Int) (x : Item), num base (l ++ [x]) = num base l ++ [{ x with seq := base + l.length + 1 }]
  | [], base, x => by simp [num]
  | y :: l, base, x => by
    simp only [num, List.cons_append, num_snoc l, List.length_cons]
    congr 4
    push_cast
    omega
theorem num_get : ∀ (l : List Item) (base : Int) (k : Nat) (h : k < (num base l).length) (h' : k < l.length), (num base l)[k] = { l[k] with seq := base + k + 1 }
  | x :: l, base, 0, _, _ => by simp [num]
  | x :: l, base, k + 1, h, h' => by
    simp only [num, List.getElem_cons_succ]
    rw [num_get l (base + 1) k (by simpa [num] using h) (by simpa using h'), show base + 1 + (k : Int) + 1 = base + ((k + 1 : Nat) : Int) + 1 by omega]

theorem ack_yes' (B b k : Nat) (lv : Value) (l : List Item) (acked seq : Int) (w : World) (hseq : seq = acked + k) (hs : Snd w B b lv l acked) (hk : 0 < k) (hk2 : k ≤ l.length) (hn : l.length * 48 ≤ 140737488351232) :
    Calls Try.prog 14 #[.pointer (some ⟨b, 0, none⟩), .int .i64 seq] w fun e w' => e = .returned (.bool true) ∧ ∃ lv', Snd w' B b lv' (l.drop k) (acked + k) ∧ Upd (fun k => k = b ∨ lv.ownBlock = some k) w w' ∧ (∀ g, lv'.ownBlock = some g → lv.ownBlock = some g ∨ w.heap.size ≤ g) := by
  subst hseq
  exact ack_yes B b k lv l acked w hs hk hk2 hn

theorem is_bytes {w : World} {A : Option Addr} {n c by_ : Nat} (h : Sh.Is w (.slice by_ (.int .u8)) [.slice A n c]) :
    ∃ xs : List Int, xs.length = n ∧ c * by_ ≤ 140737488351232 ∧ n ≤ c ∧ Rd w A (xs.map (Value.int .u8)) ∧ ∀ x ∈ xs, 0 ≤ x ∧ x ≤ 255 := by
  obtain ⟨A', n', c', els, he, hl, hnc, hc, hr, hel⟩ := h
  simp only [List.cons.injEq, Value.slice.injEq, and_true] at he
  obtain ⟨rfl, rfl, rfl⟩ := he
  obtain ⟨ys, rfl, has⟩ := exists_map (f := fun x : Int => [Value.int .u8 x]) (p := fun x => 0 ≤ x ∧ x ≤ 255) els (fun el hel' => by
    obtain ⟨x, rfl, hx⟩ := (hel el hel').2
    exact ⟨x, rfl, bd_u8 hx⟩)
  refine ⟨ys, by simpa using hl, hc, hnc.1, ?_, has⟩
  rwa [show (ys.map fun x : Int => [Value.int .u8 x]).flatten = ys.map (Value.int .u8) by clear has hl hel hr; induction ys <;> simp_all] at hr

/-- After k items. -/
structure AddRel (w wr : World) (B b N : Nat) (base : Int) (items : List Item) (i : Value) (k : Nat) (lv : Value) : Prop where
  hi : i = .int .i64 k
  hk : k ≤ N
  snd : Snd wr B b lv (num base (items.take k)) base
  bel : Below w.heap.size w wr

/-- Behind k acks: so many are acked. -/
structure AckRel (w wr : World) (B b N : Nat) (base : Int) (l : List Item) (i s12 : Value) (k ac : Nat) (lv : Value) : Prop where
  hi : i = .int .i64 k
  hac : s12 = .int .i64 ac
  hk : k ≤ 100
  hle : ac ≤ N
  snd : Snd wr B b lv (l.drop ac) (base + ac)
  bel : Below w.heap.size w wr

set_option maxHeartbeats 4000000 in
set_option maxRecDepth 100000 in
theorem left_walk (a0 : Int) (a1 : Option Addr) (n1 c1 : Nat) (a2 : Option Addr) (n2 c2 : Nat) (w : World) (b0 : -9223372036854775808 ≤ a0 ∧ a0 ≤ 9223372036854775807) (b1 : Sh.Is w (.slice 48 (.pair (.int .i64) (.pair (.int .i64) (.pair .str (.pair (.int .i64) (.pair (.int .i64) .unit)))))) [.slice a1 n1 c1]) (b2 : Sh.Is w (.slice 1 (.int .u8)) [.slice a2 n2 c2]) :
    Calls Try.prog 7 #[.int .i64 a0, .slice a1 n1 c1, .slice a2 n2 c2] w fun e w' => e = .returned (.bool true) ∧ Below w.heap.size w w' := by
  obtain ⟨xs, xl, _, _, xr, _⟩ := is_items b1
  obtain ⟨ks, kl, _, _, kr, kb⟩ := is_bytes b2
  clear b1 b2
  have HXL := Lib.hid xl; clear xl
  have HXR := Lib.hid xr; clear xr
  have HKL := Lib.hid kl; clear kl
  have HKR := Lib.hid kr; clear kr
  have HKB := Lib.hid kb; clear kb
  by_cases g0 : a0 < 0
  · have k0 : decide (a0 < 0) = true := by simpa using g0
    go_enter Try.func7, Try.ntmps7
    go_wp2_with (go_at_call 9; refine (awake_any _).mono ?_; rintro e1 w1 ⟨rfl, B1⟩)
    go_ret
    exact ⟨rfl, B1⟩
  by_cases g1 : 1099511627776 < a0
  · have k0 : decide (a0 < 0) = false := by simpa using g0
    have k1 : decide (1099511627776 < a0) = true := by simpa using g1
    go_enter Try.func7, Try.ntmps7
    go_wp2_with (go_at_call 9; refine (awake_any _).mono ?_; rintro e1 w1 ⟨rfl, B1⟩)
    go_ret
    exact ⟨rfl, B1⟩
  have k0 : decide (a0 < 0) = false := by simpa using g0
  have k1 : decide (1099511627776 < a0) = false := by simpa using g1
  have hmm : min (max a0 0) 4611686018427387904 = a0 := by omega
  have HMM := Lib.hid hmm; clear hmm
  go_enter Try.func7, Try.ntmps7
  go_upto_region 6 with (first
    | (go_at_call 9; refine (awake_any _).mono ?_; rintro e1 w1 ⟨rfl, B1⟩)
    | (go_at_call 10; refine (mnew_any a0 _ b0).mono ?_; rintro e1 w2 ⟨rfl, rfl⟩; simp only [HMM.out]))
  go_cut [8] (fun s8 wx => ∃ N : Nat, N ≤ n1 ∧ N ≤ 100 ∧ s8 = .int .i64 N ∧ wx = w1.alloc (.cells #[.slice none 0 0, .int .i64 a0] 53))
  case first =>
    go_wp2_with fail
    all_goals go_meet
    all_goals first
      | exact ⟨n1, by omega, by omega, rfl, rfl⟩
      | exact ⟨100, by omega, by omega, rfl, rfl⟩
  case rest =>
    obtain ⟨N, hN1, hN2, rfl, rfl⟩ := hcut
    have HS := Lib.hid (snd_new w1 a0 (by omega) (by omega))
    have HB := Lib.hid (B1.alloc B1.size (.cells #[.slice none 0 0, .int .i64 a0] 53))
    have hbw : w.heap.size ≤ w1.heap.size := B1.size
    clear B1
    go_wp2_with fail
    go_loopw [9] (fun i wr => ∃ k lv, AddRel w wr w1.heap.size w1.heap.size N a0 xs i k lv) (fun i _ => N - (intOf i).toNat)
    case atStart => exact ⟨0, _, rfl, by omega, by simpa [num] using HS.out, HB.out⟩
    case round =>
      clear HS HB
      obtain ⟨k, lv, rfl, hk, hs, hb⟩ := hrel
      have HS := Lib.hid hs; clear hs
      have HB := Lib.hid hb; clear hb
      by_cases hlt : k < N
      · have hk1 : k < xs.length := by rw [HXL.out]; omega
        obtain ⟨b, o, rfl, r0, r1, r2, r3, r4⟩ := (HXR.out.below HB.out).item k hk1
        have HT := Lib.hid (show num a0 (xs.take (k + 1)) = num a0 (xs.take k) ++ [{ xs[k] with seq := a0 + k + 1 }] by
          rw [List.take_succ_eq_append_getElem hk1, num_snoc, List.length_take, Nat.min_eq_left (by omega)])
        have hln := Lib.hid (show (num a0 (xs.take k)).length = k by rw [num_length, List.length_take, Nat.min_eq_left (by omega)])
        generalize xs[k] = x at *
        generalize hl : num a0 (xs.take k) = l at *
        have i1 : (k : Int) < (n1 : Int) := by omega
        go_wp2_with fail
        refine (add_any w1.heap.size w1.heap.size lv l a0 x _ HS.out (by rw [hln.out]; omega) (by rw [hln.out]; omega)).mono ?_
        rintro e3 w3 ⟨rfl, lv3, S3, U3, F3⟩
        rw [hln.out] at S3 ⊢
        have HB3 := Lib.hid (HB.out.trans ((HS.out.below U3).mono hbw))
        have HS3 := Lib.hid S3
        clear S3 U3 F3
        go_wp2_with fail
        go_roundw
        case rel => exact ⟨k + 1, lv3, by go_num, by omega, by rw [HT.out]; exact HS3.out, HB3.out⟩
        case measure => simp [intOf]; omega
      · obtain rfl : k = N := by omega
        have HLN := Lib.hid (show (num a0 (xs.take k)).length = k by rw [num_length, List.length_take, HXL.out, Nat.min_eq_left (by omega)])
        have HLG := Lib.hid (show ∀ (j : Nat) (h : j < (num a0 (xs.take k)).length) (h' : j < xs.length), (num a0 (xs.take k))[j] = { xs[j] with seq := a0 + j + 1 } from fun j h h' => by
          rw [num_get _ _ _ h (by rw [num_length] at h; exact h)]
          simp)
        generalize hl : num a0 (xs.take k) = l at *
        have HS0 := Lib.hid (show Snd wr w1.heap.size w1.heap.size lv (l.drop 0) (a0 + (0 : Nat)) by simpa using HS.out)
        clear HS hl
        go_wp2_with fail
        go_loopw [12, 13] (fun s12 i wr => ∃ q ac lv, AckRel w wr w1.heap.size w1.heap.size k a0 l i s12 q ac lv) (fun _ i _ => 100 - (intOf i).toNat)
        case atStart => exact ⟨0, 0, lv, rfl, rfl, by omega, by omega, HS0.out, HB.out⟩
        case round =>
          clear HS0 HB
          obtain ⟨q, ac, lv, rfl, rfl, hq, hac, hs, hb⟩ := hrel
          have HS := Lib.hid hs; clear hs
          have HB := Lib.hid hb; clear hb
          by_cases q1 : q < n2
          · by_cases q2 : q < 100
            · have q2' : decide ((q : Int) < 100) = true := by simp; omega
              have hq3 : q < ks.length := by rw [HKL.out]; exact q1
              obtain ⟨b, o, rfl, kc⟩ := (HKR.out.below HB.out).at_ q hq3
              have hkb := HKB.out _ (List.getElem_mem hq3)
              generalize ks[q] = y at *
              have hdl := Lib.hid (show (l.drop ac).length = k - ac by rw [List.length_drop, HLN.out])
              have HBY := Lib.hid hkb
              rcases (show (∃ z : Nat, y = (z : Int) + 3 ∧ ac < z ∧ z ≤ k) ∨ ¬ ((ac : Int) < y - 3 ∧ y - 3 ≤ (k : Int)) by
                by_cases hy : (ac : Int) < y - 3 ∧ y - 3 ≤ (k : Int)
                · exact .inl ⟨(y - 3).toNat, by omega, by omega, by omega⟩
                · exact .inr hy) with hy | hy
              case' inl =>
                obtain ⟨z, rfl, hz1, hz2⟩ := hy
                have t1 : decide (ac < z) = true := by simpa using hz1
                have t2 : decide (z ≤ k) = true := by simpa using hz2
                go_wp2_with fail
                refine (ack_yes' w1.heap.size w1.heap.size (z - ac) lv _ (a0 + ac) _ _ (by omega) HS.out (by omega) (by rw [hdl.out]; omega) (by rw [hdl.out]; omega)).mono ?_
                rintro e3 w3 ⟨rfl, lv3, S3, U3, F3⟩
                rw [List.drop_drop, show ac + (z - ac) = z by omega, show a0 + (ac : Int) + ((z - ac : Nat) : Int) = a0 + (z : Int) by omega] at S3
                have HB3 := Lib.hid (HB.out.trans ((HS.out.below U3).mono hbw))
                clear U3 F3 HS HB
                go_wp2_with fail
              case' inr =>
                obtain ⟨z, rfl⟩ : ∃ z, z = ac := ⟨_, rfl⟩
                have hz2 := hac
                have t3 : (decide ((z : Int) < y - 3) && decide (y - 3 ≤ (k : Int))) = false := by
                  rw [Bool.and_eq_false_iff]
                  by_cases e : (z : Int) < y - 3
                  · exact .inr (by simpa using fun h => hy ⟨e, h⟩)
                  · exact .inl (by simpa using e)
                go_wp2_with fail
                refine (ack_no w1.heap.size w1.heap.size lv _ (a0 + z) _ _ HS.out (by rw [hdl.out]; omega)).mono ?_
                rintro e3 w3 ⟨rfl, B3⟩
                have S3 := HS.out.of_below B3
                have HB3 := Lib.hid (HB.out.trans (B3.mono HB.out.size))
                have lv3 := lv
                clear B3 HS HB
                by_cases e : (z : Int) < y - 3
                case' pos =>
                  have t4 : decide ((z : Int) < y - 3) = true := by simpa using e
                  have t5 : decide (y - 3 ≤ (k : Int)) = false := by simpa using fun h => hy ⟨e, h⟩
                case' neg =>
                  have t4 : decide ((z : Int) < y - 3) = false := by simpa using e
                all_goals go_wp2_with fail
              all_goals
                have hdz : (l.drop z).length = k - z := by rw [List.length_drop, HLN.out]
                refine (left_any w1.heap.size w1.heap.size _ _ (a0 + z) _ S3.blk S3.own (by rw [hdz]; omega)).mono ?_
                rintro e4 w4 ⟨v4, rfl, O4, B4⟩
                rw [hdz] at O4
                obtain ⟨A4, c4, rfl, _, R4⟩ := own_rd O4
                have S4 := S3.of_below B4
                have O5 := S4.own
                rw [hdz] at O5
                obtain ⟨A5, c5, rfl, _, _⟩ := own_rd O5
                have HB4 := Lib.hid (HB3.out.trans (B4.mono HB3.out.size))
                have HS4 := Lib.hid S4
                have HR4 := Lib.hid R4
                have HBK := Lib.hid S4.blk
                have HDZ := Lib.hid hdz
                clear hdz O4 O5 B4 S4 R4 S3 HB3
                have t6 : (((k - z : Nat) : Int) != (k : Int) - (z : Int)) = false := by simp; omega
                have t7 : ((a0 + (z : Int) + ((k - z : Nat) : Int)) != a0 + (k : Int)) = false := by simp; omega
                go_wp2_with (first
                  | (go_at_call 21; refine (acked_any w1.heap.size _ (a0 + z) _ HBK.out).mono ?_; rintro e5 w5 ⟨rfl, rfl⟩)
                  | (go_at_call 19; refine (last_any w1.heap.size A5 (k - z) c5 (a0 + z) _ HBK.out (by omega) (by omega)).mono ?_; rintro e5 w5 ⟨rfl, nq, rfl⟩))
                go_loopw [115] (fun j wr2 => ∃ p : Nat, p ≤ k - z ∧ j = .int .i64 p ∧ Below w4.heap.size w4 wr2) (fun j _ => (k - z) - (intOf j).toNat)
                case atStart => exact ⟨0, by omega, rfl, pw_drewN (Below.refl _ _) _⟩
                case round =>
                  obtain ⟨p, hp, rfl, hb2⟩ := hrel
                  have HB5 := Lib.hid hb2; clear hb2
                  by_cases p1 : p < k - z
                  · have p2 : z + p < xs.length := by rw [HXL.out]; omega
                    have p3 : p < (l.drop z).length := by rw [HDZ.out]; exact p1
                    have p4 : z + p < l.length := by rw [HLN.out]; omega
                    have hget : (l.drop z)[p] = { xs[z + p] with seq := a0 + ((z : Int) + (p : Int) + 1) } := by rw [List.getElem_drop, HLG.out (z + p) p4 p2, show a0 + ((z + p : Nat) : Int) + 1 = a0 + ((z : Int) + (p : Int) + 1) by omega]
                    obtain ⟨b2, o2, rfl, s0, s1, s2, s3, s4⟩ := (HR4.out.below HB5.out).item p p3
                    rw [hget] at s0 s1 s2 s3 s4
                    have HBX := Lib.hid (HB4.out.trans (HB5.out.mono HB4.out.size))
                    obtain ⟨b3, o3, rfl, r0, r1, r2, r3, r4⟩ := (HXR.out.below HBX.out).item (z + p) p2
                    generalize xs[z + p] = x at *
                    clear hget p2 p3 p4
                    obtain ⟨x0, x1, x2, x3, x4⟩ := x
                    simp only at r0 r1 r2 r3 r4 s0 s1 s2 s3 s4
                    have j1 : (z : Int) + (p : Int) < (n1 : Int) := by omega
                    have al : ∀ {a : Addr} {v : Value} (h : wr.cell? a = some v) (ob : Obj), (wr.alloc ob).cell? a = some v := fun h ob => (((Below.refl _ _).alloc (Nat.le_refl _) ob).cell (World.block_lt_of_cell? _ _ h)).trans h
                    have s0' := al s0
                    have s1' := al s1
                    have s2' := al s2
                    have s3' := al s3
                    have s4' := al s4
                    clear al s0 s1 s2 s3 s4
                    go_wp2_with fail
                    go_quiet (fail)
                    go_wp2_with fail
                    go_roundw
                    case rel => exact ⟨p + 1, by omega, by go_num, pw_drewN (HB5.out.alloc HB5.out.size _) _⟩
                    case measure => simp [intOf]; omega
                  · obtain rfl : p = k - z := by omega
                    have HS5 := Lib.hid (HS4.out.of_below HB5.out)
                    have HB6 := Lib.hid (HB4.out.trans (HB5.out.mono HB4.out.size))
                    go_wp2_with fail
                    go_roundw
                    case rel => exact ⟨q + 1, z, _, by go_num, rfl, by omega, hz2, HS5.out, HB6.out⟩
                    case measure => simp [intOf]; omega
            · have q2' : decide ((q : Int) < 100) = false := by simp; omega
              go_wp2_with fail
              go_ret
              exact ⟨rfl, HB.out⟩
          · have q1' : decide (q < n2) = false := by simp; omega
            go_wp2_with fail
            go_ret
            exact ⟨rfl, HB.out⟩
end Go.Proofs.Ytgmehcefmoleoaa
