/- The walk of MirrorOnce. No condition but the row's own. -/
import Derived.Test.YtgmehcefmoleoaaMirO
set_option linter.unusedVariables false
set_option linter.unusedSimpArgs false
namespace Go.Proofs.Ytgmehcefmoleoaa
open Go.RowKit

def Numd (a0 : Int) (D : List Item) : Prop := ∀ (j : Nat) (h : j < D.length), D[j].seq = a0 + j + 1
theorem Numd.snoc {a0 : Int} {D : List Item} {x : Item} (h : Numd a0 D) (hx : x.seq = a0 + D.length + 1) : Numd a0 (D ++ [x]) := fun j hj => by
  by_cases hlt : j < D.length
  · rw [List.getElem_append_left hlt]; exact h j hlt
  · have : j = D.length := by simp at hj; omega
    subst this
    simp [hx]
theorem q4_new (w W : World) (a0 a1 : Int) (hB : Below w.heap.size w W) (h0 : 0 ≤ a0) (h1 : a0 ≤ 1099511627776) :
    Q4 w (((((W.alloc (.cells #[.slice none 0 0, .int .i64 a0] 53)).alloc (.cells #[.int .i64 a1, .int .i64 a0] 44)).alloc (.cells #[] tI)).alloc (.cells #[] tI)).alloc (.cells #[] tI))
      W.heap.size (W.heap.size + 1) (.slice none 0 0) (.slice (some ⟨W.heap.size + 2, 0, none⟩) 0 0) (.slice (some ⟨W.heap.size + 3, 0, none⟩) 0 0) (.slice (some ⟨W.heap.size + 4, 0, none⟩) 0 0) [] a0 [] [] [] a1 a0 := by
  have hs := hB.size
  refine ⟨⟨((((Blk.new _ _ _).alloc _).alloc _).alloc _).alloc _, World.ownsRow_nil _ _ _ _, hs, h0, by simp; omega⟩,
    own_zero (((Blk.new' (by simp) _ _).alloc _).alloc _) (by omega), own_zero ((Blk.new' (by simp) _ _).alloc _) (by omega), own_zero (Blk.new' (by simp) _ _) (by omega),
    (((Blk.new' (by simp) _ _).alloc _).alloc _).alloc _, by omega, ?_, ?_, ?_, ?_, ?_, ?_,
    ((((hB.alloc hs _).alloc (by simp; omega) _).alloc (by simp; omega) _).alloc (by simp; omega) _).alloc (by simp; omega) _⟩ <;> intro q hq <;> simp_all [Value.ownBlock] <;> omega

theorem item_one (x : Item) : ∀ u ∈ x.cells, u.oneCell' = true := by
  intro u hu
  simp only [Item.cells, List.mem_cons, List.not_mem_nil, or_false] at hu
  rcases hu with rfl | rfl | rfl | rfl | rfl <;> rfl
theorem Q4.other {w W W1 : World} {bs g : Nat} {la vA vT vO : Value} {L A T O : List Item} {ac e s : Int} (h : Q4 w W bs g la vA vT vO L ac A T O e s) {q : Nat} (U : Upd (fun k => k = q) W W1) (h1 : q ≠ bs) (h2 : la.ownBlock ≠ some q) (h3 : vA.ownBlock ≠ some q) (h4 : vT.ownBlock ≠ some q) (h5 : vO.ownBlock ≠ some q) (h6 : q ≠ g) (h7 : w.heap.size ≤ q) : Q4 w W1 bs g la vA vT vO L ac A T O e s :=
  ⟨h.snd.upd U (fun e => h1 e.symm) (fun k hk e => h2 (by rw [← e]; exact hk)), own_upd h.ra U (fun k hk e => h3 (by rw [← e]; exact hk)), own_upd h.rt U (fun k hk e => h4 (by rw [← e]; exact hk)), own_upd h.ro U (fun k hk e => h5 (by rw [← e]; exact hk)),
    h.ver.upd U (fun e => h6 e.symm), h.gb, h.la_, h.lt, h.lo, h.at_, h.ao, h.to_, h.bel.trans (U.below h.bel.size (fun k hk => by rw [hk]; exact h7))⟩
theorem own_noneC {w : World} {base n sz : Nat} {e : TypeId} {v : Value} {xs : List Value} (h : w.ownsRow base e sz v n xs) : ∀ (A : Option Addr) (c : Nat), v = .slice A n c → A = none → c = 0 := by
  rintro A c rfl rfl
  rcases h.2 with ⟨hv, _⟩ | ⟨g, cap, cur, hv, _⟩
  · simp only [Value.slice.injEq, true_and] at hv; exact hv.2
  · simp at hv
theorem own_rdA {w : World} {base n c sz : Nat} {e : TypeId} {A : Option Addr} {xs : List Value} (h : w.ownsRow base e sz (.slice A n c) n xs) : Rd w A xs := by
  obtain ⟨A', c', he, _, hr⟩ := own_rd h
  simp only [Value.slice.injEq, true_and] at he
  rw [he.1]; exact hr
theorem Q4.fresh {w W : World} {bs g : Nat} {la vA vT vO : Value} {L A T O : List Item} {ac e s : Int} (h : Q4 w W bs g la vA vT vO L ac A T O e s) {q : Nat} (hq : W.heap.size ≤ q) : q ≠ bs ∧ la.ownBlock ≠ some q ∧ vA.ownBlock ≠ some q ∧ vT.ownBlock ≠ some q ∧ vO.ownBlock ≠ some q ∧ q ≠ g :=
  ⟨fun e => by have := h.snd.blk.lt; omega, fun e => by have := (h.snd.own.lt q e).2; omega, fun e => by have := (h.ra.lt q e).2; omega, fun e => by have := (h.rt.lt q e).2; omega, fun e => by have := (h.ro.lt q e).2; omega, fun e => by have := h.ver.lt; omega⟩

theorem last_one {W : World} {B b : Nat} {la : Value} {a : Int} (h : Snd W B b la [] a) :
    Calls Try.prog 19 #[.pointer (some ⟨b, 0, none⟩)] W fun e w' => e = .returned (.int .i64 a) ∧ ∃ k, w' = W.drewN k := by
  obtain ⟨A, c, rfl, _, _⟩ := own_rd h.own
  have := last_any b A 0 c a W h.blk h.lo h.hi
  rwa [Int.natCast_zero, Int.add_zero] at this

set_option maxRecDepth 100000 in
set_option maxHeartbeats 8000000 in
theorem w_MirrorOnce (a0 : Int) (a1 : Int) (a2 : Option Addr) (n2 c2 : Nat) (a3 : Option Addr) (n3 c3 : Nat) (w : World) (b0 : -9223372036854775808 ≤ a0 ∧ a0 ≤ 9223372036854775807) (b1 : -9223372036854775808 ≤ a1 ∧ a1 ≤ 9223372036854775807) (b2 : Sh.Is w (.slice 48 (.pair (.int .i64) (.pair (.int .i64) (.pair .str (.pair (.int .i64) (.pair (.int .i64) .unit)))))) [.slice a2 n2 c2]) (b3 : Sh.Is w (.slice 1 (.int .u8)) [.slice a3 n3 c3]) :
    Calls Try.prog 5 #[.int .i64 a0, .int .i64 a1, .slice a2 n2 c2, .slice a3 n3 c3] w fun e w' => e = .returned (.bool true) ∧ Below w.heap.size w w' := by
  obtain ⟨xs, xl, _, _, xr, _⟩ := is_items b2
  obtain ⟨ks, kl, _, _, kr, kb⟩ := is_bytes b3
  clear b2 b3
  have HXL := Lib.hid xl; have HXR := Lib.hid xr; have HKL := Lib.hid kl; have HKR := Lib.hid kr; have HKB := Lib.hid kb
  clear xl xr kl kr kb
  by_cases g0 : a0 < 0
  · have k0 : decide (a0 < 0) = true := by simpa using g0
    go_enter Try.func5, Try.ntmps5
    go_wp2_with (go_at_call 9; refine (awake_any _).mono ?_; rintro e1 w1 ⟨rfl, B1⟩)
    go_ret
    exact ⟨rfl, B1⟩
  have k0 : decide (a0 < 0) = false := by simpa using g0
  by_cases g1 : 1099511627776 < a0
  · have k1 : decide (1099511627776 < a0) = true := by simpa using g1
    go_enter Try.func5, Try.ntmps5
    go_wp2_with (go_at_call 9; refine (awake_any _).mono ?_; rintro e1 w1 ⟨rfl, B1⟩)
    go_ret
    exact ⟨rfl, B1⟩
  have k1 : decide (1099511627776 < a0) = false := by simpa using g1
  by_cases g2 : a1 < 1
  · have k2 : decide (a1 < 1) = true := by simpa using g2
    go_enter Try.func5, Try.ntmps5
    go_wp2_with (go_at_call 9; refine (awake_any _).mono ?_; rintro e1 w1 ⟨rfl, B1⟩)
    go_ret
    exact ⟨rfl, B1⟩
  have k2 : decide (a1 < 1) = false := by simpa using g2
  have HMM := Lib.hid (show min (max a0 0) 4611686018427387904 = a0 by omega)
  go_enter Try.func5, Try.ntmps5
  go_upto_block 0 with (first
    | (go_at_call 9; refine (awake_any _).mono ?_; rintro e1 w1 ⟨rfl, B1⟩)
    | (go_at_call 10; with_reducible refine (mnew_any a0 _ b0).mono ?_; rintro e1 w2 ⟨rfl, rfl⟩; simp only [HMM.out]))
  have HT := Lib.hid (q4_new w w1 a0 a1 B1 (by omega) (by omega))
  clear B1
  generalize hW : ((((w1.alloc (.cells #[.slice none 0 0, .int .i64 a0] 53)).alloc (.cells #[.int .i64 a1, .int .i64 a0] 44)).alloc (.cells #[] tI)).alloc (.cells #[] tI)).alloc (.cells #[] tI) = W0 at *
  clear hW
  generalize w1.heap.size = bs at *
  go_cut [11, 12, 13] (fun s11 s12 s13 wx => ∃ (t u : Nat) (D : List Item) (la : Value), D.length ≤ 60 ∧ Numd a0 D ∧ t ≤ u ∧ u ≤ D.length ∧ Q4 w wx bs (bs + 1) la s11 s12 s13 (D.drop t) (a0 + t) D (D.take u) D a1 (a0 + u))
  case first =>
   go_wp2_with fail
   go_loopg [11, 12, 13, 14] 401 (fun gk s11 s12 s13 s14 wr => ∃ (k t u : Nat) (D : List Item) (la : Value), s14 = .int .i64 (k : Int) ∧ k ≤ 400 ∧ gk = 401 - k ∧ D.length ≤ 60 ∧ D.length ≤ n2 ∧ Numd a0 D ∧ t ≤ u ∧ u ≤ D.length ∧ Q4 w wr bs (bs + 1) la s11 s12 s13 (D.drop t) (a0 + t) D (D.take u) D a1 (a0 + u))
   case atStart => exact ⟨0, 0, 0, [], _, rfl, by omega, by omega, by simp, by simp, fun j h => by simp at h, by omega, by simp, by simpa using HT.out⟩
   case round =>
     obtain ⟨k, t, u, D, la, rfl, hk, hgk, hd1, hd2, hnum, htu, hud, hq⟩ := hrel
     clear HT
     have HQ := Lib.hid hq; have HN := Lib.hid hnum
     clear hq hnum
     obtain ⟨AA, cA, rfl, _, _⟩ := own_rd HQ.out.ra
     by_cases q1 : k < n3
     · have q1' : decide ((k : Int) < (n3 : Int)) = true := by simp; omega
       have q1i : (k : Int) < (n3 : Int) := by omega
       by_cases q2 : k < 400
       · have q2' : decide ((k : Int) < 400) = true := by simp; omega
         go_upto_region 13 with fail
         go_cut [63] (fun s63 wx => ∃ q : Bool, s63 = .bool q ∧ (q = true → D.length < n2 ∧ D.length < 60) ∧ wx = wr)
         case first =>
           go_wp2_with fail
           all_goals go_meet
           all_goals first
             | exact ⟨_, rfl, fun _ => ⟨by omega, by omega⟩, rfl⟩
             | exact ⟨false, rfl, fun h => by simp at h, rfl⟩
         case rest =>
           obtain ⟨q, rfl, hqc, hwc⟩ := hcut
           rw [hwc]
           clear hwc
           go_upto_if 63 with fail
           go_cut [11, 13] (fun s11 s13 wx => ∃ (D' : List Item) (la' : Value), D'.length ≤ 60 ∧ D'.length ≤ n2 ∧ Numd a0 D' ∧ u ≤ D'.length ∧ Q4 w wx bs (bs + 1) la' s11 u12 s13 (D'.drop t) (a0 + t) D' (D'.take u) D' a1 (a0 + u))
           case first =>
             cases q with
             | false =>
               go_wp2_with fail
               go_meet
               exact ⟨D, la, hd1, hd2, HN.out, hud, HQ.out⟩
             | true =>
               obtain ⟨hqa, hqb⟩ := hqc rfl
               have hdx : D.length < xs.length := by rw [HXL.out]; exact hqa
               have hdi : (D.length : Int) < (n2 : Int) := by omega
               obtain ⟨b, o, rfl, r0, r1, r2, r3, r4⟩ := (HXR.out.below HQ.out.bel).item D.length hdx
               generalize xs[D.length] = x at *
               obtain ⟨xs0, xb, xd, xc, xm⟩ := x
               simp only at r0 r1 r2 r3 r4
               obtain ⟨L, hL⟩ : ∃ L, D.drop t = L := ⟨_, rfl⟩
               have hLl : L.length = D.length - t := by rw [← hL, List.length_drop]
               rw [hL] at HQ
               have HLD := Lib.hid hL; have HLL := Lib.hid hLl
               obtain ⟨vN, hvN⟩ : ∃ v : Int, a0 + (t : Int) + L.length + 1 = v := ⟨_, rfl⟩
               have hvN2 : vN = a0 + D.length + 1 := by rw [← hvN, hLl]; omega
               have HVN := Lib.hid hvN; have HVN2 := Lib.hid hvN2
               have hs1 : IntKind.i64.wrap ((D.length : Int) + 1) = (D.length : Int) + 1 := IntWalk.i64_in _ (by omega)
               have hs2 : IntKind.i64.wrap (a0 + ((D.length : Int) + 1)) = vN := by rw [IntWalk.i64_in _ (by omega)]; omega
               have hdl : L.length ≤ 60 := by omega
               have HQ1 := Lib.hid (HQ.out.step ((Below.refl _ _).alloc (Nat.le_refl _) (.cells #[.int .i64 xs0, .int .i64 xb, .string xd, .int .i64 xc, .int .i64 xm] tI)))
               have HF := Lib.hid (HQ.out.fresh (Nat.le_refl _))
               clear hvN hvN2 hL hLl
               go_upto_region 18 with (
                 go_at_call 12
                 with_reducible refine (add_any w.heap.size bs la L (a0 + t) ⟨xs0, xb, xd, xc, xm⟩ _ HQ1.out.snd (by omega) (by omega)).mono ?_
                 rw [HVN.out]
                 rintro e1 w2 ⟨rfl, la2, S2, U2, F2⟩
                 have HQ2 := Lib.hid (HQ1.out.opS S2 U2 F2)
                 have hG2 := ((Blk.new wr #[.int .i64 xs0, .int .i64 xb, .string xd, .int .i64 xc, .int .i64 xm] tI).upd U2 (fun e => by rcases e with e | e; exact HF.out.1 e; exact HF.out.2.1 e))
                 have HG2 := Lib.hid hG2
                 have hla2 : la2.ownBlock ≠ some wr.heap.size := fun e => by rcases F2 _ e with e | e; exact HF.out.2.1 e; simp at e; omega
                 clear S2 U2 F2 hG2)
               have d0 : w2.cell? ⟨wr.heap.size, 0, none⟩ = some (.int .i64 xs0) := HG2.out.cell 0
               have f0 := HG2.out.frozen 0
               have hw2 := HG2.out.lt
               have HG3 := Lib.hid (HG2.out.set 0 (.int .i64 vN))
               have HB3 := Lib.hid (show Upd (fun k => k = wr.heap.size) w2 (w2.setCell ⟨wr.heap.size, 0, none⟩ (.int .i64 vN)) from (Upd.refl (fun k => k = wr.heap.size) w2).setCell (p := ⟨wr.heap.size, 0, none⟩) (.inr rfl) _)
               have hwr := HQ.out.bel.size
               have HQ3 := Lib.hid (HQ2.out.other HB3.out HF.out.1 hla2 HF.out.2.2.1 HF.out.2.2.2.1 HF.out.2.2.2.2.1 HF.out.2.2.2.2.2 hwr)
               go_upto_region 19 with fail
               generalize w2.setCell ⟨wr.heap.size, 0, none⟩ (.int .i64 vN) = W3 at *
               clear r0 r1 r2 r3 r4 d0 f0 HG2 HB3 HQ1 HQ2 hs2 hs1 HVN
               have e0 : W3.cell? ⟨wr.heap.size, 0, none⟩ = some (.int .i64 vN) := HG3.out.cell 0
               have e1 : W3.cell? ⟨wr.heap.size, 1, none⟩ = some (.int .i64 xb) := HG3.out.cell 1
               have e2 : W3.cell? ⟨wr.heap.size, 2, none⟩ = some (.string xd) := HG3.out.cell 2
               have e3 : W3.cell? ⟨wr.heap.size, 3, none⟩ = some (.int .i64 xc) := HG3.out.cell 3
               have e4 : W3.cell? ⟨wr.heap.size, 4, none⟩ = some (.int .i64 xm) := HG3.out.cell 4
               go_upto_region 20 with (
                 at_builtin
                 refine app1 w.heap.size 36 tI (.agg #[.int .i64 0, .int .i64 0, .string ByteArray.empty, .int .i64 0, .int .i64 0]) 5 48 (Item.cells ⟨vN, xb, xd, xc, xm⟩) HQ3.out.ra HQ3.out.bel.size (by omega) Try.underlying36 Try.infoItem rfl (by decide) (by decide) rfl (item_one _) (.tmp 88) (.tmp 90) rfl rfl rfl rfl ?_
                 intro v1 x1 hown1 hg1 hat1
                 have HQ4 := Lib.hid (HQ3.out.opA (x := ⟨vN, xb, xd, xc, xm⟩) hown1 hg1 hat1)
                 have hG4 := HG3.out.upd (Upd.of_grown hg1) (fun e => HF.out.2.2.1 e.symm)
                 have HG4 := Lib.hid hG4
                 clear hown1 hg1 hat1 hG4 e0 e1 e2 e3 e4)
               have e0 : x1.cell? ⟨wr.heap.size, 0, none⟩ = some (.int .i64 vN) := HG4.out.cell 0
               have e1 : x1.cell? ⟨wr.heap.size, 1, none⟩ = some (.int .i64 xb) := HG4.out.cell 1
               have e2 : x1.cell? ⟨wr.heap.size, 2, none⟩ = some (.string xd) := HG4.out.cell 2
               have e3 : x1.cell? ⟨wr.heap.size, 3, none⟩ = some (.int .i64 xc) := HG4.out.cell 3
               have e4 : x1.cell? ⟨wr.heap.size, 4, none⟩ = some (.int .i64 xm) := HG4.out.cell 4
               go_wp2_with (
                 at_builtin
                 refine app1 w.heap.size 36 tI (.agg #[.int .i64 0, .int .i64 0, .string ByteArray.empty, .int .i64 0, .int .i64 0]) 5 48 (Item.cells ⟨vN, xb, xd, xc, xm⟩) HQ4.out.ro HQ4.out.bel.size (by omega) Try.underlying36 Try.infoItem rfl (by decide) (by decide) rfl (item_one _) (.tmp 92) (.tmp 94) rfl rfl rfl rfl ?_
                 intro v2 x2 hown2 hg2 hat2
                 have HQ5 := Lib.hid (HQ4.out.opO (x := ⟨vN, xb, xd, xc, xm⟩) hown2 hg2 hat2)
                 clear hown2 hg2 hat2 e0 e1 e2 e3 e4)
               go_meet
               refine ⟨D ++ [⟨vN, xb, xd, xc, xm⟩], la2, by simp; omega, by simp; omega, HN.out.snoc HVN2.out, by simp; omega, ?_⟩
               have h := HQ5.out
               rw [List.drop_append_of_le_length (by omega), List.take_append_of_le_length hud, HLD.out]
               exact h
           case rest =>
             clear HQ HN hd1 hd2 hud hqc
             obtain ⟨D, la, hd1, hd2, hnum, hud, hq⟩ := hcut
             have HQ := Lib.hid hq; have HN := Lib.hid hnum
             clear hq hnum
             obtain ⟨L, hL⟩ : ∃ L, D.drop t = L := ⟨_, rfl⟩
             have hLl : L.length = D.length - t := by rw [← hL, List.length_drop]
             rw [hL] at HQ
             have HLD := Lib.hid hL
             have hLb : L.length ≤ 60 := by omega
             obtain ⟨ll, hll⟩ : ∃ n, 0 + L.length + D.length = n := ⟨_, rfl⟩
             have HLL := Lib.hid hll; have HLN := Lib.hid hLl
             clear hL hll hLl
             have HQ1 := Lib.hid (HQ.out.step ((Below.refl _ _).alloc (Nat.le_refl _) (.cells #[] tI)))
             have HE1 := Lib.hid (Blk.new wc #[] tI)
             obtain ⟨AO, cO, rfl, hnO, _⟩ := own_rd HQ.out.ro
             go_upto_region 22 with (first
               | (go_at_call 16
                  with_reducible refine (left_any w.heap.size bs la L (a0 + t) _ HQ1.out.snd.blk HQ1.out.snd.own (by omega)).mono ?_
                  rintro e1 w3 ⟨vL, rfl, O3, B3⟩
                  have hnc := own_noneC O3
                  obtain ⟨A3, c3', rfl, hm3, R3⟩ := own_rd O3
                  have HNC := Lib.hid (hnc A3 c3' rfl)
                  have HR3 := Lib.hid R3
                  have HE3 := Lib.hid (HE1.out.upd (Upd.of_below (S := fun _ => False) B3) (fun h => h))
                  have HB3 := Lib.hid (((Below.refl wc.heap.size wc).alloc (Nat.le_refl _) (.cells #[] tI)).trans (B3.mono (by simp)))
                  clear O3 B3 hnc R3)
               | (at_builtin
                  refine appO wc.heap.size 36 tI (.agg #[.int .i64 0, .int .i64 0, .string ByteArray.empty, .int .i64 0, .int .i64 0]) 5 48 (flat L) L.length (own_zero HE3.out (Nat.le_refl _)) HB3.out.size (by omega) Try.underlying36 Try.infoItem rfl (by decide) (by decide) (flat_length L) (flat_one L) A3 c3' HR3.out hm3 HNC.out (.tmp 96) (.tmp 98) rfl rfl rfl rfl ?_
                  intro v4 x4 hown4 hg4 _
                  have HB4 := Lib.hid (Below.grown HB3.out hg4 HB3.out.size (fun q hq => by simp [Value.ownBlock] at hq; omega))
                  have HQ4 := Lib.hid (HQ.out.step HB4.out)
                  have HO4 := Lib.hid hown4
                  clear hown4 hg4)
               | (at_builtin
                  refine appO wc.heap.size 36 tI (.agg #[.int .i64 0, .int .i64 0, .string ByteArray.empty, .int .i64 0, .int .i64 0]) 5 48 (flat D) D.length HO4.out HB4.out.size (by omega) Try.underlying36 Try.infoItem rfl (by decide) (by decide) (flat_length D) (flat_one D) AO cO (own_rdA HQ4.out.ro) hnO (own_noneC HQ4.out.ro AO cO rfl) (.tmp 99) (.tmp 100) rfl rfl rfl rfl ?_
                  intro v5 x5 hown5 hg5 _
                  have HB5 := Lib.hid (Below.grown HB4.out hg5 HB4.out.size (fun q hq => (HO4.out.lt q hq).1))
                  have HQ5 := Lib.hid (HQ.out.step HB5.out)
                  rw [HLL.out, List.nil_append, ← flat_append] at hown5
                  obtain ⟨A5, c5, rfl, _, R5⟩ := own_rd hown5
                  have HR5 := Lib.hid R5
                  clear hown5 hg5 R5))
             clear HQ HQ1 HE1
             by_cases hz : ll = 0
             · have p0 : ((ll : Int) == 0) = true := by rw [hz]; rfl
               clear hz
               go_wp2_with fail
               go_roundg (401 - (k + 1))
               case measure => omega
               case rel => exact ⟨k + 1, t, u, D, la, by push_cast; rfl, by omega, rfl, hd1, hd2, HN.out, htu, hud, by rw [HLD.out]; exact HQ5.out⟩
             have p0 : ((ll : Int) == 0) = false := beq_eq_false_iff_ne.2 (by omega)
             have hky : k < ks.length := by rw [HKL.out]; exact q1
             obtain ⟨bk, ok, rfl, kc⟩ := (HKR.out.below HQ5.out.bel).at_ k hky
             have hyr := HKB.out _ (List.getElem_mem hky)
             generalize ks[k] = y at *
             obtain ⟨yn, rfl⟩ := Int.eq_ofNat_of_zero_le hyr.1
             have hjl : yn % ll < ll := Nat.mod_lt _ (by omega)
             obtain ⟨pz, hpz, hzz⟩ : ∃ p, ∃ h : p < D.length, (L ++ D)[yn % ll]'(by rw [List.length_append]; have := HLL.out; omega) = D[p] := by
               by_cases hc : yn % ll < L.length
               · refine ⟨t + yn % ll, by have := HLN.out; omega, ?_⟩
                 rw [List.getElem_append_left hc]
                 have := HLD.out
                 subst this
                 simp
               · refine ⟨yn % ll - L.length, by have := HLL.out; omega, ?_⟩
                 rw [List.getElem_append_right (by omega)]
             obtain ⟨b5, o5, rfl, r0, r1, r2, r3, r4⟩ := HR5.out.item (yn % ll) (by rw [List.length_append]; have := HLL.out; omega)
             rw [hzz] at r0 r1 r2 r3 r4
             have hseq := HN.out pz hpz
             obtain ⟨j, hj⟩ : ∃ j, yn % ll = j := ⟨_, rfl⟩
             have hj1 : ((yn : Int) % (ll : Int)) = (j : Int) := by omega
             have hj2 : (j : Int) < (ll : Int) := by omega
             rw [hj] at r0 r1 r2 r3 r4 hjl
             have hw1 : IntKind.i64.wrap (yn : Int) = yn := IntWalk.i64_in _ (by omega)
             clear hzz
             have HZ0 := Lib.hid (List.getElem?_eq_getElem hpz)
             generalize D[pz] = z at *
             obtain ⟨zs, zb, zd, zc, zm⟩ := z
             simp only at r0 r1 r2 r3 r4 hseq
             rw [hseq] at r0
             go_upto_region 24 with fail
             have HQ6 := Lib.hid (HQ5.out.step ((Below.refl _ _).alloc (Nat.le_refl _) (.cells #[.int .i64 (a0 + pz + 1), .int .i64 zb, .string zd, .int .i64 zc, .int .i64 zm] tI)))
             have HG6 := Lib.hid (Blk.new x5 #[.int .i64 (a0 + pz + 1), .int .i64 zb, .string zd, .int .i64 zc, .int .i64 zm] tI)
             have HF6 := Lib.hid (HQ5.out.fresh (Nat.le_refl _))
             have hx5 := HQ5.out.bel.size
             generalize x5.alloc (.cells #[.int .i64 (a0 + pz + 1), .int .i64 zb, .string zd, .int .i64 zc, .int .i64 zm] tI) = W6 at *
             generalize x5.heap.size = g6 at *
             clear r0 r1 r2 r3 r4 kc HR5 HQ5
             have v0 : W6.cell? ⟨bs + 1, 0, none⟩ = some (.int .i64 a1) := HQ6.out.ver.cell 0
             have v1 : W6.cell? ⟨bs + 1, 1, none⟩ = some (.int .i64 (a0 + u)) := HQ6.out.ver.cell 1
             have z0 : W6.cell? ⟨g6, 0, none⟩ = some (.int .i64 (a0 + pz + 1)) := HG6.out.cell 0
             obtain ⟨nv, hnv⟩ : ∃ v, nextM a1 (a0 + u) a1 (a0 + pz + 1) = v := ⟨_, rfl⟩
             have HNV := Lib.hid hnv
             go_upto_block 2 with (
               go_at_call 22
               with_reducible refine (next_any a1 (a0 + u) a1 (a0 + pz + 1) _ b1 (by omega) b1 (by omega)).mono ?_
               rw [HNV.out]
               rintro e1 w8 ⟨rfl, B8⟩
               have HQ8 := Lib.hid (HQ6.out.step B8)
               have HG8 := Lib.hid (HG6.out.upd (Upd.of_below (S := fun _ => False) B8) (fun h => h))
               clear B8 v0 v1 z0)
             have z0 : w8.cell? ⟨g6, 0, none⟩ = some (.int .i64 (a0 + pz + 1)) := HG8.out.cell 0
             have z1 : w8.cell? ⟨g6, 1, none⟩ = some (.int .i64 zb) := HG8.out.cell 1
             have z2 : w8.cell? ⟨g6, 2, none⟩ = some (.string zd) := HG8.out.cell 2
             have z3 : w8.cell? ⟨g6, 3, none⟩ = some (.int .i64 zc) := HG8.out.cell 3
             have z4 : w8.cell? ⟨g6, 4, none⟩ = some (.int .i64 zm) := HG8.out.cell 4
             have hv8 := HQ8.out.ver
             have v0 : w8.cell? ⟨bs + 1, 0, none⟩ = some (.int .i64 a1) := hv8.cell 0
             have v1 : w8.cell? ⟨bs + 1, 1, none⟩ = some (.int .i64 (a0 + u)) := hv8.cell 1
             have v2 := hv8.frozen 1
             clear hv8
             have htl : (D.take u).length ≤ 60 := by rw [List.length_take]; omega
             go_cut [12] (fun s12 wx => ∃ u' : Nat, t ≤ u' ∧ u' ≤ D.length ∧ Q4 w wx bs (bs + 1) la u11 s12 (.slice AO D.length cO) L (a0 + t) D (D.take u') D a1 (a0 + u'))
             case first =>
               by_cases hpu : pz < u
               · have hn2 : nv = 2 := by rw [← hnv, nextM, if_neg (by omega), if_neg (by omega), if_pos (by omega)]
                 have p1 : (nv == 1) = false := by rw [hn2]; rfl
                 have p2 : (nv == 2) = true := by rw [hn2]; rfl
                 have p3 : decide (a0 + (u : Int) < a0 + pz + 1) = false := by simp; omega
                 clear hn2 hnv
                 go_wp2_with fail
                 go_meet
                 exact ⟨u, htu, hud, HQ8.out⟩
               · by_cases hpe : pz = u
                 · have hn2 : nv = 1 := by rw [← hnv, nextM, if_neg (by omega), if_neg (by omega), if_neg (by omega), if_pos (by omega)]
                   have p1 : (nv == 1) = true := by rw [hn2]; rfl
                   have p2 : (nv == 2) = false := by rw [hn2]; rfl
                   have HTK := Lib.hid (show D.take (u + 1) = D.take u ++ [⟨a0 + pz + 1, zb, zd, zc, zm⟩] by
                     have := HZ0.out
                     rw [hseq] at this
                     rw [List.take_add_one, ← hpe, this]; rfl)
                   have HPE := Lib.hid hpe
                   clear hn2 hnv hpe hpu
                   go_upto_region 27 with (
                     at_builtin
                     refine app1 w.heap.size 36 tI (.agg #[.int .i64 0, .int .i64 0, .string ByteArray.empty, .int .i64 0, .int .i64 0]) 5 48 (Item.cells ⟨a0 + pz + 1, zb, zd, zc, zm⟩) HQ8.out.rt HQ8.out.bel.size (by omega) Try.underlying36 Try.infoItem rfl (by decide) (by decide) rfl (item_one _) (.tmp 123) (.tmp 125) rfl rfl rfl rfl ?_
                     intro v9 x9 hown9 hg9 hat9
                     have HQ9 := Lib.hid (HQ8.out.opT (x := ⟨a0 + pz + 1, zb, zd, zc, zm⟩) hown9 hg9 hat9)
                     have HG9 := Lib.hid (HG8.out.upd (Upd.of_grown hg9) (fun e => HF6.out.2.2.2.1 e.symm))
                     clear hown9 hg9 hat9 z0 z1 z2 z3 z4 v0 v1 v2)
                   have z0 : x9.cell? ⟨g6, 0, none⟩ = some (.int .i64 (a0 + pz + 1)) := HG9.out.cell 0
                   have hv9 := HQ9.out.ver
                   have v1 : x9.cell? ⟨bs + 1, 1, none⟩ = some (.int .i64 (a0 + u)) := hv9.cell 1
                   have v2 := hv9.frozen 1
                   clear hv9
                   go_wp2_with fail
                   go_meet
                   refine ⟨u + 1, by omega, by have := HPE.out; omega, ?_⟩
                   have h := HQ9.out.setG (a0 + pz + 1)
                   rw [HTK.out, show (a0 + ((u + 1 : Nat) : Int)) = a0 + pz + 1 by have := HPE.out; omega]
                   exact h
                 · have hn2 : nv = 0 := by rw [← hnv, nextM, if_neg (by omega), if_neg (by omega), if_neg (by omega), if_neg (by omega)]
                   have p1 : (nv == 1) = false := by rw [hn2]; rfl
                   have p2 : (nv == 2) = false := by rw [hn2]; rfl
                   clear hn2 hnv hpe hpu
                   go_wp2_with fail
                   go_meet
                   exact ⟨u, htu, hud, HQ8.out⟩
             case rest =>
               clear HQ8 HG8 HF6 HQ6 HG6 hnv HNV z0 z1 z2 z3 z4 v0 v1 v2 hud htu
               obtain ⟨u', htu, hud, hq⟩ := hcut
               have HQ := Lib.hid hq
               clear hq
               have hsum : IntKind.i64.wrap ((k : Int) + 1) = (k : Int) + 1 := IntWalk.i64_in _ (by omega)
               have hvc := HQ.out.ver
               have v1 : wc.cell? ⟨bs + 1, 1, none⟩ = some (.int .i64 (a0 + u')) := hvc.cell 1
               clear hvc
               by_cases hev : k % 2 = 0
               · have p1 : ((k : Int) % 2 == 0) = true := beq_iff_eq.2 (by omega)
                 clear hev
                 by_cases htu2 : t < u'
                 · have HKK := Lib.hid (show a0 + (u' : Int) = a0 + t + ((u' - t : Nat) : Int) by omega)
                   have hkl : u' - t ≤ L.length := by have := HLN.out; omega
                   go_wp2_with (
                     go_at_call 14
                     with_reducible refine (ack_yes' w.heap.size bs (u' - t) la L (a0 + t) (a0 + u') _ HKK.out HQ.out.snd (by omega) hkl (by omega)).mono ?_
                     rintro e1 w9 ⟨rfl, la9, S9, U9, F9⟩
                     have HQ9 := Lib.hid (HQ.out.opS S9 U9 F9)
                     clear S9 U9 F9)
                   go_roundg (401 - (k + 1))
                   case measure => omega
                   case rel =>
                     refine ⟨k + 1, u', u', D, la9, by push_cast; rfl, by omega, rfl, hd1, hd2, HN.out, by omega, hud, ?_⟩
                     have h := HQ9.out
                     rw [← HKK.out, ← HLD.out, List.drop_drop, show t + (u' - t) = u' by omega] at h
                     exact h
                 · have HKK := Lib.hid (show a0 + (u' : Int) ≤ a0 + t ∨ a0 + (t : Int) + L.length < a0 + u' by omega)
                   go_wp2_with (
                     go_at_call 14
                     with_reducible refine (ack_no w.heap.size bs la L (a0 + t) (a0 + u') _ HQ.out.snd HKK.out).mono ?_
                     rintro e1 w9 ⟨rfl, B9⟩
                     have HQ9 := Lib.hid (HQ.out.step B9)
                     clear B9)
                   go_roundg (401 - (k + 1))
                   case measure => omega
                   case rel => exact ⟨k + 1, t, u', D, la, by push_cast; rfl, by omega, rfl, hd1, hd2, HN.out, htu, hud, by rw [HLD.out]; exact HQ9.out⟩
               · have p1 : ((k : Int) % 2 == 0) = false := beq_eq_false_iff_ne.2 (by omega)
                 clear hev
                 go_wp2_with fail
                 go_roundg (401 - (k + 1))
                 case measure => omega
                 case rel => exact ⟨k + 1, t, u', D, la, by push_cast; rfl, by omega, rfl, hd1, hd2, HN.out, htu, hud, by rw [HLD.out]; exact HQ.out⟩
       · have q2' : decide ((k : Int) < 400) = false := by simp; omega
         go_wp2_with fail
         go_meet
         exact ⟨t, u, D, la, hd1, HN.out, htu, hud, HQ.out⟩
     · have q1' : decide ((k : Int) < (n3 : Int)) = false := by simp; omega
       have q1n : decide (k < n3) = false := by simp; omega
       have q1i : ¬ ((k : Int) < (n3 : Int)) := by omega
       go_wp2_with fail
       go_meet
       exact ⟨t, u, D, la, hd1, HN.out, htu, hud, HQ.out⟩
  case rest =>
  clear HT
  obtain ⟨t, u, D, la, hd1, hnum, htu, hud, hq⟩ := hcut
  have HQ := Lib.hid hq; have HN := Lib.hid hnum
  clear hq hnum
  obtain ⟨AA, cA, rfl, hnA, _⟩ := own_rd HQ.out.ra
  obtain ⟨T, hT⟩ : ∃ T, D.take u = T := ⟨_, rfl⟩
  have hTl : T.length = u := by rw [← hT, List.length_take]; omega
  have hTf : flat T = (flat D).take (u * 5) := by
    rw [← hT]
    conv => rhs; rw [← List.take_append_drop u D, flat_append, List.take_left' (by rw [flat_length, List.length_take]; omega)]
  rw [hT] at HQ
  obtain ⟨AT, cT, rfl, hnT, _⟩ := own_rd HQ.out.rt
  have HRA := Lib.hid (show Rd wc AA (flat T) by rw [hTf]; exact (own_rdA HQ.out.ra).take (u * 5))
  have HRT := Lib.hid (own_rdA HQ.out.rt)
  have HTT := Lib.hid hT; have HTL := Lib.hid hTl
  have hsl : (T.length : Int) ≤ (cA : Int) := by omega
  have htl : T.length ≤ 60 := by omega
  clear hTf hTl hT
  go_upto_region 35 with (
    go_at_call 17
    with_reducible refine (same_any AT AA T.length T.length cT cA T T _ rfl rfl HRT.out HRA.out (by omega) rfl).mono ?_
    rintro e1 w2 ⟨rfl, q2, rfl⟩)
  have HQ2 := Lib.hid (HQ.out.step (pw_drewN (Below.refl wc.heap.size wc) q2))
  clear HQ HRA HRT
  generalize wc.drewN q2 = W2 at *
  have HQ2' : Hid (Q4 w W2 bs (bs + 1) la (.slice AA D.length cA) (.slice AT T.length cT) u13 (D.drop t) (a0 + t) D (D.take u) D a1 (a0 + u)) := Lib.hid (by rw [HTT.out]; exact HQ2.out)
  clear HQ2 hsl hnT
  go_wp2_with fail
  go_loopg [12, 20] (D.length + 2) (fun gk s12 s20 wr => ∃ (i t u : Nat) (la : Value), s20 = .int .i64 (i : Int) ∧ i ≤ D.length + 1 ∧ gk = D.length + 2 - i ∧ t ≤ u ∧ u ≤ D.length ∧ (1 ≤ i → t = D.length ∧ u = D.length) ∧ Q4 w wr bs (bs + 1) la (.slice AA D.length cA) s12 u13 (D.drop t) (a0 + t) D (D.take u) D a1 (a0 + u))
  case atStart => exact ⟨0, t, u, la, rfl, by omega, by omega, htu, hud, by omega, HQ2'.out⟩
  case round =>
    clear HQ2' htu hud HTT HTL htl
    obtain ⟨i, t, u, la, rfl, hi, hgi, htu, hud, hone, hq⟩ := hrel
    have HQ := Lib.hid hq; have HON := Lib.hid hone
    clear hq hone
    by_cases hil : i ≤ D.length
    · have p0 : decide ((i : Int) ≤ (D.length : Int)) = true := by simp; omega
      have hsum : IntKind.i64.wrap ((i : Int) + 1) = (i : Int) + 1 := IntWalk.i64_in _ (by omega)
      obtain ⟨L, hL⟩ : ∃ L, D.drop t = L := ⟨_, rfl⟩
      have hLl : L.length = D.length - t := by rw [← hL, List.length_drop]
      rw [hL] at HQ
      have HLD := Lib.hid hL; have HLN := Lib.hid hLl
      have hLb : L.length ≤ 60 := by omega
      have HLG : Hid (∀ (j : Nat) (h : j < L.length), ∃ h2 : t + j < D.length, L[j] = D[t + j]) := Lib.hid (fun j h => by
        refine ⟨by omega, ?_⟩
        subst hL
        simp)
      clear hL hLl
      go_upto_region 39 with (
        go_at_call 16
        with_reducible refine (left_any w.heap.size bs la L (a0 + t) _ HQ.out.snd.blk HQ.out.snd.own (by omega)).mono ?_
        rintro e1 w3 ⟨vL, rfl, O3, B3⟩
        have HQ3 := Lib.hid (HQ.out.step B3)
        have hA3 : Ap u12 vL := fun q hq1 hq2 => by
          have h1 := (HQ.out.rt.lt q hq1).2
          have h2 := (O3.lt q hq2).1
          omega
        obtain ⟨A3, c3', rfl, _, _⟩ := own_rd O3
        have HA3 := Lib.hid hA3
        have HO3 := Lib.hid O3
        have hbw := HQ.out.bel.size
        clear O3 B3 hA3)
      obtain ⟨N0, hN0⟩ : ∃ N, wr.heap.size = N := ⟨_, rfl⟩
      have HN0 := Lib.hid hN0
      clear HQ hN0
      go_loopg [12, 160] L.length (fun gk s12 s160 wi => ∃ j u' : Nat, s160 = .int .i64 (j : Int) ∧ j ≤ L.length ∧ gk = L.length - j ∧ t + j ≤ u' ∧ u' ≤ D.length ∧ Q4 w wi bs (bs + 1) la (.slice AA D.length cA) s12 u13 L (a0 + t) D (D.take u') D a1 (a0 + u') ∧ wi.ownsRow N0 tI 5 (.slice A3 L.length c3') L.length (flat L) ∧ Ap s12 (.slice A3 L.length c3'))
      case atStart => exact ⟨0, u, rfl, by omega, by omega, by omega, hud, HQ3.out, by rw [← HN0.out]; exact HO3.out, HA3.out⟩
      case round =>
        clear HQ3 HO3 HA3
        obtain ⟨j, u', rfl, hj, hgj, htj, hud', hq, ho, hap⟩ := hrel
        have HQ := Lib.hid hq; have HO := Lib.hid ho; have HP := Lib.hid hap
        clear hq ho hap
        by_cases hjl : j < L.length
        · have p1 : decide ((j : Int) < (L.length : Int)) = true := by simp; omega
          have hji : (j : Int) < (L.length : Int) := by omega
          have hsj : IntKind.i64.wrap ((j : Int) + 1) = (j : Int) + 1 := IntWalk.i64_in _ (by omega)
          obtain ⟨b5, o5, rfl, r0, r1, r2, r3, r4⟩ := (own_rdA HO.out).item j hjl
          obtain ⟨htd, hLz⟩ := HLG.out j hjl
          have hseq := HN.out (t + j) htd
          rw [← hLz] at hseq
          have HZ0 := Lib.hid (show D[t + j]? = some L[j] by rw [List.getElem?_eq_getElem htd, hLz])
          clear hLz
          generalize L[j] = z at *
          obtain ⟨zs, zb, zd, zc, zm⟩ := z
          simp only at r0 r1 r2 r3 r4 hseq
          obtain ⟨sq, hsq⟩ : ∃ v : Int, a0 + ((t + j : Nat) : Int) + 1 = v := ⟨_, rfl⟩
          rw [hsq] at hseq
          rw [hseq] at r0 HZ0
          have HSQ := Lib.hid hsq
          have hsqb : a0 + (t : Int) + j + 1 = sq := by rw [← hsq]; push_cast; omega
          go_upto_region 41 with fail
          have HQ6 := Lib.hid (HQ.out.step ((Below.refl _ _).alloc (Nat.le_refl _) (.cells #[.int .i64 sq, .int .i64 zb, .string zd, .int .i64 zc, .int .i64 zm] tI)))
          have HO6 := Lib.hid (HO.out.alloc (.cells #[.int .i64 sq, .int .i64 zb, .string zd, .int .i64 zc, .int .i64 zm] tI))
          have HG6 := Lib.hid (Blk.new wr #[.int .i64 sq, .int .i64 zb, .string zd, .int .i64 zc, .int .i64 zm] tI)
          have HF6 := Lib.hid (HQ.out.fresh (Nat.le_refl _))
          generalize wr.alloc (.cells #[.int .i64 sq, .int .i64 zb, .string zd, .int .i64 zc, .int .i64 zm] tI) = W6 at *
          generalize wr.heap.size = g6 at *
          clear r0 r1 r2 r3 r4 HQ HO
          have v0 : W6.cell? ⟨bs + 1, 0, none⟩ = some (.int .i64 a1) := HQ6.out.ver.cell 0
          have v1 : W6.cell? ⟨bs + 1, 1, none⟩ = some (.int .i64 (a0 + u')) := HQ6.out.ver.cell 1
          have z0 : W6.cell? ⟨g6, 0, none⟩ = some (.int .i64 sq) := HG6.out.cell 0
          obtain ⟨nv, hnv⟩ : ∃ v, nextM a1 (a0 + u') a1 sq = v := ⟨_, rfl⟩
          have HNV := Lib.hid hnv
          by_cases hlu : t + j < u'
          · have hn2 : nv = 2 := by rw [← hnv, nextM, if_neg (by omega), if_neg (by omega), if_pos (by omega)]
            have p2 : (nv == 1) = false := by rw [hn2]; rfl
            clear hn2 hnv
            go_wp2_with (
              go_at_call 22
              with_reducible refine (next_any a1 (a0 + u') a1 sq _ b1 (by omega) b1 (by omega)).mono ?_
              rw [HNV.out]
              rintro e1 w8 ⟨rfl, B8⟩
              have HQ8 := Lib.hid (HQ6.out.step B8)
              have HO8 := Lib.hid (own_upd HO6.out (Upd.of_below (S := fun _ => False) B8) (fun _ _ h => h))
              clear B8 v0 v1 z0)
            go_roundg (L.length - (j + 1))
            case measure => omega
            case rel => exact ⟨j + 1, u', by push_cast; rfl, by omega, rfl, by omega, hud', HQ8.out, HO8.out, HP.out⟩
          · have hn2 : nv = 1 := by rw [← hnv, nextM, if_neg (by omega), if_neg (by omega), if_neg (by omega), if_pos (by omega)]
            have p2 : (nv == 1) = true := by rw [hn2]; rfl
            have HPE := Lib.hid (show t + j = u' by omega)
            have HTK := Lib.hid (show D.take (u' + 1) = D.take u' ++ [⟨sq, zb, zd, zc, zm⟩] by
              have := HZ0
              rw [List.take_add_one, show u' = t + j by omega, this]; rfl)
            have htl : (D.take u').length ≤ 60 := by rw [List.length_take]; omega
            clear hn2 hnv hlu
            go_upto_region 42 with (
              go_at_call 22
              with_reducible refine (next_any a1 (a0 + u') a1 sq _ b1 (by omega) b1 (by omega)).mono ?_
              rw [HNV.out]
              rintro e1 w8 ⟨rfl, B8⟩
              have HQ8 := Lib.hid (HQ6.out.step B8)
              have HO8 := Lib.hid (own_upd HO6.out (Upd.of_below (S := fun _ => False) B8) (fun _ _ h => h))
              have HG8 := Lib.hid (HG6.out.upd (Upd.of_below (S := fun _ => False) B8) (fun h => h))
              clear B8 v0 v1 z0)
            have z0 : w8.cell? ⟨g6, 0, none⟩ = some (.int .i64 sq) := HG8.out.cell 0
            have z1 : w8.cell? ⟨g6, 1, none⟩ = some (.int .i64 zb) := HG8.out.cell 1
            have z2 : w8.cell? ⟨g6, 2, none⟩ = some (.string zd) := HG8.out.cell 2
            have z3 : w8.cell? ⟨g6, 3, none⟩ = some (.int .i64 zc) := HG8.out.cell 3
            have z4 : w8.cell? ⟨g6, 4, none⟩ = some (.int .i64 zm) := HG8.out.cell 4
            go_upto_region 43 with (
              at_builtin
              refine app1 w.heap.size 36 tI (.agg #[.int .i64 0, .int .i64 0, .string ByteArray.empty, .int .i64 0, .int .i64 0]) 5 48 (Item.cells ⟨sq, zb, zd, zc, zm⟩) HQ8.out.rt HQ8.out.bel.size (by omega) Try.underlying36 Try.infoItem rfl (by decide) (by decide) rfl (item_one _) (.tmp 170) (.tmp 172) rfl rfl rfl rfl ?_
              intro v9 x9 hown9 hg9 hat9
              have HQ9 := Lib.hid (HQ8.out.opT (x := ⟨sq, zb, zd, zc, zm⟩) hown9 hg9 hat9)
              have HG9 := Lib.hid (HG8.out.upd (Upd.of_grown hg9) (fun e => HF6.out.2.2.2.1 e.symm))
              have HO9 := Lib.hid (own_upd HO8.out (Upd.of_grown hg9) (fun q hq e => HP.out q e.symm hq))
              have HP9 : Hid (Ap v9 _) := Lib.hid (HP.out.new (v' := v9) (N := w8.heap.size) (fun q hq => by
                rcases hat9 with e | ⟨b, e, hb⟩
                · exact .inl (by rw [← e]; exact hq)
                · rw [e] at hq; cases hq; exact .inr hb) (own_ltW HO8.out))
              clear hown9 hg9 hat9 z0 z1 z2 z3 z4)
            have z0 : x9.cell? ⟨g6, 0, none⟩ = some (.int .i64 sq) := HG9.out.cell 0
            have hv9 := HQ9.out.ver
            have v1 : x9.cell? ⟨bs + 1, 1, none⟩ = some (.int .i64 (a0 + u')) := hv9.cell 1
            have v2 := hv9.frozen 1
            have HO10 := Lib.hid (own_setOther HO9.out (p := ⟨bs + 1, 1, none⟩) (own_ne HO9.out hv9 (by decide)) (.int .i64 sq))
            clear hv9
            go_wp2_with fail
            go_roundg (L.length - (j + 1))
            case measure => omega
            case rel =>
              refine ⟨j + 1, u' + 1, by push_cast; rfl, by omega, rfl, by omega, by have := HPE.out; omega, ?_, HO10.out, HP9.out⟩
              have h := HQ9.out.setG sq
              rw [HTK.out, show (a0 + ((u' + 1 : Nat) : Int)) = sq by have := HPE.out; omega]
              exact h
        · have p1 : decide ((j : Int) < (L.length : Int)) = false := by simp; omega
          have hu' : u' = D.length := by have := HLN.out; omega
          have HU := Lib.hid hu'
          have HDL := Lib.hid (show D.drop D.length = [] from List.drop_length)
          have hv := HQ.out.ver
          have v1 : wr.cell? ⟨bs + 1, 1, none⟩ = some (.int .i64 (a0 + u')) := hv.cell 1
          clear hv hu'
          by_cases htd : t < D.length
          · have HKK := Lib.hid (show a0 + (u' : Int) = a0 + t + ((D.length - t : Nat) : Int) by have := HU.out; omega)
            have hkl : D.length - t ≤ L.length := by have := HLN.out; omega
            go_wp2_with (
              go_at_call 14
              with_reducible refine (ack_yes' w.heap.size bs (D.length - t) la L (a0 + t) (a0 + u') _ HKK.out HQ.out.snd (by omega) hkl (by omega)).mono ?_
              rintro e1 w9 ⟨rfl, la9, S9, U9, F9⟩
              have HQ9 := Lib.hid (HQ.out.opS S9 U9 F9)
              clear S9 U9 F9)
            go_roundg (D.length + 2 - (i + 1))
            case measure => omega
            case rel =>
              refine ⟨i + 1, D.length, D.length, la9, by push_cast; rfl, by omega, rfl, by omega, by omega, fun _ => ⟨rfl, rfl⟩, ?_⟩
              have h := HQ9.out
              rw [← HKK.out, ← HLD.out, List.drop_drop, show t + (D.length - t) = D.length by omega, HU.out] at h
              exact h
          · have HKK := Lib.hid (show a0 + (u' : Int) ≤ a0 + t ∨ a0 + (t : Int) + L.length < a0 + u' by have := HU.out; omega)
            have HTD := Lib.hid (show t = D.length by omega)
            go_wp2_with (
              go_at_call 14
              with_reducible refine (ack_no w.heap.size bs la L (a0 + t) (a0 + u') _ HQ.out.snd HKK.out).mono ?_
              rintro e1 w9 ⟨rfl, B9⟩
              have HQ9 := Lib.hid (HQ.out.step B9)
              clear B9)
            go_roundg (D.length + 2 - (i + 1))
            case measure => omega
            case rel =>
              refine ⟨i + 1, t, u', la, by push_cast; rfl, by omega, rfl, by have := HU.out; have := HTD.out; omega, hud', fun _ => ⟨HTD.out, HU.out⟩, ?_⟩
              rw [HLD.out]
              exact HQ9.out
    · have p0 : decide ((i : Int) ≤ (D.length : Int)) = false := by simp; omega
      obtain ⟨ht, hu⟩ := HON.out (by omega)
      have HQ1 : Hid (Q4 w wr bs (bs + 1) la (.slice AA D.length cA) u12 u13 [] (a0 + D.length) D D D a1 (a0 + D.length)) := Lib.hid (by
        have h := HQ.out
        rw [ht, hu, List.drop_length, List.take_length] at h
        exact h)
      clear HQ HON ht hu
      obtain ⟨AT, cT, rfl, hnT, _⟩ := own_rd HQ1.out.rt
      have q0 : ((a0 + (D.length : Int)) == a0 + (D.length : Int)) = true := by simp
      have q0d : decide ((a0 + (D.length : Int)) = a0 + (D.length : Int)) = true := by simp
      have p0i : ¬ ((i : Int) ≤ (D.length : Int)) := by omega
      have HNT := Lib.hid hnT; clear hnT
      obtain ⟨AA', cA', hAA, _, hra⟩ := own_rd HQ1.out.ra
      injection hAA with e1 _ e2
      subst e1 e2
      have HRA := Lib.hid hra; clear hra
      have HRT := Lib.hid (own_rdA HQ1.out.rt)
      have HI := Lib.hid hi; clear hi
      go_wp2_with (first
        | (go_at_call 17
           with_reducible refine (same_any AT AA D.length D.length cT cA D D _ rfl rfl HRT.out HRA.out (by omega) rfl).mono ?_
           rintro e1 w9 ⟨rfl, q9, rfl⟩
           have HQ2 := Lib.hid (HQ1.out.step (pw_drewN (Below.refl _ _) q9)))
        | (go_at_call 16
           with_reducible refine (left_any w.heap.size bs la [] (a0 + D.length) _ HQ2.out.snd.blk HQ2.out.snd.own (by simp)).mono ?_
           rintro e1 w10 ⟨vL, rfl, OL, BL⟩
           obtain ⟨AL, cL, rfl, _, _⟩ := own_rd OL
           have HQ3 := Lib.hid (HQ2.out.step BL)
           clear OL BL)
        | (go_at_call 21
           with_reducible refine (acked_any bs la (a0 + D.length) _ HQ3.out.snd.blk).mono ?_
           rintro e1 w11 ⟨rfl, rfl⟩)
        | (go_at_call 19
           with_reducible refine (last_one HQ3.out.snd).mono ?_
           rintro e1 w12 ⟨rfl, q12, rfl⟩
           have HQ4 := Lib.hid (HQ3.out.step (pw_drewN (Below.refl _ _) q12))))
      go_ret
      exact ⟨rfl, HQ4.out.bel⟩
end Go.Proofs.Ytgmehcefmoleoaa
