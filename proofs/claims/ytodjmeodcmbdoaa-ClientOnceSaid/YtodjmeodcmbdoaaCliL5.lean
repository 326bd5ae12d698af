/- The walk of the law ClientStops: it returns true. No condition but the row's own. -/
import Derived.Test.YtodjmeodcmbdoaaCliB
set_option linter.unusedVariables false
set_option linter.unusedSimpArgs false
namespace Go.Proofs.Ytodjmeodcmbdoaa
open Go.RowKit
theorem take_place (c : Cst) (x : Let) : (c.take x).place = c.place := by
  unfold Cst.take
  split
  · split
    · split <;> rfl
    · split <;> rfl
  · rfl
theorem take_miss {c : Cst} {x : Let} (h : ¬ c.hits x) : c.take x = c ∧ c.takeB x = false := by
  unfold Cst.take Cst.takeB
  rw [if_neg h, decide_eq_false h]
  exact ⟨rfl, rfl⟩
set_option maxRecDepth 100000 in
set_option maxHeartbeats 8000000 in
theorem w_ClientStops (a0 : Int) (a1 : Option Addr) (n1 c1 : Nat) (a2 : Option Addr) (n2 c2 : Nat) (w : World) (b0 : -9223372036854775808 ≤ a0 ∧ a0 ≤ 9223372036854775807) (b1 : Sh.Is w (.slice 32 (.pair (.int .i64) (.pair (.int .i64) (.pair .str .unit)))) [.slice a1 n1 c1]) (b2 : Sh.Is w (.slice 160 (.pair (.int .i64) (.pair (.int .i64) (.pair (.int .i64) (.pair (.pair (.int .i64) (.pair (.int .i64) (.pair (.int .i64) (.pair (.int .i64) (.pair (.int .i64) (.pair (.int .i64) (.pair (.int .i64) (.pair (.pair (.int .i64) (.pair (.int .i64) (.pair (.int .i64) (.pair (.int .i64) .unit)))) (.pair .str (.pair .str .unit)))))))))) (.pair .str .unit)))))) [.slice a2 n2 c2]) :
    Calls Try.prog 7 #[.int .i64 a0, .slice a1 n1 c1, .slice a2 n2 c2] w fun e w' => e = .returned (.bool true) ∧ Below w.heap.size w w' := by
  obtain ⟨cs, hcl, hca, hcr, hcn⟩ := is_calls b1
  obtain ⟨la, hal, har, hab⟩ := is_acts b2
  have HCL := Lib.hid hcl; have HCR := Lib.hid hcr; have HCA := Lib.hid hca; have HAL := Lib.hid hal; have HAR := Lib.hid har
  clear b1 b2 hcl hcr hca hal har
  go_enter Try.func7, Try.ntmps7
  go_wp2_with fail
  refine (awake_any _).mono ?_
  rintro e w1 ⟨rfl, hB1⟩
  have HS := Lib.hid ((Sep.nil w).step hB1)
  clear hB1
  go_wp2_with fail
  refine (large_any cs la a1 a2 n1 n2 c1 c2 w1 HCL.out HAL.out (HCR.out.below HS.out.bel) (HAR.out.below HS.out.bel) hab).mono ?_
  rintro e w2 ⟨r, rfl, hw, hlg⟩
  rw [hw]
  clear hw w2
  cases r
  rotate_left
  · clear hlg
    go_wp2_with fail
    go_ret
    exact ⟨rfl, HS.out.bel⟩
  obtain ⟨hn1100, hlg⟩ := hlg rfl
  have HLG := Lib.hid hlg
  clear hlg
  cases hok : newOk a0 cs
  · have HK := Lib.hid hok
    clear hok
    go_wp2_with (go_at_call 10; refine (cnew_no HS.out a0 cs a1 n1 c1 HCL.out HK.out).mono ?_; rintro e w3 ⟨rfl, hw⟩; rw [hw]; clear hw)
    go_ret
    exact ⟨rfl, HS.out.bel⟩
  have HK := Lib.hid hok
  have HGN := Lib.hid (Good.new hok)
  clear hok
  go_upto_region 8 with (go_at_call 10; refine (cnew_yes HS.out a0 cs a1 n1 c1 HCL.out (HCR.out.below HS.out.bel) HCA.out HK.out).mono ?_; rintro e w3 ⟨b, cv, rv, rfl, hs⟩; have HS := Lib.hid hs; clear hs)
  have HPL := Lib.hid (show (newC a0 cs).place = a0 from rfl)
  generalize newC a0 cs = C0 at *
  clear HK
  go_wp2_with fail
  go_loopg [8] 101 (fun gk s8 wr => ∃ (k : Nat) (rv : Value) (c : Cst), s8 = .int .i64 (k : Int) ∧ k ≤ 100 ∧ gk = 101 - k ∧ c.place = a0 ∧ Good c ∧ Sep w wr [tCli tCl b cv rv c])
  case atStart => exact ⟨0, _, C0, rfl, by decide, rfl, HPL.out, HGN.out, HS.out⟩
  case round =>
  clear HS HGN HPL
  obtain ⟨k, rv, c, rfl, hk, hgk, hpl, hgood, hs⟩ := hrel
  have HS := Lib.hid hs
  have HGD := Lib.hid hgood
  have HPL := Lib.hid hpl
  clear hs hgood hpl
  by_cases q1 : k < n2
  case neg =>
    have q1' : decide ((k : Int) < (n2 : Int)) = false := by simp; omega
    have q1n : ¬ ((k : Int) < (n2 : Int)) := by omega
    go_wp2_with fail
    go_ret
    exact ⟨rfl, HS.out.bel⟩
  have q1' : decide ((k : Int) < (n2 : Int)) = true := by simp; omega
  have i1 : (k : Int) < (n2 : Int) := by omega
  by_cases q2 : k < 100
  case neg =>
    have q2' : decide ((k : Int) < 100) = false := by simp; omega
    go_wp2_with fail
    go_ret
    exact ⟨rfl, HS.out.bel⟩
  have q2' : decide ((k : Int) < 100) = true := by simp; omega
  have i0 : (0 : Int) ≤ (k : Int) := by omega
  have HX := Lib.hid (List.getElem?_eq_getElem (l := la) (i := k) (by rw [HAL.out]; exact q1))
  generalize la[k]'(by rw [HAL.out]; exact q1) = x at *
  have HXB := Lib.hid (Ac.body (HLG.out k x q2 HX.out))
  obtain ⟨gb, go, rfl, hu⟩ := (HAR.out.below HS.out.bel).act k x HX.out
  have qq := (show World.rangeAt wr gb (go + k * 17) x.cs.toList from hu)
  clear hu
  obtain ⟨g8, hg8⟩ : ∃ g, wr.heap.size = g := ⟨_, rfl⟩
  have HT := Lib.hid ((HS.out.newBlk #[.int .i64 0, .int .i64 0, .int .i64 0, .int .i64 0, .int .i64 0, .int .i64 0, .int .i64 0, .int .i64 0, .int .i64 0, .int .i64 0, .int .i64 0, .int .i64 0, .int .i64 0, .int .i64 0, .string { data := #[] }, .string { data := #[] }, .string { data := #[] }] tAc hg8).sw)
  have HG8 := Lib.hid hg8
  clear hg8
  go_upto_region 11 with fail
  refine wp_region_lit (l := [_, _, _, _, _, _]) ?_
  iterate 3 (refine wpList_plain rfl fun _ hK => ?_; go_simp; refine hK _ _ ?_)
  refine loadMid _ rfl (.tmp 41) rfl rfl qq Try.underlying37 rfl infoAc ?_
  refine wpList_plain rfl fun _ hK => ?_
  go_simp
  rw [HG8.out]
  refine hK _ _ ?_
  refine storeR x.cs (show Blk _ g8 #[.int .i64 0, .int .i64 0, .int .i64 0, .int .i64 0, .int .i64 0, .int .i64 0, .int .i64 0, .int .i64 0, .int .i64 0, .int .i64 0, .int .i64 0, .int .i64 0, .int .i64 0, .int .i64 0, .string { data := #[] }, .string { data := #[] }, .string { data := #[] }] tAc from HT.out.h2) rfl infoAc (ac1 x) rfl (.tmp 9) (.tmp 42) rfl rfl rfl ?_
  intro W hb8 hu8
  have HT := Lib.hid (HT.out.sw.put hb8 hu8).sw
  clear hb8 hu8 qq HS HG8
  have d0 : W.cell? ⟨g8, 0, none⟩ = some (.int .i64 x.kind) := (show Blk W g8 x.cs tAc from HT.out.h2).cell 0
  generalize hxk : x.kind = xk at *
  clear hxk
  have hw1 : IntKind.i64.wrap ((k : Int) + 1) = (k : Int) + 1 := IntWalk.i64_in _ (by omega)
  by_cases hk1 : xk = 1
  rotate_left
  · have p1 : (xk != 1) = true := bne_iff_ne.2 hk1
    go_wp2_with fail
    go_roundg (101 - (k + 1))
    case measure => omega
    case rel => exact ⟨k + 1, _, c, by push_cast; rfl, by omega, rfl, HPL.out, HGD.out, HT.out.d2⟩
  subst hk1
  obtain ⟨n, hn⟩ : ∃ n, c.calls.length = n := ⟨_, rfl⟩
  obtain ⟨m, hm⟩ : ∃ n, c.rs.length = n := ⟨_, rfl⟩
  have HN := Lib.hid (And.intro hn hm)
  have hmn : m ≤ n := by rw [← hn, ← hm]; exact HGD.out.m
  clear hn hm
  go_upto_region 14 with (first
    | (go_at_call 20; refine (left_sep HT.out HGD.out).mono ?_; simp only [HN.out.1, HN.out.2]; rintro e w4 ⟨rfl, hS⟩; have HT := Lib.hid hS; clear hS)
    | (go_at_call 22; refine (node_sep HT.out).mono ?_; rintro e w5 ⟨rfl, hw⟩; rw [hw]; clear hw w5))
  clear d0
  obtain ⟨lt, hlt⟩ : ∃ y, x.lt = y := ⟨_, rfl⟩
  have HLT := Lib.hid hlt
  have HXB := Lib.hid (show lt.body.size ≤ 65536 by rw [← hlt]; exact HXB.out)
  clear hlt
  obtain ⟨yf, yt, yb⟩ := lt
  refine wp_region_lit (l := [_, _, _, _]) ?_
  refine loadR _ (show Blk w4 g8 x.cs tAc from HT.out.h2) Try.underlying37 rfl infoAc rfl (.tmp 9) rfl rfl ?_
  go_upto_region 15 with (go_at_call 15; refine (letter_any x _).mono ?_; rw [HLT.out]; unfold Let.cs; simp only; rintro e w6 ⟨rfl, hB⟩; have HT := Lib.hid ((HT.out.d2.step hB).newBlk #[.int .i64 yf, .int .i64 yt, .string yb] tLt (g := w6.heap.size) rfl).sw; clear hB)
  generalize w6.alloc (.cells #[.int .i64 yf, .int .i64 yt, .string yb] tLt) = w7 at *
  generalize w6.heap.size = gL at *
  have hz := (show Blk w7 gL #[.int .i64 yf, .int .i64 yt, .string yb] tLt from HT.out.h2)
  have l2 := hz.cell 2
  simp at l2
  clear hz
  obtain ⟨m0, hm0⟩ : ∃ m0, dMsg yb = m0 := ⟨_, rfl⟩
  obtain ⟨er0, her0⟩ : ∃ m0, dEr yb = m0 := ⟨_, rfl⟩
  have he01 : er0 = 0 ∨ er0 = 4 := by
    rw [← her0]; unfold dEr; split <;> simp
  have HD := Lib.hid (And.intro hm0 her0)
  obtain ⟨y0, y1, y2, y3, y4, y5, y6, y7, y8, y9, y10, sa, sb⟩ := m0
  clear hm0 her0
  go_upto_region 16 with (go_at_call 24; refine (rmdecode_any yb _ HXB.out).mono ?_; rw [HD.out.1, HD.out.2]; unfold Msg.cs; simp only; rintro e w8 ⟨rfl, hB⟩; have HT := Lib.hid ((HT.out.step hB).newBlk #[.int .i64 y0, .int .i64 y1, .int .i64 y2, .int .i64 y3, .int .i64 y4, .int .i64 y5, .int .i64 y6, .int .i64 y7, .int .i64 y8, .int .i64 y9, .int .i64 y10, .string sa, .string sb] tMsg (g := w8.heap.size) rfl).r3'; clear hB)
  generalize w8.alloc (.cells #[.int .i64 y0, .int .i64 y1, .int .i64 y2, .int .i64 y3, .int .i64 y4, .int .i64 y5, .int .i64 y6, .int .i64 y7, .int .i64 y8, .int .i64 y9, .int .i64 y10, .string sa, .string sb] tMsg) = w9 at *
  generalize w8.heap.size = gM at *
  clear l2
  go_cut [15] (fun s15 wx => wx = w9 ∧ ∃ fb : Bool, s15 = .bool fb ∧ (fb = true → ¬ c.hits ⟨yf, yt, yb⟩))
  case first =>
    have hz := (show Blk w9 gL #[.int .i64 yf, .int .i64 yt, .string yb] tLt from HT.out.h2)
    have l0 := hz.cell 0; have l1 := hz.cell 1
    have hz2 := (show Blk w9 gM #[.int .i64 y0, .int .i64 y1, .int .i64 y2, .int .i64 y3, .int .i64 y4, .int .i64 y5, .int .i64 y6, .int .i64 y7, .int .i64 y8, .int .i64 y9, .int .i64 y10, .string sa, .string sb] tMsg from HT.out.h3)
    have z0 := hz2.cell 0
    simp at l0 l1 z0
    clear hz hz2
    have HH : Hid (c.hits ⟨yf, yt, yb⟩ → er0 = 0 ∧ yt = a0 ∧ (yf = 0 ∨ yf = 1) ∧ y0 = 15) := Lib.hid (fun h => by
      obtain ⟨h1, h2, h3, h4, _⟩ := h
      simp only at h1 h2 h3 h4
      rw [HD.out.2] at h1
      rw [HPL.out] at h2
      rw [HD.out.1] at h4
      exact ⟨h1, h2, h3, h4⟩)
    rcases he01 with rfl | rfl
    rotate_left
    · go_wp2_with fail
      go_meet
      exact ⟨rfl, true, rfl, fun _ h => by have := (HH.out h).1; cases this⟩
    by_cases e1 : yt = a0
    rotate_left
    · have f1 : (yt != a0) = true := bne_iff_ne.2 e1
      have HE := Lib.hid e1
      clear e1
      go_wp2_with fail
      go_meet
      exact ⟨rfl, true, rfl, fun _ h => HE.out (HH.out h).2.1⟩
    have f1 : (yt != a0) = false := by rw [e1]; simp
    have f1' : decide (yt = a0) = true := decide_eq_true e1
    by_cases e2 : yf < 0
    · have f2 : decide (yf < 0) = true := decide_eq_true e2
      have HE := Lib.hid e2
      clear e2 e1
      go_wp2_with fail
      go_meet
      exact ⟨rfl, true, rfl, fun _ h => by have := (HH.out h).2.2.1; have := HE.out; omega⟩
    have f2 : decide (yf < 0) = false := decide_eq_false e2
    by_cases e3 : 1 < yf
    · have f3 : decide (1 < yf) = true := decide_eq_true e3
      have HE := Lib.hid e3
      clear e3 e1
      go_wp2_with fail
      go_meet
      exact ⟨rfl, true, rfl, fun _ h => by have := (HH.out h).2.2.1; have := HE.out; omega⟩
    have f3 : decide (1 < yf) = false := decide_eq_false e3
    by_cases e4 : y0 = 15
    rotate_left
    · have f4 : (y0 != 15) = true := bne_iff_ne.2 e4
      have HE := Lib.hid e4
      clear e4 e1
      go_wp2_with fail
      go_meet
      exact ⟨rfl, true, rfl, fun _ h => HE.out (HH.out h).2.2.2⟩
    have f4 : (y0 != 15) = false := by rw [e4]; rfl
    clear e1
    go_wp2_with fail
    go_meet
    exact ⟨rfl, false, rfl, fun h => by cases h⟩
  case rest =>
    obtain ⟨hwx, fb, rfl, hfb⟩ := hcut
    rw [hwx]
    clear hwx
    have HFB := Lib.hid hfb
    clear hfb he01
    obtain ⟨c', hc'⟩ : ∃ y, c.take ⟨yf, yt, yb⟩ = y := ⟨_, rfl⟩
    obtain ⟨tb, htb⟩ : ∃ y, c.takeB ⟨yf, yt, yb⟩ = y := ⟨_, rfl⟩
    have HTK := Lib.hid (And.intro hc' htb)
    have HGD2 := Lib.hid (show Good c' by rw [← hc']; exact HGD.out.take _)
    have HPL2 := Lib.hid (show c'.place = a0 by rw [← hc', take_place]; exact HPL.out)
    have HMS := Lib.hid (fun (h : ¬ c.hits ⟨yf, yt, yb⟩) => show c' = c ∧ tb = false from ⟨hc'.symm.trans (take_miss h).1, htb.symm.trans (take_miss h).2⟩)
    clear hc' htb
    have hz := (show Blk w9 gL #[.int .i64 yf, .int .i64 yt, .string yb] tLt from HT.out.h2)
    have l0 := hz.cell 0; have l1 := hz.cell 1; have l2 := hz.cell 2
    simp at l0 l1 l2
    clear hz
    go_upto_region 18 with (go_at_call 14; refine (take_sep HT.out HGD.out ⟨yf, yt, yb⟩ HXB.out).mono ?_; rw [HTK.out.1, HTK.out.2]; rintro e w10 ⟨rfl, rv', hS⟩; have HT := Lib.hid hS; clear hS)
    clear l0 l1 l2
    by_cases hmn2 : m < n
    · have g1 : ((n : Int) - (m : Int) == 0) = false := beq_eq_false_iff_ne.2 (by omega)
      cases fb
      · clear hmn2
        go_upto_region 20 with fail
        have HGZ := HGD2; have HPZ := HPL2
        generalize w10 = wz at *
        clear g1
        obtain ⟨nz, hnz⟩ : ∃ n, c'.calls.length = n := ⟨_, rfl⟩
        obtain ⟨mz, hmz⟩ : ∃ n, c'.rs.length = n := ⟨_, rfl⟩
        have HNZ := Lib.hid (And.intro hnz hmz)
        have hmnz : mz ≤ nz := by rw [← hnz, ← hmz]; exact HGZ.out.m
        clear hnz hmz
        obtain ⟨pk, hpk⟩ : ∃ x, c'.poke = x := ⟨_, rfl⟩
        have HPK := Lib.hid hpk
        obtain ⟨pf, pt, pd⟩ := pk
        clear hpk
        by_cases hz : mz < nz
        · have HPB := Lib.hid (show c'.pokeB = true by unfold Cst.pokeB; exact decide_eq_true (by rw [HNZ.out.1, HNZ.out.2]; exact hz))
          have f1 : (0 : Int) < (nz : Int) - (mz : Int) := by omega
          have f2 : decide ((0 : Int) < (nz : Int) - (mz : Int)) = true := decide_eq_true f1
          have f3 : (mz : Int) < (nz : Int) := by omega
          have f4 : ¬ nz ≤ mz := by omega
          have f5 : decide (mz < nz) = true := decide_eq_true hz
          go_upto_region 21 with (go_at_call 12; refine (poke_sep HT.out HGZ.out).mono ?_; rw [HPK.out, HPB.out]; unfold Let.cs; simp only; rintro e v1 ⟨rfl, hS⟩; have HT := Lib.hid (hS.alloc (.cells #[.int .i64 pf, .int .i64 pt, .string pd] tLt)); clear hS)
          go_wp2_with (go_at_call 20; refine (left_sep HT.out HGZ.out).mono ?_; simp only [HNZ.out.1, HNZ.out.2]; rintro e v2 ⟨rfl, hS⟩; have HT := Lib.hid hS; clear hS)
          go_roundg (101 - (k + 1))
          case measure => omega
          case rel => exact ⟨k + 1, _, c', by push_cast; rfl, by omega, rfl, HPZ.out, HGZ.out, HT.out.d2.d2⟩
        · have HPB := Lib.hid (show c'.pokeB = false by unfold Cst.pokeB; exact decide_eq_false (by rw [HNZ.out.1, HNZ.out.2]; exact hz))
          have f1 : ¬ (0 : Int) < (nz : Int) - (mz : Int) := by omega
          have f2 : decide ((0 : Int) < (nz : Int) - (mz : Int)) = false := decide_eq_false f1
          have f3 : ¬ (mz : Int) < (nz : Int) := by omega
          have f4 : nz ≤ mz := by omega
          have f5 : decide (mz < nz) = false := decide_eq_false hz
          go_upto_region 21 with (go_at_call 12; refine (poke_sep HT.out HGZ.out).mono ?_; rw [HPK.out, HPB.out]; unfold Let.cs; simp only; rintro e v1 ⟨rfl, hS⟩; have HT := Lib.hid (hS.alloc (.cells #[.int .i64 pf, .int .i64 pt, .string pd] tLt)); clear hS)
          go_wp2_with (go_at_call 20; refine (left_sep HT.out HGZ.out).mono ?_; simp only [HNZ.out.1, HNZ.out.2]; rintro e v2 ⟨rfl, hS⟩; have HT := Lib.hid hS; clear hS)
          go_roundg (101 - (k + 1))
          case measure => omega
          case rel => exact ⟨k + 1, _, c', by push_cast; rfl, by omega, rfl, HPZ.out, HGZ.out, HT.out.d2.d2⟩
      · obtain ⟨hcc, rfl⟩ := HMS.out (HFB.out rfl)
        rw [hcc] at HT
        clear hmn2
        have HS2 := Lib.hid HT.out
        go_upto_region 20 with (first
          | (go_at_call 20; refine (left_sep HS2.out HGD.out).mono ?_; simp only [HN.out.1, HN.out.2]; rintro e w11 ⟨rfl, hS⟩; have HT := Lib.hid hS; clear hS)
          | (go_at_call 22; refine (node_sep HT.out).mono ?_; rintro e w12 ⟨rfl, hw⟩; rw [hw]; clear hw w12))
        have HGZ := HGD; have HPZ := HPL
        generalize w11 = wz at *
        clear g1
        obtain ⟨nz, hnz⟩ : ∃ n, c.calls.length = n := ⟨_, rfl⟩
        obtain ⟨mz, hmz⟩ : ∃ n, c.rs.length = n := ⟨_, rfl⟩
        have HNZ := Lib.hid (And.intro hnz hmz)
        have hmnz : mz ≤ nz := by rw [← hnz, ← hmz]; exact HGZ.out.m
        clear hnz hmz
        obtain ⟨pk, hpk⟩ : ∃ x, c.poke = x := ⟨_, rfl⟩
        have HPK := Lib.hid hpk
        obtain ⟨pf, pt, pd⟩ := pk
        clear hpk
        by_cases hz : mz < nz
        · have HPB := Lib.hid (show c.pokeB = true by unfold Cst.pokeB; exact decide_eq_true (by rw [HNZ.out.1, HNZ.out.2]; exact hz))
          have f1 : (0 : Int) < (nz : Int) - (mz : Int) := by omega
          have f2 : decide ((0 : Int) < (nz : Int) - (mz : Int)) = true := decide_eq_true f1
          have f3 : (mz : Int) < (nz : Int) := by omega
          have f4 : ¬ nz ≤ mz := by omega
          have f5 : decide (mz < nz) = true := decide_eq_true hz
          go_upto_region 21 with (go_at_call 12; refine (poke_sep HT.out HGZ.out).mono ?_; rw [HPK.out, HPB.out]; unfold Let.cs; simp only; rintro e v1 ⟨rfl, hS⟩; have HT := Lib.hid (hS.alloc (.cells #[.int .i64 pf, .int .i64 pt, .string pd] tLt)); clear hS)
          go_wp2_with (go_at_call 20; refine (left_sep HT.out HGZ.out).mono ?_; simp only [HNZ.out.1, HNZ.out.2]; rintro e v2 ⟨rfl, hS⟩; have HT := Lib.hid hS; clear hS)
          go_roundg (101 - (k + 1))
          case measure => omega
          case rel => exact ⟨k + 1, _, c, by push_cast; rfl, by omega, rfl, HPZ.out, HGZ.out, HT.out.d2.d2⟩
        · have HPB := Lib.hid (show c.pokeB = false by unfold Cst.pokeB; exact decide_eq_false (by rw [HNZ.out.1, HNZ.out.2]; exact hz))
          have f1 : ¬ (0 : Int) < (nz : Int) - (mz : Int) := by omega
          have f2 : decide ((0 : Int) < (nz : Int) - (mz : Int)) = false := decide_eq_false f1
          have f3 : ¬ (mz : Int) < (nz : Int) := by omega
          have f4 : nz ≤ mz := by omega
          have f5 : decide (mz < nz) = false := decide_eq_false hz
          go_upto_region 21 with (go_at_call 12; refine (poke_sep HT.out HGZ.out).mono ?_; rw [HPK.out, HPB.out]; unfold Let.cs; simp only; rintro e v1 ⟨rfl, hS⟩; have HT := Lib.hid (hS.alloc (.cells #[.int .i64 pf, .int .i64 pt, .string pd] tLt)); clear hS)
          go_wp2_with (go_at_call 20; refine (left_sep HT.out HGZ.out).mono ?_; simp only [HNZ.out.1, HNZ.out.2]; rintro e v2 ⟨rfl, hS⟩; have HT := Lib.hid hS; clear hS)
          go_roundg (101 - (k + 1))
          case measure => omega
          case rel => exact ⟨k + 1, _, c, by push_cast; rfl, by omega, rfl, HPZ.out, HGZ.out, HT.out.d2.d2⟩
    · have g1 : ((n : Int) - (m : Int) == 0) = true := beq_iff_eq.2 (by omega)
      obtain ⟨hcc, rfl⟩ := HMS.out (fun h => hmn2 (by have := h.2.2.2.2.1; rw [HN.out.1, HN.out.2] at this; exact this))
      rw [hcc] at HT
      clear hmn2
      have HS2 := Lib.hid HT.out
      cases fb
      all_goals
        go_upto_region 20 with (first
          | (go_at_call 20; refine (left_sep HS2.out HGD.out).mono ?_; simp only [HN.out.1, HN.out.2]; rintro e w11 ⟨rfl, hS⟩; have HT := Lib.hid hS; clear hS)
          | (go_at_call 22; refine (node_sep HT.out).mono ?_; rintro e w12 ⟨rfl, hw⟩; rw [hw]; clear hw w12))
        have HGZ := HGD; have HPZ := HPL
        generalize w11 = wz at *
        clear g1
        obtain ⟨nz, hnz⟩ : ∃ n, c.calls.length = n := ⟨_, rfl⟩
        obtain ⟨mz, hmz⟩ : ∃ n, c.rs.length = n := ⟨_, rfl⟩
        have HNZ := Lib.hid (And.intro hnz hmz)
        have hmnz : mz ≤ nz := by rw [← hnz, ← hmz]; exact HGZ.out.m
        clear hnz hmz
        obtain ⟨pk, hpk⟩ : ∃ x, c.poke = x := ⟨_, rfl⟩
        have HPK := Lib.hid hpk
        obtain ⟨pf, pt, pd⟩ := pk
        clear hpk
        by_cases hz : mz < nz
        · have HPB := Lib.hid (show c.pokeB = true by unfold Cst.pokeB; exact decide_eq_true (by rw [HNZ.out.1, HNZ.out.2]; exact hz))
          have f1 : (0 : Int) < (nz : Int) - (mz : Int) := by omega
          have f2 : decide ((0 : Int) < (nz : Int) - (mz : Int)) = true := decide_eq_true f1
          have f3 : (mz : Int) < (nz : Int) := by omega
          have f4 : ¬ nz ≤ mz := by omega
          have f5 : decide (mz < nz) = true := decide_eq_true hz
          go_upto_region 21 with (go_at_call 12; refine (poke_sep HT.out HGZ.out).mono ?_; rw [HPK.out, HPB.out]; unfold Let.cs; simp only; rintro e v1 ⟨rfl, hS⟩; have HT := Lib.hid (hS.alloc (.cells #[.int .i64 pf, .int .i64 pt, .string pd] tLt)); clear hS)
          go_wp2_with (go_at_call 20; refine (left_sep HT.out HGZ.out).mono ?_; simp only [HNZ.out.1, HNZ.out.2]; rintro e v2 ⟨rfl, hS⟩; have HT := Lib.hid hS; clear hS)
          go_roundg (101 - (k + 1))
          case measure => omega
          case rel => exact ⟨k + 1, _, c, by push_cast; rfl, by omega, rfl, HPZ.out, HGZ.out, HT.out.d2.d2⟩
        · have HPB := Lib.hid (show c.pokeB = false by unfold Cst.pokeB; exact decide_eq_false (by rw [HNZ.out.1, HNZ.out.2]; exact hz))
          have f1 : ¬ (0 : Int) < (nz : Int) - (mz : Int) := by omega
          have f2 : decide ((0 : Int) < (nz : Int) - (mz : Int)) = false := decide_eq_false f1
          have f3 : ¬ (mz : Int) < (nz : Int) := by omega
          have f4 : nz ≤ mz := by omega
          have f5 : decide (mz < nz) = false := decide_eq_false hz
          go_upto_region 21 with (go_at_call 12; refine (poke_sep HT.out HGZ.out).mono ?_; rw [HPK.out, HPB.out]; unfold Let.cs; simp only; rintro e v1 ⟨rfl, hS⟩; have HT := Lib.hid (hS.alloc (.cells #[.int .i64 pf, .int .i64 pt, .string pd] tLt)); clear hS)
          go_wp2_with (go_at_call 20; refine (left_sep HT.out HGZ.out).mono ?_; simp only [HNZ.out.1, HNZ.out.2]; rintro e v2 ⟨rfl, hS⟩; have HT := Lib.hid hS; clear hS)
          go_roundg (101 - (k + 1))
          case measure => omega
          case rel => exact ⟨k + 1, _, c, by push_cast; rfl, by omega, rfl, HPZ.out, HGZ.out, HT.out.d2.d2⟩
end Go.Proofs.Ytodjmeodcmbdoaa
