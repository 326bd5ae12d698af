/- The walk of the law ClientOnce: it returns true. No condition but the row's own. -/
import Derived.Test.YtodjmeodcmbdoaaCliL5
import Derived.Test.YtodjmeodcmbdoaaMapS
set_option linter.unusedVariables false
set_option linter.unusedSimpArgs false
namespace Go.Proofs.Ytodjmeodcmbdoaa
open Go.RowKit Go.Maps
def St (c : Cst) : Prop := onR c.calls c.rs = c.rs
theorem St.fwd {c : Cst} (h : c.rs.length ≤ c.calls.length) : St c.fwd := onR_idem h
theorem St.take {c : Cst} (h : St c) (g : Good c) (x : Let) : St (c.take x) := by
  unfold Cst.take
  split
  · rename_i hh
    split
    · split
      · exact h
      · exact h
    · split
      · exact h
      · refine St.fwd ?_
        have := hh.2.2.2.2.1
        simp only [Cst.put, List.length_append, List.length_cons, List.length_nil]
        omega
  · exact h
theorem St.may {c : Cst} (h : St c) (g : Good c) (hl : c.rs.length < c.calls.length) : mayM c.msg = true := by
  have h2 := onR_sent (calls := c.calls) (rs := c.rs) g.m (by rw [show onR c.calls c.rs = c.rs from h]; exact hl)
  unfold Cst.msg
  rw [Cst.now_get hl]
  simpa only [show onR c.calls c.rs = c.rs from h] using h2
theorem take_calls (c : Cst) (x : Let) : (c.take x).calls = c.calls := by
  unfold Cst.take
  split
  · split
    · split <;> rfl
    · split <;> rfl
  · rfl
theorem take_rs {c : Cst} (g : Good c) (x : Let) : (c.takeB x = false → (c.take x).rs = c.rs) ∧ (c.takeB x = true → ∃ t, (c.take x).rs = c.rs ++ ⟨(dMsg x.body).er, (dMsg x.body).s⟩ :: t ∧ (dMsg x.body).kind = 15 ∧ (dMsg x.body).c = (c.rs.length : Int) + 1) := by
  by_cases hh : c.hits x
  · by_cases h1 : (dMsg x.body).er = 20
    · have e : c.takeB x = false := by unfold Cst.takeB; rw [h1]; simp
      refine ⟨fun _ => ?_, fun h => (by rw [e] at h; cases h)⟩
      unfold Cst.take
      rw [if_pos hh, if_pos h1]
      split <;> rfl
    · by_cases h2 : (dMsg x.body).er = 21 ∨ (dMsg x.body).er = 25
      · have e : c.takeB x = false := by unfold Cst.takeB; rcases h2 with h2 | h2 <;> rw [h2] <;> simp
        refine ⟨fun _ => ?_, fun h => (by rw [e] at h; cases h)⟩
        unfold Cst.take
        rw [if_pos hh, if_neg h1, if_pos h2]
      · have e : c.takeB x = true := by
          unfold Cst.takeB
          rw [decide_eq_true hh, decide_eq_false h1, decide_eq_false (fun h => h2 (.inl h)), decide_eq_false (fun h => h2 (.inr h))]
          rfl
        refine ⟨fun h => (by rw [e] at h; cases h), fun _ => ?_⟩
        have hl := hh.2.2.2.2.1
        obtain ⟨t, ht, _⟩ := onR_pre (calls := c.calls) (rs := c.rs ++ [⟨(dMsg x.body).er, (dMsg x.body).s⟩]) (by simp only [List.length_append, List.length_cons, List.length_nil]; omega)
        refine ⟨t, ?_, hh.2.2.2.1, hh.2.2.2.2.2⟩
        unfold Cst.take
        rw [if_pos hh, if_neg h1, if_neg h2]
        show onR c.calls (c.rs ++ [⟨(dMsg x.body).er, (dMsg x.body).s⟩]) = _
        rw [ht, List.append_assoc]
        rfl
  · obtain ⟨h1, h2⟩ := take_miss hh
    rw [h1, h2]
    exact ⟨fun _ => rfl, fun h => by cases h⟩
/-- What has been laid into the map of bodies. -/
def FI (cs : List Cal) (f : Int → Option ByteArray) : Prop := ∀ (i : Nat) s, f (i : Int) = some s → s = mOut (cMsg i ((cs[i]?).getD ⟨0, 0, noS⟩))
theorem FI.put {cs : List Cal} {f : Int → Option ByteArray} (h : FI cs f) (m : Nat) : FI cs (fun j => if j = (m : Int) then some (mOut (cMsg m ((cs[m]?).getD ⟨0, 0, noS⟩))) else f j) := by
  intro i s hs
  simp only at hs
  by_cases e : (i : Int) = (m : Int)
  · obtain rfl : i = m := by omega
    rw [if_pos rfl] at hs
    exact (Option.some.inj hs).symm
  · rw [if_neg e] at hs
    exact h i s hs
theorem Rd.pre {w : World} {A : Option Addr} {xs ys : List Value} (h : Rd w A (xs ++ ys)) : Rd w A xs := by
  intro hn
  obtain ⟨g, o, e, hc⟩ := h (by intro e; exact hn (List.append_eq_nil_iff.1 e).1)
  refine ⟨g, o, e, fun j v hv => hc j v ?_⟩
  rw [List.getElem?_append_left (List.getElem?_eq_some_iff.1 hv).1]
  exact hv
theorem take_pre {c : Cst} (g : Good c) (x : Let) : ∃ t, (c.take x).rs = c.rs ++ t := by
  obtain ⟨h1, h2⟩ := take_rs g x
  cases h : c.takeB x with
  | false => exact ⟨[], by rw [h1 h]; simp⟩
  | true =>
    obtain ⟨t, h3, _⟩ := h2 h
    exact ⟨_, h3⟩
set_option maxRecDepth 100000 in
set_option maxHeartbeats 4000000 in
theorem w_ClientOnce (a0 : Int) (a1 : Option Addr) (n1 c1 : Nat) (a2 : Option Addr) (n2 c2 : Nat) (w : World) (b0 : -9223372036854775808 ≤ a0 ∧ a0 ≤ 9223372036854775807) (b1 : Sh.Is w (.slice 32 (.pair (.int .i64) (.pair (.int .i64) (.pair .str .unit)))) [.slice a1 n1 c1]) (b2 : Sh.Is w (.slice 160 (.pair (.int .i64) (.pair (.int .i64) (.pair (.int .i64) (.pair (.pair (.int .i64) (.pair (.int .i64) (.pair (.int .i64) (.pair (.int .i64) (.pair (.int .i64) (.pair (.int .i64) (.pair (.int .i64) (.pair (.pair (.int .i64) (.pair (.int .i64) (.pair (.int .i64) (.pair (.int .i64) .unit)))) (.pair .str (.pair .str .unit)))))))))) (.pair .str .unit)))))) [.slice a2 n2 c2]) :
    Calls Try.prog 4 #[.int .i64 a0, .slice a1 n1 c1, .slice a2 n2 c2] w fun e w' => e = .returned (.bool true) ∧ Below w.heap.size w w' := by
  obtain ⟨cs, hcl, hca, hcr, hcn⟩ := is_calls b1
  obtain ⟨la, hal, har, hab⟩ := is_acts b2
  have HCL := Lib.hid hcl; have HCR := Lib.hid hcr; have HCA := Lib.hid hca; have HAL := Lib.hid hal; have HAR := Lib.hid har
  clear b1 b2 hcl hcr hca hal har
  go_enter Try.func4, Try.ntmps4
  go_wp2_with fail
  refine (awake_any _).mono ?_
  rintro e w1 ⟨rfl, hB1⟩
  have HS := Lib.hid ((Sep.nil w).step hB1)
  clear hB1
  go_wp2_with fail
  refine (large_any cs la a1 a2 n1 n2 c1 c2 w1 HCL.out HAL.out (HCR.out.below HS.out.bel) (HAR.out.below HS.out.bel) hab).mono ?_
  rintro e w2 ⟨r, rfl, hw, hlg⟩
  rw [hw]
  clear hw w2
  cases r
  rotate_left
  · clear hlg
    go_wp2_with fail
    go_ret
    exact ⟨rfl, HS.out.bel⟩
  obtain ⟨hn1100, hlg⟩ := hlg rfl
  have HLG := Lib.hid hlg
  clear hlg
  cases hok : newOk a0 cs
  · have HK := Lib.hid hok
    clear hok
    go_wp2_with (go_at_call 10; refine (cnew_no HS.out a0 cs a1 n1 c1 HCL.out HK.out).mono ?_; rintro e w3 ⟨rfl, hw⟩; rw [hw]; clear hw)
    go_ret
    exact ⟨rfl, HS.out.bel⟩
  have HK := Lib.hid hok
  have HGN := Lib.hid (Good.new hok)
  have HC0 := Lib.hid (show (newC a0 cs).place = a0 ∧ (newC a0 cs).calls = cs ∧ St (newC a0 cs) from ⟨rfl, rfl, St.fwd (Nat.zero_le _)⟩)
  clear hok
  go_upto_region 8 with (go_at_call 10; refine (cnew_yes HS.out a0 cs a1 n1 c1 HCL.out (HCR.out.below HS.out.bel) HCA.out HK.out).mono ?_; rintro e w3 ⟨b, cv, rv, rfl, hs⟩; have HS := Lib.hid hs; clear hs)
  generalize newC a0 cs = C0 at *
  clear HK
  have hmm := @run_makeMap Try.prog
  have HS := Lib.hid ((HS.out.newMap (b := w3.heap.size) rfl).sw)
  go_upto_region 9 with fail
  generalize w3.alloc (.map #[] 0) = w4 at *
  generalize w3.heap.size = bm at *
  clear hmm
  go_wp2_with fail
  go_loopg [9] 101 (fun gk s9 wr => ∃ (k : Nat) (rv : Value) (c : Cst) (q : Nat) (f : Int → Option ByteArray), s9 = .int .i64 (k : Int) ∧ k ≤ 100 ∧ gk = 101 - k ∧ c.place = a0 ∧ c.calls = cs ∧ St c ∧ Good c ∧ q ≤ k ∧ FI cs f ∧ Sep w wr [tCli tCl b cv rv c, tMap bm q f])
  case atStart => exact ⟨0, _, C0, 0, _, rfl, by decide, rfl, HC0.out.1, HC0.out.2.1, HC0.out.2.2, HGN.out, Nat.le_refl _, fun i s h => (by cases h), HS.out⟩
  case round =>
  clear HS HGN HC0
  obtain ⟨k, rv, c, q, f, rfl, hk, hgk, hpl, hca, hst, hgood, hqk, hfi, hs⟩ := hrel
  have HS := Lib.hid hs
  have HGD := Lib.hid hgood
  have HPL := Lib.hid (And.intro hpl (And.intro hca hst))
  have HFI := Lib.hid hfi
  clear hs hgood hpl hca hst hfi
  by_cases q1 : k < n2
  case neg =>
    have q1' : decide ((k : Int) < (n2 : Int)) = false := by simp; omega
    have q1n : ¬ ((k : Int) < (n2 : Int)) := by omega
    go_wp2_with fail
    go_ret
    exact ⟨rfl, HS.out.bel⟩
  have q1' : decide ((k : Int) < (n2 : Int)) = true := by simp; omega
  have i1 : (k : Int) < (n2 : Int) := by omega
  by_cases q2 : k < 100
  case neg =>
    have q2' : decide ((k : Int) < 100) = false := by simp; omega
    go_wp2_with fail
    go_ret
    exact ⟨rfl, HS.out.bel⟩
  have q2' : decide ((k : Int) < 100) = true := by simp; omega
  have i0 : (0 : Int) ≤ (k : Int) := by omega
  have HX := Lib.hid (List.getElem?_eq_getElem (l := la) (i := k) (by rw [HAL.out]; exact q1))
  generalize la[k]'(by rw [HAL.out]; exact q1) = x at *
  have HXB := Lib.hid (Ac.body (HLG.out k x q2 HX.out))
  obtain ⟨gb, go, rfl, hu⟩ := (HAR.out.below HS.out.bel).act k x HX.out
  have qq := (show World.rangeAt wr gb (go + k * 17) x.cs.toList from hu)
  clear hu
  obtain ⟨g8, hg8⟩ : ∃ g, wr.heap.size = g := ⟨_, rfl⟩
  have HT := Lib.hid ((HS.out.newBlk #[.int .i64 0, .int .i64 0, .int .i64 0, .int .i64 0, .int .i64 0, .int .i64 0, .int .i64 0, .int .i64 0, .int .i64 0, .int .i64 0, .int .i64 0, .int .i64 0, .int .i64 0, .int .i64 0, .string { data := #[] }, .string { data := #[] }, .string { data := #[] }] tAc hg8).sw)
  have HG8 := Lib.hid hg8
  clear hg8
  go_upto_region 12 with fail
  refine wp_region_lit (l := [_, _, _, _, _, _]) ?_
  iterate 3 (refine wpList_plain rfl fun _ hK => ?_; go_simp; refine hK _ _ ?_)
  refine loadMid _ rfl (.tmp 47) rfl rfl qq Try.underlying37 rfl infoAc ?_
  refine wpList_plain rfl fun _ hK => ?_
  go_simp
  rw [HG8.out]
  refine hK _ _ ?_
  refine storeR x.cs (show Blk _ g8 #[.int .i64 0, .int .i64 0, .int .i64 0, .int .i64 0, .int .i64 0, .int .i64 0, .int .i64 0, .int .i64 0, .int .i64 0, .int .i64 0, .int .i64 0, .int .i64 0, .int .i64 0, .int .i64 0, .string { data := #[] }, .string { data := #[] }, .string { data := #[] }] tAc from HT.out.h2) rfl infoAc (ac1 x) rfl (.tmp 10) (.tmp 48) rfl rfl rfl ?_
  intro W hb8 hu8
  have HT := Lib.hid (HT.out.sw.put hb8 hu8).sw
  clear hb8 hu8 qq HS HG8
  have hw1 : IntKind.i64.wrap ((k : Int) + 1) = (k : Int) + 1 := IntWalk.i64_in _ (by omega)
  obtain ⟨n, hn⟩ : ∃ n, c.calls.length = n := ⟨_, rfl⟩
  obtain ⟨m, hm⟩ : ∃ n, c.rs.length = n := ⟨_, rfl⟩
  have HN := Lib.hid (And.intro hn hm)
  have hmn : m ≤ n := by rw [← hn, ← hm]; exact HGD.out.m
  have hn1 : n ≤ 1000 := by rw [← hn]; exact HGD.out.n
  have HN1 := Lib.hid (show n = n1 by rw [← hn, HPL.out.2.1]; exact HCL.out)
  clear hn hm
  go_upto_region 14 with (go_at_call 18; refine (results_sep HT.out HGD.out).mono ?_; simp only [HN.out.2]; rintro e v1 ⟨A3, q3, rfl, hS⟩; have HT := Lib.hid hS.sw; clear hS)
  have d0 : v1.cell? ⟨g8, 0, none⟩ = some (.int .i64 x.kind) := (show Blk v1 g8 x.cs tAc from HT.out.h3).cell 0
  generalize hxk : x.kind = xk at *
  clear hxk
  go_upto_block 2 with fail
  clear d0
  obtain ⟨R0, hR0⟩ : ∃ r, c.rs = r := ⟨_, rfl⟩
  have HR0 := Lib.hid hR0
  rw [hR0] at HT
  clear hR0
  go_cut [] (fun wx => ∃ (rv : Value) (c' : Cst) (q' : Nat) (f' : Int → Option ByteArray), c'.place = a0 ∧ c'.calls = cs ∧ St c' ∧ Good c' ∧ q' ≤ k + 1 ∧ FI cs f' ∧ (∃ t, c'.rs = R0 ++ t) ∧ Sep w wx [tCli tCl b cv rv c', tMap bm q' f', tOwn tRs 2 (.slice A3 m q3) m (eRs.fl R0)])
  case first =>
    by_cases hk0 : xk = 0
    · have p0 : (xk == 0) = true := by simp [hk0]
      as_aux_lemma =>
        clear hk0
        obtain ⟨pk, hpk⟩ : ∃ y, c.poke = y := ⟨_, rfl⟩
        obtain ⟨pb, hpb⟩ : ∃ y, c.pokeB = y := ⟨_, rfl⟩
        obtain ⟨nd, hnd⟩ : ∃ y, c.node = y := ⟨_, rfl⟩
        have HPK := Lib.hid (And.intro hpk hpb)
        have HND := Lib.hid hnd
        obtain ⟨pf, pt, pd⟩ := pk
        clear hpk hpb hnd
        go_upto_region 17 with (go_at_call 12; refine (poke_sep HT.out HGD.out).mono ?_; rw [HPK.out.1, HPK.out.2]; unfold Let.cs; simp only; rintro e v2 ⟨rfl, hS⟩; have HT := Lib.hid (hS.newBlk #[.int .i64 pf, .int .i64 pt, .string pd] tLt (g := v2.heap.size) rfl); clear hS)
        generalize v2.alloc (.cells #[.int .i64 pf, .int .i64 pt, .string pd] tLt) = v3 at *
        generalize v2.heap.size = gL at *
        by_cases hz : m < n
        · obtain rfl : pb = true := by rw [← HPK.out.2]; unfold Cst.pokeB; exact decide_eq_true (by rw [HN.out.1, HN.out.2]; exact hz)
          have hpk := HPK.out.1
          unfold Cst.poke at hpk
          rw [if_pos (by rw [HN.out.1, HN.out.2]; exact hz)] at hpk
          simp only [Let.mk.injEq] at hpk
          obtain ⟨h1, h2, h3⟩ := hpk
          rw [HPL.out.1] at h1
          rw [HND.out] at h2
          subst h1; subst h2
          have hmay := HPL.out.2.2.may HGD.out (by rw [HN.out.1, HN.out.2]; exact hz)
          have HPD := Lib.hid (show pd.size ≤ 65536 by rw [← h3]; have := (mOut_size hmay).1; omega)
          obtain ⟨hd1, hd2⟩ := mOut_dec hmay
          rw [h3] at hd1 hd2
          have HFM := Lib.hid (show ∀ s', f (m : Int) = some s' → s' = pd from fun s' hs' => by
            rw [HFI.out m s' hs', ← h3]
            unfold Cst.msg Cst.now
            rw [HPL.out.2.1, HN.out.2])
          have HFP := Lib.hid (show FI cs (fun j => if j = (m : Int) then some pd else f j) from by
            have := HFI.out.put m
            rwa [show mOut (cMsg m ((cs[m]?).getD ⟨0, 0, noS⟩)) = pd by
              rw [← h3]
              unfold Cst.msg Cst.now
              rw [HPL.out.2.1, HN.out.2]] at this)
          obtain ⟨m0, hm0⟩ : ∃ m0, c.msg = m0 := ⟨_, rfl⟩
          have hc1 : m0.c = (m : Int) + 1 := by rw [← hm0]; show ((c.rs.length : Nat) : Int) + 1 = _; rw [HN.out.2]
          rw [hm0] at hd1
          have HD := Lib.hid (And.intro hd1 hd2)
          clear hd1 hd2 hm0 h3 hmay
          obtain ⟨y0, y1, y2, y3, y4, y5, y6, y7, y8, y9, y10, sa, sb⟩ := m0
          simp only at hc1
          have f0 : (0 : Int) < (n : Int) - (m : Int) := by omega
          have f1 : decide ((0 : Int) < (n : Int) - (m : Int)) = true := decide_eq_true f0
          have f3 : (m : Int) < (n : Int) := by omega
          have f4 : ¬ n ≤ m := by omega
          have f5 : decide (m < n) = true := decide_eq_true hz
          have f6 : (y3 != (m : Int) + 1) = false := by rw [hc1]; simp
          have hw2 : IntKind.i64.wrap ((m : Int) + 1) = (m : Int) + 1 := IntWalk.i64_in _ (by omega)
          clear hc1
          have HCS : Hid (∀ w', Sep w w' [tBlk gL #[.int .i64 a0, .int .i64 nd, .string pd] tLt, tCli tCl b cv rv c, tOwn tRs 2 (.slice A3 m q3) m (eRs.fl R0), tBlk g8 x.cs tAc, tMap bm q f] → w'.cell? ⟨gL, 0, none⟩ = some (.int .i64 a0) ∧ w'.cell? ⟨gL, 1, none⟩ = some (.int .i64 nd)) := Lib.hid (fun w' h => ⟨(show Blk w' gL _ tLt from h.hd).cell 0, (show Blk w' gL _ tLt from h.hd).cell 1⟩)
          have HT := Lib.hid HT.out.drew
          refine wp_region_L (fun w' => w'.cell? ⟨gL, 0, none⟩ = some (.int .i64 a0) ∧ w'.cell? ⟨gL, 1, none⟩ = some (.int .i64 nd)) 21 (by kernel_rfl) (HCS.out _ HT.out) (fun hHeld => ?_)
          refine reg_take (i := 0) (d := 60) (v := ?_) [] rfl rfl (by kernel_rfl) (by kernel_rfl) (fun _ _ _ h => h) (Or.inl ⟨by rfl, ?_⟩) (by assumption) ?_
          rotate_left
          · (intro w hSw; (try dsimp only at hSw); go_simp; first | done | with_reducible rfl)
          try simp only [List.setIfInBounds_toArray, List.set_cons_zero, List.set_cons_succ]
          refine reg_take (i := 1) (d := 61) (v := ?_) [] rfl rfl (by kernel_rfl) (by kernel_rfl) (fun _ _ _ h => h) (Or.inl ⟨by rfl, ?_⟩) (by assumption) ?_
          rotate_left
          · (intro w hSw; (try dsimp only at hSw); go_simp; first | done | with_reducible rfl)
          try simp only [List.setIfInBounds_toArray, List.set_cons_zero, List.set_cons_succ]
          refine wpAnyL_ready (rs := [2]) (by kernel_rfl) rfl ?_
          refine (AllL.cons rfl (fun K hK => ?_) AllL.nil)
          go_simp
          go_at_call 20
          refine (left_sep HT.out.sw HGD.out).mono ?_
          rw [HN.out.1, HN.out.2]
          rintro e5 w5 ⟨rfl, hS⟩
          have HT := Lib.hid hS.sw
          clear hS
          go_simp
          refine hK.out _ _ (HCS.out _ HT.out) (fun hHeld => ?_)
          try simp only [List.setIfInBounds_toArray, List.set_cons_zero, List.set_cons_succ]
          refine reg_take (i := 3) (d := 63) (v := ?_) [] rfl rfl (by kernel_rfl) (by kernel_rfl) (fun _ _ _ h => h) (Or.inl ⟨by rfl, ?_⟩) (by assumption) ?_
          rotate_left
          · (intro w hSw; (try dsimp only at hSw); go_simp; first | done | with_reducible rfl)
          try simp only [List.setIfInBounds_toArray, List.set_cons_zero, List.set_cons_succ]
          refine reg_take (i := 4) (d := 64) (v := ?_) [] rfl rfl (by kernel_rfl) (by kernel_rfl) (fun _ _ _ h => h) (Or.inl ⟨by rfl, ?_⟩) (by assumption) ?_
          rotate_left
          · (intro w hSw; (try dsimp only at hSw); go_simp; first | done | with_reducible rfl)
          try simp only [List.setIfInBounds_toArray, List.set_cons_zero, List.set_cons_succ]
          refine reg_take (i := 5) (d := 65) (v := ?_) [] rfl rfl (by kernel_rfl) (by kernel_rfl) (fun _ _ _ h => h) (Or.inl ⟨by rfl, ?_⟩) (by assumption) ?_
          rotate_left
          · (intro w hSw; (try dsimp only at hSw); go_simp; first | done | with_reducible rfl)
          try simp only [List.setIfInBounds_toArray, List.set_cons_zero, List.set_cons_succ]
          refine reg_take (i := 6) (d := 66) (v := ?_) [] rfl rfl (by kernel_rfl) (by kernel_rfl) (fun _ _ _ h => h) (Or.inl ⟨by rfl, ?_⟩) (by assumption) ?_
          rotate_left
          · (intro w hSw; (try dsimp only at hSw); go_simp; first | done | with_reducible rfl)
          try simp only [List.setIfInBounds_toArray, List.set_cons_zero, List.set_cons_succ]
          refine reg_take (i := 7) (d := 67) (v := ?_) [] rfl rfl (by kernel_rfl) (by kernel_rfl) (fun _ _ _ h => h) (Or.inl ⟨by rfl, ?_⟩) (by assumption) ?_
          rotate_left
          · (intro w hSw; (try dsimp only at hSw); go_simp; first | done | with_reducible rfl)
          try simp only [List.setIfInBounds_toArray, List.set_cons_zero, List.set_cons_succ]
          refine reg_take (i := 8) (d := 68) (v := ?_) [] rfl rfl (by kernel_rfl) (by kernel_rfl) (fun _ _ _ h => h) (Or.inl ⟨by rfl, ?_⟩) (by assumption) ?_
          rotate_left
          · (intro w hSw; (try dsimp only at hSw); go_simp; first | done | with_reducible rfl)
          try simp only [List.setIfInBounds_toArray, List.set_cons_zero, List.set_cons_succ]
          refine reg_take (i := 9) (d := 69) (v := ?_) [] rfl rfl (by kernel_rfl) (by kernel_rfl) (fun _ _ _ h => h) (Or.inl ⟨by rfl, ?_⟩) (by assumption) ?_
          rotate_left
          · (intro w hSw; (try dsimp only at hSw); go_simp; first | done | with_reducible rfl)
          try simp only [List.setIfInBounds_toArray, List.set_cons_zero, List.set_cons_succ]
          refine reg_take (i := 10) (d := 70) (v := ?_) [] rfl rfl (by kernel_rfl) (by kernel_rfl) (fun _ _ _ h => h) (Or.inl ⟨by rfl, ?_⟩) (by assumption) ?_
          rotate_left
          · (intro w hSw; (try dsimp only at hSw); go_simp; first | done | with_reducible rfl)
          try simp only [List.setIfInBounds_toArray, List.set_cons_zero, List.set_cons_succ]
          refine reg_take (i := 11) (d := 71) (v := ?_) [] rfl rfl (by kernel_rfl) (by kernel_rfl) (fun _ _ _ h => h) (Or.inl ⟨by rfl, ?_⟩) (by assumption) ?_
          rotate_left
          · (intro w hSw; (try dsimp only at hSw); go_simp; first | done | with_reducible rfl)
          try simp only [List.setIfInBounds_toArray, List.set_cons_zero, List.set_cons_succ]
          refine reg_take (i := 12) (d := 72) (v := ?_) [] rfl rfl (by kernel_rfl) (by kernel_rfl) (fun _ _ _ h => h) (Or.inl ⟨by rfl, ?_⟩) (by assumption) ?_
          rotate_left
          · (intro w hSw; (try dsimp only at hSw); go_simp; first | done | with_reducible rfl)
          try simp only [List.setIfInBounds_toArray, List.set_cons_zero, List.set_cons_succ]
          refine reg_take (i := 13) (d := 73) (v := ?_) [] rfl rfl (by kernel_rfl) (by kernel_rfl) (fun _ _ _ h => h) (Or.inl ⟨by rfl, ?_⟩) (by assumption) ?_
          rotate_left
          · (intro w hSw; (try dsimp only at hSw); go_simp; first | done | with_reducible rfl)
          try simp only [List.setIfInBounds_toArray, List.set_cons_zero, List.set_cons_succ]
          refine reg_take (i := 14) (d := 74) (v := ?_) [] rfl rfl (by kernel_rfl) (by kernel_rfl) (fun _ _ _ h => h) (Or.inl ⟨by rfl, ?_⟩) (by assumption) ?_
          rotate_left
          · (intro w hSw; (try dsimp only at hSw); go_simp; first | done | with_reducible rfl)
          try simp only [List.setIfInBounds_toArray, List.set_cons_zero, List.set_cons_succ]
          refine reg_take (i := 15) (d := 75) (v := ?_) [] rfl rfl (by kernel_rfl) (by kernel_rfl) (fun _ _ _ h => h) (Or.inl ⟨by rfl, ?_⟩) (by assumption) ?_
          rotate_left
          · (intro w hSw; (try dsimp only at hSw); go_simp; first | done | with_reducible rfl)
          try simp only [List.setIfInBounds_toArray, List.set_cons_zero, List.set_cons_succ]
          refine wpAnyL_ready (rs := [16]) (by kernel_rfl) rfl ?_
          refine (AllL.cons rfl (fun K hK => ?_) AllL.nil)
          go_simp
          go_at_call 22
          refine (node_sep HT.out.sw).mono ?_
          rw [HND.out]
          rintro e6 w6 ⟨rfl, hw⟩
          rw [hw]
          clear hw w6
          go_simp
          refine hK.out _ _ (HCS.out _ HT.out) (fun hHeld => ?_)
          try simp only [List.setIfInBounds_toArray, List.set_cons_zero, List.set_cons_succ]
          refine reg_take (i := 17) (d := 77) (v := ?_) [] rfl rfl (by kernel_rfl) (by kernel_rfl) (fun _ _ _ h => h) (Or.inl ⟨by rfl, ?_⟩) (by assumption) ?_
          rotate_left
          · (intro w hSw; (try dsimp only at hSw); go_simp; first | done | with_reducible rfl)
          try simp only [List.setIfInBounds_toArray, List.set_cons_zero, List.set_cons_succ]
          refine reg_take (i := 18) (d := 78) (v := ?_) [] rfl rfl (by kernel_rfl) (by kernel_rfl) (fun _ _ _ h => h) (Or.inl ⟨by rfl, ?_⟩) (by assumption) ?_
          rotate_left
          · (intro w hSw; (try dsimp only at hSw); go_simp; first | done | with_reducible rfl)
          try simp only [List.setIfInBounds_toArray, List.set_cons_zero, List.set_cons_succ]
          refine reg_take (i := 19) (d := 79) (v := ?_) [] rfl rfl (by kernel_rfl) (by kernel_rfl) (fun _ _ _ h => h) (Or.inl ⟨by rfl, ?_⟩) (by assumption) ?_
          rotate_left
          · (intro w hSw; (try dsimp only at hSw); go_simp; first | done | with_reducible rfl)
          try simp only [List.setIfInBounds_toArray, List.set_cons_zero, List.set_cons_succ]
          refine reg_take (i := 20) (d := 80) (v := ?_) [] rfl rfl (by kernel_rfl) (by kernel_rfl) (fun _ _ _ h => h) (Or.inl ⟨by rfl, ?_⟩) (by assumption) ?_
          rotate_left
          · (intro w hSw; (try dsimp only at hSw); go_simp; first | done | with_reducible rfl)
          try simp only [List.setIfInBounds_toArray, List.set_cons_zero, List.set_cons_succ]
          refine wpAnyL_done (by kernel_rfl) ?_ _
          have l2 : w5.cell? ⟨gL, 2, none⟩ = some (.string pd) := (show Blk w5 gL _ tLt from HT.out.hd).cell 2
          go_upto_region 22 with (go_at_call 23; refine (mdecode_any pd _ HPD.out).mono ?_; rw [HD.out.1, HD.out.2]; unfold Msg.cs; simp only; rintro e v8 ⟨rfl, hB⟩; have HT := Lib.hid ((HT.out.step hB).newBlk #[.int .i64 y0, .int .i64 y1, .int .i64 y2, .int .i64 y3, .int .i64 y4, .int .i64 y5, .int .i64 y6, .int .i64 y7, .int .i64 y8, .int .i64 y9, .int .i64 y10, .string sa, .string sb] tMsg (g := v8.heap.size) rfl); clear hB)
          clear l2
          generalize v8.alloc (.cells #[.int .i64 y0, .int .i64 y1, .int .i64 y2, .int .i64 y3, .int .i64 y4, .int .i64 y5, .int .i64 y6, .int .i64 y7, .int .i64 y8, .int .i64 y9, .int .i64 y10, .string sa, .string sb] tMsg) = v9 at *
          generalize v8.heap.size = gM at *
          obtain ⟨kn, hkn⟩ : ∃ x, (f (m : Int)).isSome = x := ⟨_, rfl⟩
          have HKN := Lib.hid hkn
          refine wp_region_lit (l := [_, _, _, _, _, _, _, _]) ?_
          iterate 2 (refine wpList_plain rfl fun _ hK => ?_; go_simp; refine hK _ _ ?_)
          refine map_look (show MapSt v9 bm q f from HT.out.tail.h5) rfl (.tmp 92) (.tmp 93) 53 rfl Try.underlying53 (zeroEs _) (m : Int) (by omega) rfl rfl ?_
          intro s hs
          rw [hkn]
          have HSK := Lib.hid (show kn = true → s = pd from fun h => by
            rw [h] at hkn
            obtain ⟨s', hs'⟩ := Option.isSome_iff_exists.1 hkn
            rw [hs s' hs']
            exact HFM.out s' hs')
          clear hs hkn
          have r3 : v9.cell? ⟨gM, 3, none⟩ = some (.int .i64 y3) := (show Blk v9 gM _ tMsg from HT.out.hd).cell 3
          have r2 : v9.cell? ⟨gL, 2, none⟩ = some (.string pd) := (show Blk v9 gL _ tLt from HT.out.h2).cell 2
          cases kn
          case' true => have hsp := HSK.out rfl; subst hsp
          all_goals (go_upto_region 25 with fail)
          all_goals clear r3
          all_goals (
            refine wp_region_lit (l := [_, _, _, _, _]) ?_
            iterate 4 (refine wpList_plain rfl fun _ hK => ?_; go_simp; refine hK _ _ ?_)
            refine map_put (show MapSt v9 bm q f from HT.out.tail.h5) (by unfold maxLen; omega) rfl (.tmp 115) (.tmp 116) (.tmp 118) 53 rfl Try.underlying53 (m : Int) (by omega) _ (by have := HPD.out; unfold maxLen; omega) rfl rfl rfl ?_
            intro w10 hm10 hu10
            have HT := Lib.hid ((HT.out.tail.tail.r4.mapPut hm10 hu10).sw.d4)
            clear hm10 hu10 r2
            go_wp2_with fail
            go_meet
            exact ⟨_, c, _, _, HPL.out.1, HPL.out.2.1, HPL.out.2.2, HGD.out, by omega, HFP.out, ⟨[], by rw [List.append_nil]; exact HR0.out⟩, HT.out⟩)
        · obtain rfl : pb = false := by rw [← HPK.out.2]; unfold Cst.pokeB; exact decide_eq_false (by rw [HN.out.1, HN.out.2]; exact hz)
          have f0 : ¬ (0 : Int) < (n : Int) - (m : Int) := by omega
          have f1 : decide ((0 : Int) < (n : Int) - (m : Int)) = false := decide_eq_false f0
          have f3 : ¬ (m : Int) < (n : Int) := by omega
          have f4 : n ≤ m := by omega
          have f5 : decide (m < n) = false := decide_eq_false hz
          have HCS : Hid (∀ w', Sep w w' [tBlk gL #[.int .i64 pf, .int .i64 pt, .string pd] tLt, tCli tCl b cv rv c, tOwn tRs 2 (.slice A3 m q3) m (eRs.fl R0), tBlk g8 x.cs tAc, tMap bm q f] → w'.cell? ⟨gL, 0, none⟩ = some (.int .i64 pf) ∧ w'.cell? ⟨gL, 1, none⟩ = some (.int .i64 pt)) := Lib.hid (fun w' h => ⟨(show Blk w' gL _ tLt from h.hd).cell 0, (show Blk w' gL _ tLt from h.hd).cell 1⟩)
          have HT := Lib.hid HT.out.drew
          refine wp_region_L (fun w' => w'.cell? ⟨gL, 0, none⟩ = some (.int .i64 pf) ∧ w'.cell? ⟨gL, 1, none⟩ = some (.int .i64 pt)) 21 (by kernel_rfl) (HCS.out _ HT.out) (fun hHeld => ?_)
          refine reg_take (i := 0) (d := 60) (v := ?_) [] rfl rfl (by kernel_rfl) (by kernel_rfl) (fun _ _ _ h => h) (Or.inl ⟨by rfl, ?_⟩) (by assumption) ?_
          rotate_left
          · (intro w hSw; (try dsimp only at hSw); go_simp; first | done | with_reducible rfl)
          try simp only [List.setIfInBounds_toArray, List.set_cons_zero, List.set_cons_succ]
          refine reg_take (i := 1) (d := 61) (v := ?_) [] rfl rfl (by kernel_rfl) (by kernel_rfl) (fun _ _ _ h => h) (Or.inl ⟨by rfl, ?_⟩) (by assumption) ?_
          rotate_left
          · (intro w hSw; (try dsimp only at hSw); go_simp; first | done | with_reducible rfl)
          try simp only [List.setIfInBounds_toArray, List.set_cons_zero, List.set_cons_succ]
          refine wpAnyL_ready (rs := [2]) (by kernel_rfl) rfl ?_
          refine (AllL.cons rfl (fun K hK => ?_) AllL.nil)
          go_simp
          go_at_call 20
          refine (left_sep HT.out.sw HGD.out).mono ?_
          rw [HN.out.1, HN.out.2]
          rintro e5 w5 ⟨rfl, hS⟩
          have HT := Lib.hid hS.sw
          clear hS
          go_simp
          refine hK.out _ _ (HCS.out _ HT.out) (fun hHeld => ?_)
          try simp only [List.setIfInBounds_toArray, List.set_cons_zero, List.set_cons_succ]
          refine reg_take (i := 3) (d := 63) (v := ?_) [] rfl rfl (by kernel_rfl) (by kernel_rfl) (fun _ _ _ h => h) (Or.inl ⟨by rfl, ?_⟩) (by assumption) ?_
          rotate_left
          · (intro w hSw; (try dsimp only at hSw); go_simp; first | done | with_reducible rfl)
          try simp only [List.setIfInBounds_toArray, List.set_cons_zero, List.set_cons_succ]
          refine reg_take (i := 4) (d := 64) (v := ?_) [] rfl rfl (by kernel_rfl) (by kernel_rfl) (fun _ _ _ h => h) (Or.inl ⟨by rfl, ?_⟩) (by assumption) ?_
          rotate_left
          · (intro w hSw; (try dsimp only at hSw); go_simp; first | done | with_reducible rfl)
          try simp only [List.setIfInBounds_toArray, List.set_cons_zero, List.set_cons_succ]
          refine reg_take (i := 5) (d := 65) (v := ?_) [] rfl rfl (by kernel_rfl) (by kernel_rfl) (fun _ _ _ h => h) (Or.inl ⟨by rfl, ?_⟩) (by assumption) ?_
          rotate_left
          · (intro w hSw; (try dsimp only at hSw); go_simp; first | done | with_reducible rfl)
          try simp only [List.setIfInBounds_toArray, List.set_cons_zero, List.set_cons_succ]
          refine reg_take (i := 6) (d := 66) (v := ?_) [] rfl rfl (by kernel_rfl) (by kernel_rfl) (fun _ _ _ h => h) (Or.inl ⟨by rfl, ?_⟩) (by assumption) ?_
          rotate_left
          · (intro w hSw; (try dsimp only at hSw); go_simp; first | done | with_reducible rfl)
          try simp only [List.setIfInBounds_toArray, List.set_cons_zero, List.set_cons_succ]
          refine reg_take (i := 7) (d := 67) (v := ?_) [] rfl rfl (by kernel_rfl) (by kernel_rfl) (fun _ _ _ h => h) (Or.inl ⟨by rfl, ?_⟩) (by assumption) ?_
          rotate_left
          · (intro w hSw; (try dsimp only at hSw); go_simp; first | done | with_reducible rfl)
          try simp only [List.setIfInBounds_toArray, List.set_cons_zero, List.set_cons_succ]
          refine reg_take (i := 8) (d := 68) (v := undef) [] rfl rfl (by kernel_rfl) (by kernel_rfl) (fun _ _ _ h => h) (Or.inr ⟨by rfl, rfl⟩) (by assumption) ?_
          try simp only [List.setIfInBounds_toArray, List.set_cons_zero, List.set_cons_succ]
          refine reg_take (i := 9) (d := 69) (v := undef) [] rfl rfl (by kernel_rfl) (by kernel_rfl) (fun _ _ _ h => h) (Or.inr ⟨by rfl, rfl⟩) (by assumption) ?_
          try simp only [List.setIfInBounds_toArray, List.set_cons_zero, List.set_cons_succ]
          refine reg_take (i := 10) (d := 70) (v := undef) [] rfl rfl (by kernel_rfl) (by kernel_rfl) (fun _ _ _ h => h) (Or.inr ⟨by rfl, rfl⟩) (by assumption) ?_
          try simp only [List.setIfInBounds_toArray, List.set_cons_zero, List.set_cons_succ]
          refine reg_take (i := 11) (d := 71) (v := undef) [] rfl rfl (by kernel_rfl) (by kernel_rfl) (fun _ _ _ h => h) (Or.inr ⟨by rfl, rfl⟩) (by assumption) ?_
          try simp only [List.setIfInBounds_toArray, List.set_cons_zero, List.set_cons_succ]
          refine reg_take (i := 12) (d := 72) (v := undef) [] rfl rfl (by kernel_rfl) (by kernel_rfl) (fun _ _ _ h => h) (Or.inr ⟨by rfl, rfl⟩) (by assumption) ?_
          try simp only [List.setIfInBounds_toArray, List.set_cons_zero, List.set_cons_succ]
          refine reg_take (i := 13) (d := 73) (v := undef) [] rfl rfl (by kernel_rfl) (by kernel_rfl) (fun _ _ _ h => h) (Or.inr ⟨by rfl, rfl⟩) (by assumption) ?_
          try simp only [List.setIfInBounds_toArray, List.set_cons_zero, List.set_cons_succ]
          refine reg_take (i := 14) (d := 74) (v := undef) [] rfl rfl (by kernel_rfl) (by kernel_rfl) (fun _ _ _ h => h) (Or.inr ⟨by rfl, rfl⟩) (by assumption) ?_
          try simp only [List.setIfInBounds_toArray, List.set_cons_zero, List.set_cons_succ]
          refine reg_take (i := 15) (d := 75) (v := undef) [] rfl rfl (by kernel_rfl) (by kernel_rfl) (fun _ _ _ h => h) (Or.inr ⟨by rfl, rfl⟩) (by assumption) ?_
          try simp only [List.setIfInBounds_toArray, List.set_cons_zero, List.set_cons_succ]
          refine reg_take (i := 16) (d := 76) (v := undef) [] rfl rfl (by kernel_rfl) (by kernel_rfl) (fun _ _ _ h => h) (Or.inr ⟨by rfl, rfl⟩) (by assumption) ?_
          try simp only [List.setIfInBounds_toArray, List.set_cons_zero, List.set_cons_succ]
          refine reg_take (i := 17) (d := 77) (v := undef) [] rfl rfl (by kernel_rfl) (by kernel_rfl) (fun _ _ _ h => h) (Or.inr ⟨by rfl, rfl⟩) (by assumption) ?_
          try simp only [List.setIfInBounds_toArray, List.set_cons_zero, List.set_cons_succ]
          refine reg_take (i := 18) (d := 78) (v := undef) [] rfl rfl (by kernel_rfl) (by kernel_rfl) (fun _ _ _ h => h) (Or.inr ⟨by rfl, rfl⟩) (by assumption) ?_
          try simp only [List.setIfInBounds_toArray, List.set_cons_zero, List.set_cons_succ]
          refine reg_take (i := 19) (d := 79) (v := ?_) [] rfl rfl (by kernel_rfl) (by kernel_rfl) (fun _ _ _ h => h) (Or.inl ⟨by rfl, ?_⟩) (by assumption) ?_
          rotate_left
          · (intro w hSw; (try dsimp only at hSw); go_simp; first | done | with_reducible rfl)
          try simp only [List.setIfInBounds_toArray, List.set_cons_zero, List.set_cons_succ]
          refine reg_take (i := 20) (d := 80) (v := ?_) [] rfl rfl (by kernel_rfl) (by kernel_rfl) (fun _ _ _ h => h) (Or.inl ⟨by rfl, ?_⟩) (by assumption) ?_
          rotate_left
          · (intro w hSw; (try dsimp only at hSw); go_simp; first | done | with_reducible rfl)
          try simp only [List.setIfInBounds_toArray, List.set_cons_zero, List.set_cons_succ]
          refine wpAnyL_done (by kernel_rfl) ?_ _
          go_wp2_with fail
          go_meet
          exact ⟨_, c, _, _, HPL.out.1, HPL.out.2.1, HPL.out.2.2, HGD.out, by omega, HFI.out, ⟨[], by rw [List.append_nil]; exact HR0.out⟩, HT.out.tail.r4.sw.d4⟩
    have p0 : (xk == 0) = false := by simpa using hk0
    clear hk0
    by_cases hk1 : xk = 1
    · have p1 : (xk == 1) = true := by simp [hk1]
      as_aux_lemma =>
        clear hk1
        obtain ⟨lt, hlt⟩ : ∃ y, x.lt = y := ⟨_, rfl⟩
        have HLT := Lib.hid hlt
        have HXB := Lib.hid (show lt.body.size ≤ 65536 by rw [← hlt]; exact HXB.out)
        clear hlt
        obtain ⟨yf, yt, yb⟩ := lt
        obtain ⟨c', hc'⟩ : ∃ y, c.take ⟨yf, yt, yb⟩ = y := ⟨_, rfl⟩
        obtain ⟨tb, htb⟩ : ∃ y, c.takeB ⟨yf, yt, yb⟩ = y := ⟨_, rfl⟩
        have HTK := Lib.hid (And.intro hc' htb)
        have HGD2 := Lib.hid (show Good c' by rw [← hc']; exact HGD.out.take _)
        have HPL2 := Lib.hid (show c'.place = a0 ∧ c'.calls = cs ∧ St c' by rw [← hc']; exact ⟨by rw [take_place]; exact HPL.out.1, by rw [take_calls]; exact HPL.out.2.1, HPL.out.2.2.take HGD.out _⟩)
        have HRS := Lib.hid (take_rs HGD.out ⟨yf, yt, yb⟩)
        rw [hc', htb] at HRS
        obtain ⟨m', hm'⟩ : ∃ y, c'.rs.length = y := ⟨_, rfl⟩
        have HM := Lib.hid hm'
        clear hc' htb hm'
        go_upto_region 27 with fail
        refine wp_region_lit (l := [_, _, _, _, _]) ?_
        refine wpList_plain rfl fun _ hK => ?_
        go_simp
        refine hK _ _ ?_
        refine loadR _ (show Blk v1 g8 x.cs tAc from HT.out.h3) Try.underlying37 rfl infoAc rfl (.tmp 10) rfl rfl ?_
        go_upto_region 28 with (first
          | (go_at_call 15; refine (letter_any x _).mono ?_; rw [HLT.out]; rintro e v4 ⟨rfl, hB⟩; have HT := Lib.hid (HT.out.step hB); clear hB)
          | (go_at_call 14; refine (take_sep HT.out HGD.out ⟨yf, yt, yb⟩ HXB.out).mono ?_; rw [HTK.out.1, HTK.out.2]; rintro e v5 ⟨rfl, rv', hS⟩; have HT := Lib.hid hS; clear hS))
        go_upto_region 29 with (go_at_call 18; refine (results_sep HT.out HGD2.out).mono ?_; simp only [HM.out]; rintro e v6 ⟨A5, q5, rfl, hS⟩; have HT := Lib.hid hS; clear hS)
        cases tb
        · have hmm : m' = m := by rw [← HM.out, HRS.out.1 rfl]; exact HN.out.2
          subst hmm
          have e1 : ¬ (m' : Int) < (m' : Int) := by omega
          have e2 : decide ((m' : Int) < (m' : Int)) = false := decide_eq_false e1
          have HX := Lib.hid (HRS.out.1 rfl)
          go_wp2_with fail
          go_meet
          exact ⟨_, c', _, _, HPL2.out.1, HPL2.out.2.1, HPL2.out.2.2, HGD2.out, by omega, HFI.out, ⟨[], by rw [List.append_nil, HX.out]; exact HR0.out⟩, HT.out.tail.d3.r3.sw⟩
        · obtain ⟨t, hrs, hk15, hc1⟩ := HRS.out.2 rfl
          obtain ⟨m0, hm0⟩ : ∃ m0, dMsg yb = m0 := ⟨_, rfl⟩
          obtain ⟨er0, her0⟩ : ∃ m0, dEr yb = m0 := ⟨_, rfl⟩
          have HD := Lib.hid (And.intro hm0 her0)
          simp only [hm0] at hrs hk15 hc1
          obtain ⟨y0, y1, y2, y3, y4, y5, y6, y7, y8, y9, y10, sa, sb⟩ := m0
          simp only at hrs hk15 hc1
          rw [HN.out.2] at hc1
          clear hm0 her0
          have hlen : m < m' := by rw [← HM.out, hrs, List.length_append, List.length_cons, HN.out.2]; omega
          have hget : c'.rs[m]? = some ⟨y6, sa⟩ := by rw [hrs, List.getElem?_append_right (by rw [HN.out.2]; exact Nat.le_refl _), HN.out.2, Nat.sub_self]; rfl
          obtain ⟨ga, go5, rfl, u0, u1⟩ := HT.out.own.rd.res m ⟨y6, sa⟩ hget
          simp only at u0 u1
          have HPR := Lib.hid (show ∃ t, c'.rs = R0 ++ t from ⟨_, by rw [hrs, HR0.out]⟩)
          have e1 : (m : Int) < (m' : Int) := by omega
          have e2 : decide ((m : Int) < (m' : Int)) = true := decide_eq_true e1
          have e3 : (0 : Int) ≤ (m : Int) := by omega
          have hw2 : IntKind.i64.wrap ((m : Int) + 1) = (m : Int) + 1 := IntWalk.i64_in _ (by omega)
          have f1 : (y0 != 15) = false := by rw [hk15]; rfl
          have f2 : (y3 != (m : Int) + 1) = false := by rw [hc1]; simp
          have HGT := Lib.hid hget
          clear hrs hk15 hc1 hget
          go_upto_region 32 with fail
          have HU := Lib.hid HT.out.own.rd
          clear u0 u1
          have hfd : ∀ w, (Instr.field tLt (.agg #[.int .i64 yf, .int .i64 yt, .string yb]) 2).run Try.prog w = .ok (.string yb) w := fun w => by kernel_rfl
          refine wp_region_lit (l := [_, _, _, _, _, _, _, _, _, _]) ?_
          refine loadR _ (show Blk v6 g8 x.cs tAc from HT.out.h4) Try.underlying37 rfl infoAc rfl (.tmp 10) rfl rfl ?_
          go_upto_region 33 with (first
            | (go_at_call 15; refine (letter_any x _).mono ?_; rw [HLT.out]; unfold Let.cs; simp only; rintro e v7 ⟨rfl, hB⟩; have HT := Lib.hid (HT.out.step hB); clear hB)
            | (go_at_call 24; refine (rmdecode_any yb _ HXB.out).mono ?_; rw [HD.out.1, HD.out.2]; unfold Msg.cs; simp only; rintro e v8 ⟨rfl, hB⟩; have HT := Lib.hid ((HT.out.step hB).newBlk #[.int .i64 y0, .int .i64 y1, .int .i64 y2, .int .i64 y3, .int .i64 y4, .int .i64 y5, .int .i64 y6, .int .i64 y7, .int .i64 y8, .int .i64 y9, .int .i64 y10, .string sa, .string sb] tMsg (g := v8.heap.size) rfl); clear hB))
          generalize v8.alloc (.cells #[.int .i64 y0, .int .i64 y1, .int .i64 y2, .int .i64 y3, .int .i64 y4, .int .i64 y5, .int .i64 y6, .int .i64 y7, .int .i64 y8, .int .i64 y9, .int .i64 y10, .string sa, .string sb] tMsg) = v9 at *
          generalize v8.heap.size = gM at *
          have HT := Lib.hid HT.out.drew
          obtain ⟨ga2, go6, hA2, z0, z1⟩ := (show Rd v9.drew (some ⟨ga, go5, none⟩) (eRs.fl c'.rs) from (show Own _ tRs 2 (.slice (some ⟨ga, go5, none⟩) m' q5) m' (eRs.fl c'.rs) from HT.out.h2).rd).res m ⟨y6, sa⟩ HGT.out
          simp only [Option.some.injEq, Addr.mk.injEq, and_true] at hA2
          obtain ⟨rfl, rfl⟩ := hA2
          have HZ0 := Lib.hid z0
          have HZ1 := Lib.hid z1
          clear z0 z1
          have HC := Lib.hid (show (v9.drew.cell? ⟨gM, 0, none⟩ = some (.int .i64 y0) ∧ v9.drew.cell? ⟨gM, 3, none⟩ = some (.int .i64 y3) ∧ v9.drew.cell? ⟨gM, 6, none⟩ = some (.int .i64 y6) ∧ v9.drew.cell? ⟨gM, 11, none⟩ = some (.string sa) ∧ v9.drew.cell? ⟨ga, go5 + m * 2, none⟩ = some (.int .i64 y6) ∧ v9.drew.cell? ⟨ga, go5 + m * 2 + 1, none⟩ = some (.string sa)) from ⟨(show Blk _ gM _ tMsg from HT.out.hd).cell 0, (show Blk _ gM _ tMsg from HT.out.hd).cell 3, (show Blk _ gM _ tMsg from HT.out.hd).cell 6, (show Blk _ gM _ tMsg from HT.out.hd).cell 11, HZ0.out, HZ1.out⟩)
          refine wp_region_L (fun w' => w'.cell? ⟨gM, 0, none⟩ = some (.int .i64 y0) ∧ w'.cell? ⟨gM, 3, none⟩ = some (.int .i64 y3) ∧ w'.cell? ⟨gM, 6, none⟩ = some (.int .i64 y6) ∧ w'.cell? ⟨gM, 11, none⟩ = some (.string sa) ∧ w'.cell? ⟨ga, go5 + m * 2, none⟩ = some (.int .i64 y6) ∧ w'.cell? ⟨ga, go5 + m * 2 + 1, none⟩ = some (.string sa)) 24 (by kernel_rfl) HC.out (fun hHeld => ?_)
          refine reg_take (i := 0) (d := 142) (v := ?_) [] rfl rfl (by kernel_rfl) (by kernel_rfl) (fun _ _ _ h => h) (Or.inl ⟨by rfl, ?_⟩) (by assumption) ?_
          rotate_left
          · (intro w hSw; (try dsimp only at hSw); go_simp; first | done | with_reducible rfl)
          try simp only [List.setIfInBounds_toArray, List.set_cons_zero, List.set_cons_succ]
          refine reg_take (i := 1) (d := 143) (v := ?_) [] rfl rfl (by kernel_rfl) (by kernel_rfl) (fun _ _ _ h => h) (Or.inl ⟨by rfl, ?_⟩) (by assumption) ?_
          rotate_left
          · (intro w hSw; (try dsimp only at hSw); go_simp; first | done | with_reducible rfl)
          try simp only [List.setIfInBounds_toArray, List.set_cons_zero, List.set_cons_succ]
          refine reg_take (i := 2) (d := 144) (v := ?_) [] rfl rfl (by kernel_rfl) (by kernel_rfl) (fun _ _ _ h => h) (Or.inl ⟨by rfl, ?_⟩) (by assumption) ?_
          rotate_left
          · (intro w hSw; (try dsimp only at hSw); go_simp; first | done | with_reducible rfl)
          try simp only [List.setIfInBounds_toArray, List.set_cons_zero, List.set_cons_succ]
          refine reg_take (i := 3) (d := 145) (v := ?_) [] rfl rfl (by kernel_rfl) (by kernel_rfl) (fun _ _ _ h => h) (Or.inl ⟨by rfl, ?_⟩) (by assumption) ?_
          rotate_left
          · (intro w hSw; (try dsimp only at hSw); go_simp; first | done | with_reducible rfl)
          try simp only [List.setIfInBounds_toArray, List.set_cons_zero, List.set_cons_succ]
          refine reg_take (i := 4) (d := 146) (v := ?_) [] rfl rfl (by kernel_rfl) (by kernel_rfl) (fun _ _ _ h => h) (Or.inl ⟨by rfl, ?_⟩) (by assumption) ?_
          rotate_left
          · (intro w hSw; (try dsimp only at hSw); go_simp; first | done | with_reducible rfl)
          try simp only [List.setIfInBounds_toArray, List.set_cons_zero, List.set_cons_succ]
          refine reg_take (i := 5) (d := 147) (v := ?_) [] rfl rfl (by kernel_rfl) (by kernel_rfl) (fun _ _ _ h => h) (Or.inl ⟨by rfl, ?_⟩) (by assumption) ?_
          rotate_left
          · (intro w hSw; (try dsimp only at hSw); go_simp; first | done | with_reducible rfl)
          try simp only [List.setIfInBounds_toArray, List.set_cons_zero, List.set_cons_succ]
          refine reg_take (i := 6) (d := 148) (v := ?_) [] rfl rfl (by kernel_rfl) (by kernel_rfl) (fun _ _ _ h => h) (Or.inl ⟨by rfl, ?_⟩) (by assumption) ?_
          rotate_left
          · (intro w hSw; (try dsimp only at hSw); go_simp; first | done | with_reducible rfl)
          try simp only [List.setIfInBounds_toArray, List.set_cons_zero, List.set_cons_succ]
          refine reg_take (i := 7) (d := 149) (v := ?_) [] rfl rfl (by kernel_rfl) (by kernel_rfl) (fun _ _ _ h => h) (Or.inl ⟨by rfl, ?_⟩) (by assumption) ?_
          rotate_left
          · (intro w hSw; (try dsimp only at hSw); go_simp; first | done | with_reducible rfl)
          try simp only [List.setIfInBounds_toArray, List.set_cons_zero, List.set_cons_succ]
          refine reg_take (i := 8) (d := 150) (v := ?_) [] rfl rfl (by kernel_rfl) (by kernel_rfl) (fun _ _ _ h => h) (Or.inl ⟨by rfl, ?_⟩) (by assumption) ?_
          rotate_left
          · (intro w hSw; (try dsimp only at hSw); go_simp; first | done | with_reducible rfl)
          try simp only [List.setIfInBounds_toArray, List.set_cons_zero, List.set_cons_succ]
          refine reg_take (i := 9) (d := 151) (v := ?_) [] rfl rfl (by kernel_rfl) (by kernel_rfl) (fun _ _ _ h => h) (Or.inl ⟨by rfl, ?_⟩) (by assumption) ?_
          rotate_left
          · (intro w hSw; (try dsimp only at hSw); go_simp; first | done | with_reducible rfl)
          try simp only [List.setIfInBounds_toArray, List.set_cons_zero, List.set_cons_succ]
          refine reg_take (i := 10) (d := 152) (v := ?_) [] rfl rfl (by kernel_rfl) (by kernel_rfl) (fun _ _ _ h => h) (Or.inl ⟨by rfl, ?_⟩) (by assumption) ?_
          rotate_left
          · (intro w hSw; (try dsimp only at hSw); go_simp; first | done | with_reducible rfl)
          try simp only [List.setIfInBounds_toArray, List.set_cons_zero, List.set_cons_succ]
          refine reg_take (i := 11) (d := 153) (v := ?_) [] rfl rfl (by kernel_rfl) (by kernel_rfl) (fun _ _ _ h => h) (Or.inl ⟨by rfl, ?_⟩) (by assumption) ?_
          rotate_left
          · (intro w hSw; (try dsimp only at hSw); go_simp; first | done | with_reducible rfl)
          try simp only [List.setIfInBounds_toArray, List.set_cons_zero, List.set_cons_succ]
          refine reg_take (i := 12) (d := 154) (v := ?_) [] rfl rfl (by kernel_rfl) (by kernel_rfl) (fun _ _ _ h => h) (Or.inl ⟨by rfl, ?_⟩) (by assumption) ?_
          rotate_left
          · (intro w hSw; (try dsimp only at hSw); go_simp; first | done | with_reducible rfl)
          try simp only [List.setIfInBounds_toArray, List.set_cons_zero, List.set_cons_succ]
          refine reg_take (i := 13) (d := 155) (v := ?_) [] rfl rfl (by kernel_rfl) (by kernel_rfl) (fun _ _ _ h => h) (Or.inl ⟨by rfl, ?_⟩) (by assumption) ?_
          rotate_left
          · (intro w hSw; (try dsimp only at hSw); go_simp; first | done | with_reducible rfl)
          try simp only [List.setIfInBounds_toArray, List.set_cons_zero, List.set_cons_succ]
          refine reg_take (i := 14) (d := 156) (v := ?_) [] rfl rfl (by kernel_rfl) (by kernel_rfl) (fun _ _ _ h => h) (Or.inl ⟨by rfl, ?_⟩) (by assumption) ?_
          rotate_left
          · (intro w hSw; (try dsimp only at hSw); go_simp; first | done | with_reducible rfl)
          try simp only [List.setIfInBounds_toArray, List.set_cons_zero, List.set_cons_succ]
          refine reg_take (i := 15) (d := 157) (v := ?_) [] rfl rfl (by kernel_rfl) (by kernel_rfl) (fun _ _ _ h => h) (Or.inl ⟨by rfl, ?_⟩) (by assumption) ?_
          rotate_left
          · (intro w hSw; (try dsimp only at hSw); go_simp; first | done | with_reducible rfl)
          try simp only [List.setIfInBounds_toArray, List.set_cons_zero, List.set_cons_succ]
          refine reg_take (i := 16) (d := 158) (v := ?_) [] rfl rfl (by kernel_rfl) (by kernel_rfl) (fun _ _ _ h => h) (Or.inl ⟨by rfl, ?_⟩) (by assumption) ?_
          rotate_left
          · (intro w hSw; (try dsimp only at hSw); go_simp; first | done | with_reducible rfl)
          try simp only [List.setIfInBounds_toArray, List.set_cons_zero, List.set_cons_succ]
          refine reg_take (i := 17) (d := 159) (v := ?_) [] rfl rfl (by kernel_rfl) (by kernel_rfl) (fun _ _ _ h => h) (Or.inl ⟨by rfl, ?_⟩) (by assumption) ?_
          rotate_left
          · (intro w hSw; (try dsimp only at hSw); go_simp; first | done | with_reducible rfl)
          try simp only [List.setIfInBounds_toArray, List.set_cons_zero, List.set_cons_succ]
          refine reg_take (i := 18) (d := 160) (v := ?_) [] rfl rfl (by kernel_rfl) (by kernel_rfl) (fun _ _ _ h => h) (Or.inl ⟨by rfl, ?_⟩) (by assumption) ?_
          rotate_left
          · (intro w hSw; (try dsimp only at hSw); go_simp; first | done | with_reducible rfl)
          try simp only [List.setIfInBounds_toArray, List.set_cons_zero, List.set_cons_succ]
          refine reg_take (i := 19) (d := 161) (v := ?_) [] rfl rfl (by kernel_rfl) (by kernel_rfl) (fun _ _ _ h => h) (Or.inl ⟨by rfl, ?_⟩) (by assumption) ?_
          rotate_left
          · (intro w hSw; (try dsimp only at hSw); go_simp; first | done | with_reducible rfl)
          try simp only [List.setIfInBounds_toArray, List.set_cons_zero, List.set_cons_succ]
          refine reg_take (i := 20) (d := 162) (v := ?_) [] rfl rfl (by kernel_rfl) (by kernel_rfl) (fun _ _ _ h => h) (Or.inl ⟨by rfl, ?_⟩) (by assumption) ?_
          rotate_left
          · (intro w hSw; (try dsimp only at hSw); go_simp; first | done | with_reducible rfl)
          try simp only [List.setIfInBounds_toArray, List.set_cons_zero, List.set_cons_succ]
          refine reg_take (i := 21) (d := 163) (v := ?_) [] rfl rfl (by kernel_rfl) (by kernel_rfl) (fun _ _ _ h => h) (Or.inl ⟨by rfl, ?_⟩) (by assumption) ?_
          rotate_left
          · (intro w hSw; (try dsimp only at hSw); go_simp; first | done | with_reducible rfl)
          try simp only [List.setIfInBounds_toArray, List.set_cons_zero, List.set_cons_succ]
          refine reg_take (i := 22) (d := 164) (v := ?_) [] rfl rfl (by kernel_rfl) (by kernel_rfl) (fun _ _ _ h => h) (Or.inl ⟨by rfl, ?_⟩) (by assumption) ?_
          rotate_left
          · (intro w hSw; (try dsimp only at hSw); go_simp; first | done | with_reducible rfl)
          try simp only [List.setIfInBounds_toArray, List.set_cons_zero, List.set_cons_succ]
          refine reg_take (i := 23) (d := 165) (v := ?_) [] rfl rfl (by kernel_rfl) (by kernel_rfl) (fun _ _ _ h => h) (Or.inl ⟨by rfl, ?_⟩) (by assumption) ?_
          rotate_left
          · (intro w hSw; (try dsimp only at hSw); go_simp; first | done | with_reducible rfl)
          try simp only [List.setIfInBounds_toArray, List.set_cons_zero, List.set_cons_succ]
          refine wpAnyL_done (by kernel_rfl) ?_ _
          go_wp2_with fail
          go_meet
          exact ⟨_, c', _, _, HPL2.out.1, HPL2.out.2.1, HPL2.out.2.2, HGD2.out, by omega, HFI.out, HPR.out, HT.out.tail.tail.d3.r3.sw⟩
    have p1 : (xk == 1) = false := by simpa using hk1
    clear hk1
    by_cases hk2 : xk = 2
    · have p2 : (xk == 2) = true := by simp [hk2]
      as_aux_lemma =>
        clear hk2
        go_wp2_with (go_at_call 17; refine (turn_sep HT.out HGD.out).mono ?_; rintro e v2 ⟨rfl, hS⟩; have HT2 := Lib.hid hS; clear hS)
        go_meet
        exact ⟨_, c.turn, _, _, HPL.out.1, HPL.out.2.1, HPL.out.2.2, HGD.out.turn, by omega, HFI.out, ⟨[], by rw [List.append_nil]; exact HR0.out⟩, HT2.out.r4.sw.d4⟩
    have p2 : (xk == 2) = false := by simpa using hk2
    clear hk2
    go_wp2_with fail
    go_meet
    exact ⟨_, c, _, _, HPL.out.1, HPL.out.2.1, HPL.out.2.2, HGD.out, by omega, HFI.out, ⟨[], by rw [List.append_nil]; exact HR0.out⟩, HT.out.r4.sw.d4⟩
  case rest =>
    clear HT HGD HFI
    have HN0 := Lib.hid (show R0.length = m by rw [← HR0.out]; exact HN.out.2)
    clear HR0 HN
    obtain ⟨rv, c', q', f', hpl, hca, hst, hgood, hqk', hfi, ⟨t, hrs⟩, hs⟩ := hcut
    obtain ⟨m', hm'⟩ : ∃ y, c'.rs.length = y := ⟨_, rfl⟩
    have HM := Lib.hid hm'
    have hmm : m ≤ m' := by rw [← hm', hrs, List.length_append, HN0.out]; omega
    have HRS := Lib.hid hrs
    have HGD := Lib.hid hgood
    have HS := Lib.hid hs
    have HNC := Lib.hid (show c'.calls.length = n1 by rw [hca]; exact HCL.out)
    have hmn' : m' ≤ n1 := by rw [← hm', ← HNC.out]; exact hgood.m
    have HPL := Lib.hid (And.intro hpl (And.intro hca hst))
    have HFI := Lib.hid hfi
    clear hs hgood hrs hm' hpl hca hst hfi
    go_upto_region 38 with (go_at_call 18; refine (results_sep HS.out HGD.out).mono ?_; simp only [HM.out]; rintro e v3 ⟨A4, q4, rfl, hS⟩; have HT := Lib.hid hS; clear hS)
    have e1 : ¬ (m' : Int) < (m : Int) := by omega
    have e2 : decide ((m' : Int) < (m : Int)) = false := decide_eq_false e1
    have e3 : (m : Int) ≤ (m' : Int) := by omega
    have hq4 : m' ≤ q4 := by obtain ⟨_, _, h, _⟩ := HT.out.own.form; simp only [Value.slice.injEq] at h; omega
    have e4 : (m : Int) ≤ (q4 : Int) := by omega
    have e5 : m ≤ q4 := by omega
    have RA := Lib.hid (show Rd v3 A4 (eRs.fl R0) from Rd.pre (ys := eRs.fl t) (by rw [← Enc.app, ← HRS.out]; exact HT.out.own.rd))
    have RB := Lib.hid (show Rd v3 A3 (eRs.fl R0) from (show Own v3 tRs 2 (.slice A3 m q3) m (eRs.fl R0) from HT.out.h4).rd)
    have e7 : ((m' : Int) + ((n1 : Int) - (m' : Int))) = (n1 : Int) := by omega
    have e6 : ((m' : Int) + ((n1 : Int) - (m' : Int)) != (n1 : Int)) = false := by rw [e7]; simp
    go_wp2_with (first
      | (go_at_call 19; refine (same_any R0 A4 A3 m q4 q3 _ HN0.out (by omega) RA.out RB.out).mono ?_; rintro e v4 ⟨rfl, hB⟩; have HT2 := Lib.hid (HT.out.sw.step hB); clear hB)
      | (go_at_call 20; refine (left_sep HT2.out HGD.out).mono ?_; simp only [HM.out, HNC.out]; rintro e v5 ⟨rfl, hS⟩; have HT3 := Lib.hid hS; clear hS))
    go_roundg (101 - (k + 1))
    case measure => omega
    case rel => exact ⟨k + 1, _, c', q', f', by push_cast; rfl, by omega, rfl, HPL.out.1, HPL.out.2.1, HPL.out.2.2, HGD.out, by omega, HFI.out, HT3.out.d2.d3⟩
end Go.Proofs.Ytodjmeodcmbdoaa
