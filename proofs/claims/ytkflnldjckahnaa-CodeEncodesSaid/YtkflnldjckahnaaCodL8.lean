/- The walk of the law CodeEncodes: it returns true. No condition but the row's own. -/
import Derived.Test.YtkflnldjckahnaaCodK
set_option linter.unusedVariables false
set_option linter.unusedSimpArgs false
namespace Go.Proofs.Ytkflnldjckahnaa
open Go.RowKit
def outB (r : Rec) : List UInt8 := if mayB r = true then encB r else []
def erB (r : Rec) : Int := if mayB r = true then 0 else 4
theorem encode_any (kind : Int) (ns : List Int) (ts : List ByteArray) (An At : Option Addr) (n t cn ct : Nat) (w : World) (h : RecAt w ⟨kind, ns, ts⟩ An At n t cn ct) (hi : ∀ x ∈ ns, i64 x) :
    Calls Try.prog 14 #[recV kind An At n t cn ct] w fun e w' => ∃ A c, e = .returned (.tuple #[.slice A (outB ⟨kind, ns, ts⟩).length c, .int .i64 (erB ⟨kind, ns, ts⟩)]) ∧ Below w.heap.size w w' ∧ Rd w' A (eB.fl (outB ⟨kind, ns, ts⟩)) := by
  unfold outB erB
  cases hm : mayB ⟨kind, ns, ts⟩
  · exact (encode_no kind ns ts An At n t cn ct w h hm).mono fun e w' k => ⟨none, 0, k.1, k.2, Rd.nil _ _⟩
  · refine (encode_yes kind ns ts An At n t cn ct w h hm hi).mono ?_
    rintro e w' ⟨v, k1, k2⟩
    obtain ⟨A, c, rfl, _, _, hr⟩ := k2.form
    exact ⟨A, c, k1, k2.2.1, hr⟩
theorem rencode_any (kind : Int) (ns : List Int) (ts : List ByteArray) (An At : Option Addr) (n t cn ct : Nat) (w : World) (h : RecAt w ⟨kind, ns, ts⟩ An At n t cn ct) (hi : ∀ x ∈ ns, i64 x) :
    Calls Try.prog 15 #[recV kind An At n t cn ct] w fun e w' => ∃ A c, e = .returned (.tuple #[.slice A (outB ⟨kind, ns, ts⟩).length c, .int .i64 (erB ⟨kind, ns, ts⟩)]) ∧ Below w.heap.size w w' ∧ Rd w' A (eB.fl (outB ⟨kind, ns, ts⟩)) := by
  unfold outB erB
  cases hm : mayB ⟨kind, ns, ts⟩
  · exact (rencode_no kind ns ts An At n t cn ct w h hm).mono fun e w' k => ⟨none, 0, k.1, k.2, Rd.nil _ _⟩
  · refine (rencode_yes kind ns ts An At n t cn ct w h hm hi).mono ?_
    rintro e w' ⟨v, k1, k2⟩
    obtain ⟨A, c, rfl, _, _, hr⟩ := k2.form
    exact ⟨A, c, k1, k2.2.1, hr⟩
set_option maxRecDepth 100000 in
set_option maxHeartbeats 8000000 in
theorem w_CodeEncodes (a0 : Array Value) (a1 : Int) (w : World) (b0 : Sh.Is w (.pair (.int .i64) (.pair (.slice 8 (.int .i64)) (.pair (.slice 16 .str) .unit))) a0.toList) (b1 : -9223372036854775808 ≤ a1 ∧ a1 ≤ 9223372036854775807) :
    Calls Try.prog 3 #[.agg a0, .int .i64 a1] w fun e w' => e = .returned (.bool true) ∧ Below w.heap.size w w' := by
  have H1 := Lib.hid (show i64 a1 from b1)
  clear b1
  obtain ⟨k, ns, ts, An, At, n, t, cn, ct, hx, hR, _, hi, hsz, ⟨hcn, hct⟩, hr5, hr6, hr7, hr8⟩ := is_rec b0
  obtain rfl : a0 = #[.int .i64 k, .slice An n cn, .slice At t ct] := by rw [← Array.toList_inj]; exact hx
  clear hx b0
  obtain ⟨g, hg⟩ : ∃ g, w.heap.size = g := ⟨_, rfl⟩
  have HS := Lib.hid ((Sep.nil w).newBlk #[.int .i64 k, .slice An n cn, .slice At t ct] tRec hg)
  have HR := Lib.hid (hR.below HS.out.bel)
  have HG := Lib.hid hg; have HR0 := Lib.hid hR
  have HN := Lib.hid (And.intro (show ns.length = n from hR.hn) (show ts.length = t from hR.ht))
  have HI := Lib.hid hi
  clear hR hg hi hsz hr7 hr8
  go_enter Try.func3, Try.ntmps3
  go_wp2_with fail
  rw [HG.out]
  refine (awake_any _).mono ?_
  rintro e w1 ⟨rfl, hB⟩
  have HS := Lib.hid (HS.out.step hB); have HR := Lib.hid (HR.out.below hB)
  clear hB HG
  have HC : Hid (∀ w', Blk w' g #[.int .i64 k, .slice An n cn, .slice At t ct] tRec → w'.cell? ⟨g, 0, none⟩ = some (.int .i64 k) ∧ w'.cell? ⟨g, 1, none⟩ = some (.slice An n cn) ∧ w'.cell? ⟨g, 2, none⟩ = some (.slice At t ct)) := Lib.hid (fun w' h => ⟨h.cell 0, h.cell 1, h.cell 2⟩)
  obtain ⟨y0, y1, y2⟩ := HC.out _ HS.out.hd
  go_wp2_with fail
  refine (largeB_any ⟨k, ns, ts⟩ An At n t cn ct _ HR.out).mono ?_
  rintro e w2 ⟨rfl, hw2⟩
  have hB : Below w1.heap.size w1 w2 := by rw [hw2]; exact (Below.refl _ _).alloc (Nat.le_refl _) _
  have HS := Lib.hid (HS.out.step hB); have HR := Lib.hid (HR.out.below hB)
  clear hB hw2 y0 y1 y2
  by_cases hl : 1000 < n ∨ 1000 < t
  · rw [decide_eq_true hl]
    clear hl
    go_wp2_with fail
    go_ret
    exact ⟨rfl, HS.out.bel⟩
  rw [decide_eq_false hl]
  obtain ⟨hn1000, ht1000⟩ : n ≤ 1000 ∧ t ≤ 1000 := by omega
  clear hl
  obtain ⟨y0, y1, y2⟩ := HC.out _ HS.out.hd
  have HB1 := Lib.hid (show (0 + n) * 8 ≤ 140737488355328 by omega); have HB2 := Lib.hid (show (0 + t) * 16 ≤ 140737488355328 by omega)
  have HNL := Lib.hid (show (eI64.fl ns).length = n * 1 by rw [Enc.length, HN.out.1]; rfl); have HTL := Lib.hid (show (eStr.fl ts).length = t * 1 by rw [Enc.length, HN.out.2]; rfl)
  have HAn := Lib.hid (show An = none → n = 0 ∧ cn = 0 from fun e => by have := hr5 e; omega); have HAt := Lib.hid (show At = none → t = 0 ∧ ct = 0 from fun e => by have := hr6 e; omega)
  have hb := HR0.out.bn
  have hb2 := HR0.out.bt
  clear HR hr5 hr6
  go_upto_region 5 with fail
  clear y0 y1 y2
  go_cut [5] from 14 to 24 (fun s5 wx => ∃ (f : Nat) (Bn Bt : Option Addr) (bn bt : Nat), s5 = .pointer (some ⟨f, 0, none⟩) ∧ Sep w wx [tBlk f #[.int .i64 k, .slice Bn n bn, .slice Bt t bt] tRec, tOwn tI 1 (.slice Bn n bn) n (eI64.fl ns), tOwn tS 1 (.slice Bt t bt) t (eStr.fl ts), tBlk g #[.int .i64 k, .slice An n cn, .slice At t ct] tRec])
  case first =>
    have HQ := Lib.hid HS.out.drew
    refine wp_region_L (fun w' => w'.cell? ⟨g, 0, none⟩ = some (.int .i64 k) ∧ w'.cell? ⟨g, 1, none⟩ = some (.slice An n cn) ∧ w'.cell? ⟨g, 2, none⟩ = some (.slice At t ct)) 12 (by kernel_rfl) (HC.out _ HQ.out.hd) (fun hHeld => ?_)
    refine reg_take (i := 0) (d := 14) (v := ?_) [] rfl rfl (by kernel_rfl) (by kernel_rfl) (fun _ _ _ h => h) (Or.inl ⟨by rfl, ?_⟩) (by assumption) ?_
    rotate_left
    · (intro w hSw; (try dsimp only at hSw); go_simp; first | done | with_reducible rfl)
    try simp only [List.setIfInBounds_toArray, List.set_cons_zero, List.set_cons_succ]
    refine reg_take (i := 1) (d := 15) (v := ?_) [] rfl rfl (by kernel_rfl) (by kernel_rfl) (fun _ _ _ h => h) (Or.inl ⟨by rfl, ?_⟩) (by assumption) ?_
    rotate_left
    · (intro w hSw; (try dsimp only at hSw); go_simp; first | done | with_reducible rfl)
    try simp only [List.setIfInBounds_toArray, List.set_cons_zero, List.set_cons_succ]
    refine reg_take (i := 3) (d := 17) (v := ?_) [] rfl rfl (by kernel_rfl) (by kernel_rfl) (fun _ _ _ h => h) (Or.inl ⟨by rfl, ?_⟩) (by assumption) ?_
    rotate_left
    · (intro w hSw; (try dsimp only at hSw); go_simp; first | done | with_reducible rfl)
    try simp only [List.setIfInBounds_toArray, List.set_cons_zero, List.set_cons_succ]
    refine reg_take (i := 4) (d := 18) (v := ?_) [] rfl rfl (by kernel_rfl) (by kernel_rfl) (fun _ _ _ h => h) (Or.inl ⟨by rfl, ?_⟩) (by assumption) ?_
    rotate_left
    · (intro w hSw; (try dsimp only at hSw); go_simp; first | done | with_reducible rfl)
    try simp only [List.setIfInBounds_toArray, List.set_cons_zero, List.set_cons_succ]
    refine reg_take (i := 7) (d := 21) (v := ?_) [] rfl rfl (by kernel_rfl) (by kernel_rfl) (fun _ _ _ h => h) (Or.inl ⟨by rfl, ?_⟩) (by assumption) ?_
    rotate_left
    · (intro w hSw; (try dsimp only at hSw); go_simp; first | done | with_reducible rfl)
    try simp only [List.setIfInBounds_toArray, List.set_cons_zero, List.set_cons_succ]
    refine reg_take (i := 8) (d := 22) (v := ?_) [] rfl rfl (by kernel_rfl) (by kernel_rfl) (fun _ _ _ h => h) (Or.inl ⟨by rfl, ?_⟩) (by assumption) ?_
    rotate_left
    · (intro w hSw; (try dsimp only at hSw); go_simp; first | done | with_reducible rfl)
    try simp only [List.setIfInBounds_toArray, List.set_cons_zero, List.set_cons_succ]
    refine wpAnyL_ready (rs := [2, 6, 11]) (by kernel_rfl) rfl ?_
    refine (AllL.cons rfl (fun K hK => ?_) (AllL.cons rfl (fun K hK => ?_) (AllL.cons rfl (fun K hK => ?_) AllL.nil)))
    · go_simp
      have HQ := Lib.hid (HQ.out.newRow tI 1 (g := w2.heap.size) (by simp))
      refine hK.out _ _ (HC.out _ HQ.out.h2) (fun hHeld => ?_)
      try simp only [List.setIfInBounds_toArray, List.set_cons_zero, List.set_cons_succ]
      refine wpAnyL_ready (rs := [5, 6, 11]) (by kernel_rfl) rfl ?_
      refine (AllL.cons rfl (fun K hK => ?_) (AllL.cons rfl (fun K hK => ?_) (AllL.cons rfl (fun K hK => ?_) AllL.nil)))
      · have HQ := Lib.hid HQ.out
        refine stepA 22 tI (.int .i64 0) 1 8 (eI64.fl ns) n HQ.out.own HB1.out Try.underlying22 Try.infoI rfl (by decide) (by decide) HNL.out (Enc.ones ns) An cn (HR0.out.below HQ.out.bel).rn HAn.out (.tmp 16) (.tmp 18) rfl rfl rfl rfl ?_
        intro v5 w5 ho hg hat
        rw [Nat.zero_add, List.nil_append] at ho
        obtain ⟨Bn, bn, rfl, _⟩ := ho.form
        have HQ := Lib.hid (HQ.out.app ho hg hat)
        clear ho hg hat
        refine hK.out _ _ (HC.out _ HQ.out.h2) (fun hHeld => ?_)
        try simp only [List.setIfInBounds_toArray, List.set_cons_zero, List.set_cons_succ]
        refine wpAnyL_ready (rs := [6, 11]) (by kernel_rfl) rfl ?_
        refine (AllL.cons rfl (fun K hK => ?_) (AllL.cons rfl (fun K hK => ?_) AllL.nil))
        · go_simp
          have HQ := Lib.hid (HQ.out.newRow tS 1 (g := w5.heap.size) (by simp))
          refine hK.out _ _ (HC.out _ HQ.out.h3) (fun hHeld => ?_)
          try simp only [List.setIfInBounds_toArray, List.set_cons_zero, List.set_cons_succ]
          refine wpAnyL_ready (rs := [9, 11]) (by kernel_rfl) rfl ?_
          refine (AllL.cons rfl (fun K hK => ?_) (AllL.cons rfl (fun K hK => ?_) AllL.nil))
          · have HQ := Lib.hid HQ.out
            refine stepA 23 tS (.string ByteArray.empty) 1 16 (eStr.fl ts) t HQ.out.own HB2.out Try.underlying23 Try.infoS rfl (by decide) (by decide) HTL.out (Enc.ones ts) At ct (HR0.out.below HQ.out.bel).rt HAt.out (.tmp 20) (.tmp 22) rfl rfl rfl rfl ?_
            intro v9 w9 ho hg hat
            rw [Nat.zero_add, List.nil_append] at ho
            obtain ⟨Bt, bt, rfl, _⟩ := ho.form
            have HQ := Lib.hid (HQ.out.app ho hg hat)
            clear ho hg hat
            refine hK.out _ _ (HC.out _ HQ.out.h3) (fun hHeld => ?_)
            try simp only [List.setIfInBounds_toArray, List.set_cons_zero, List.set_cons_succ]
            refine reg_take (i := 10) (d := 24) (v := ?_) [] rfl rfl (by kernel_rfl) (by kernel_rfl) (fun _ _ _ h => h) (Or.inl ⟨by rfl, ?_⟩) (by assumption) ?_
            rotate_left
            · (intro w hSw; (try dsimp only at hSw); go_simp; first | done | with_reducible rfl)
            try simp only [List.setIfInBounds_toArray, List.set_cons_zero, List.set_cons_succ]
            refine wpAnyL_ready (rs := [11]) (by kernel_rfl) rfl ?_
            refine (AllL.cons rfl (fun K hK => ?_) AllL.nil)
            go_simp
            obtain ⟨gR, hgR⟩ : ∃ z, w9.heap.size = z := ⟨_, rfl⟩
            have HGR := Lib.hid hgR
            have HQ := Lib.hid (HQ.out.newBlk zRec tRec (g := gR) (by rw [← hgR]; try simp))
            clear hgR
            rw [HGR.out]
            refine hK.out _ _ (HC.out _ HQ.out.h4) (fun hHeld => ?_)
            try simp only [List.setIfInBounds_toArray, List.set_cons_zero, List.set_cons_succ]
            refine wpAnyL_ready (rs := [12]) (by kernel_rfl) rfl ?_
            refine (AllL.consJ rfl (by kernel_rfl) (fun K hK => ?_) AllL.nil)
            have HQ := Lib.hid HQ.out
            have HZ := Lib.hid (show Blk _ gR zRec tRec from HQ.out.hd)
            have x0 := HZ.out.cell 0; have x1 := (HZ.out.set 0 (.int .i64 k)).cell 1; have x2 := ((HZ.out.set 0 (.int .i64 k)).set 1 (.slice Bn n bn)).cell 2
            have f0 := HZ.out.frozen 0; have f1 := (HZ.out.set 0 (.int .i64 k)).frozen 1; have f2 := ((HZ.out.set 0 (.int .i64 k)).set 1 (.slice Bn n bn)).frozen 2
            simp at x0 x1 x2
            go_simp
            refine hK.out _ _ ?_
            try simp only [List.setIfInBounds_toArray, List.set_cons_zero, List.set_cons_succ]
            refine wpAnyL_done (by kernel_rfl) ?_ _
            go_wp2
            go_meet
            refine ⟨gR, Bn, Bt, bn, bt, rfl, ?_⟩
            have HP := ((HZ.out.set 0 (.int .i64 k)).set 1 (.slice Bn n bn)).set 2 (.slice Bt t bt)
            refine (HQ.out.opc (t' := tBlk gR _ tRec) (S := fun k => k = gR) HP (Upd.setCell (S := fun k => k = gR) (p := ⟨gR, 2, none⟩) (Upd.setCell (S := fun k => k = gR) (p := ⟨gR, 1, none⟩) (Upd.setCell (S := fun k => k = gR) (p := ⟨gR, 0, none⟩) (Upd.refl _ _) (.inr rfl) _) (.inr rfl) _) (.inr rfl) _) (fun _ _ h => h) (fun k hk => .inl hk)).perm ?_
            exact List.Perm.cons _ (List.Perm.swap _ _ _)
          · go_simp
            obtain ⟨gR, hgR⟩ : ∃ z, w5.heap.size + 1 = z := ⟨_, rfl⟩
            have HGR := Lib.hid hgR
            have HQ := Lib.hid (HQ.out.newBlk zRec tRec (g := gR) (by rw [← hgR]; try simp))
            clear hgR
            rw [HGR.out]
            refine hK.out _ _ (HC.out _ HQ.out.h4) (fun hHeld => ?_)
            try simp only [List.setIfInBounds_toArray, List.set_cons_zero, List.set_cons_succ]
            refine wpAnyL_ready (rs := [9]) (by kernel_rfl) rfl ?_
            refine (AllL.cons rfl (fun K hK => ?_) AllL.nil)
            have HQ := Lib.hid HQ.out.sw
            refine stepA 23 tS (.string ByteArray.empty) 1 16 (eStr.fl ts) t HQ.out.own HB2.out Try.underlying23 Try.infoS rfl (by decide) (by decide) HTL.out (Enc.ones ts) At ct (HR0.out.below HQ.out.bel).rt HAt.out (.tmp 20) (.tmp 22) rfl rfl rfl rfl ?_
            intro v9 w9 ho hg hat
            rw [Nat.zero_add, List.nil_append] at ho
            obtain ⟨Bt, bt, rfl, _⟩ := ho.form
            have HQ := Lib.hid (HQ.out.app ho hg hat)
            clear ho hg hat
            refine hK.out _ _ (HC.out _ HQ.out.h4) (fun hHeld => ?_)
            try simp only [List.setIfInBounds_toArray, List.set_cons_zero, List.set_cons_succ]
            refine reg_take (i := 10) (d := 24) (v := ?_) [] rfl rfl (by kernel_rfl) (by kernel_rfl) (fun _ _ _ h => h) (Or.inl ⟨by rfl, ?_⟩) (by assumption) ?_
            rotate_left
            · (intro w hSw; (try dsimp only at hSw); go_simp; first | done | with_reducible rfl)
            try simp only [List.setIfInBounds_toArray, List.set_cons_zero, List.set_cons_succ]
            refine wpAnyL_ready (rs := [12]) (by kernel_rfl) rfl ?_
            refine (AllL.consJ rfl (by kernel_rfl) (fun K hK => ?_) AllL.nil)
            have HQ := Lib.hid HQ.out.sw
            have HZ := Lib.hid (show Blk _ gR zRec tRec from HQ.out.hd)
            have x0 := HZ.out.cell 0; have x1 := (HZ.out.set 0 (.int .i64 k)).cell 1; have x2 := ((HZ.out.set 0 (.int .i64 k)).set 1 (.slice Bn n bn)).cell 2
            have f0 := HZ.out.frozen 0; have f1 := (HZ.out.set 0 (.int .i64 k)).frozen 1; have f2 := ((HZ.out.set 0 (.int .i64 k)).set 1 (.slice Bn n bn)).frozen 2
            simp at x0 x1 x2
            go_simp
            refine hK.out _ _ ?_
            try simp only [List.setIfInBounds_toArray, List.set_cons_zero, List.set_cons_succ]
            refine wpAnyL_done (by kernel_rfl) ?_ _
            go_wp2
            go_meet
            refine ⟨gR, Bn, Bt, bn, bt, rfl, ?_⟩
            have HP := ((HZ.out.set 0 (.int .i64 k)).set 1 (.slice Bn n bn)).set 2 (.slice Bt t bt)
            refine (HQ.out.opc (t' := tBlk gR _ tRec) (S := fun k => k = gR) HP (Upd.setCell (S := fun k => k = gR) (p := ⟨gR, 2, none⟩) (Upd.setCell (S := fun k => k = gR) (p := ⟨gR, 1, none⟩) (Upd.setCell (S := fun k => k = gR) (p := ⟨gR, 0, none⟩) (Upd.refl _ _) (.inr rfl) _) (.inr rfl) _) (.inr rfl) _) (fun _ _ h => h) (fun k hk => .inl hk)).perm ?_
            exact List.Perm.cons _ (List.Perm.swap _ _ _)
        · go_simp
          obtain ⟨gR, hgR⟩ : ∃ z, w5.heap.size = z := ⟨_, rfl⟩
          have HGR := Lib.hid hgR
          have HQ := Lib.hid (HQ.out.newBlk zRec tRec (g := gR) (by rw [← hgR]; try simp))
          clear hgR
          rw [HGR.out]
          refine hK.out _ _ (HC.out _ HQ.out.h3) (fun hHeld => ?_)
          try simp only [List.setIfInBounds_toArray, List.set_cons_zero, List.set_cons_succ]
          refine wpAnyL_ready (rs := [6]) (by kernel_rfl) rfl ?_
          refine (AllL.cons rfl (fun K hK => ?_) AllL.nil)
          go_simp
          have HQ := Lib.hid (HQ.out.newRow tS 1 (g := w5.heap.size + 1) (by simp))
          refine hK.out _ _ (HC.out _ HQ.out.h4) (fun hHeld => ?_)
          try simp only [List.setIfInBounds_toArray, List.set_cons_zero, List.set_cons_succ]
          refine wpAnyL_ready (rs := [9]) (by kernel_rfl) rfl ?_
          refine (AllL.cons rfl (fun K hK => ?_) AllL.nil)
          have HQ := Lib.hid HQ.out
          refine stepA 23 tS (.string ByteArray.empty) 1 16 (eStr.fl ts) t HQ.out.own HB2.out Try.underlying23 Try.infoS rfl (by decide) (by decide) HTL.out (Enc.ones ts) At ct (HR0.out.below HQ.out.bel).rt HAt.out (.tmp 20) (.tmp 22) rfl rfl rfl rfl ?_
          intro v9 w9 ho hg hat
          rw [Nat.zero_add, List.nil_append] at ho
          obtain ⟨Bt, bt, rfl, _⟩ := ho.form
          have HQ := Lib.hid (HQ.out.app ho hg hat)
          clear ho hg hat
          refine hK.out _ _ (HC.out _ HQ.out.h4) (fun hHeld => ?_)
          try simp only [List.setIfInBounds_toArray, List.set_cons_zero, List.set_cons_succ]
          refine reg_take (i := 10) (d := 24) (v := ?_) [] rfl rfl (by kernel_rfl) (by kernel_rfl) (fun _ _ _ h => h) (Or.inl ⟨by rfl, ?_⟩) (by assumption) ?_
          rotate_left
          · (intro w hSw; (try dsimp only at hSw); go_simp; first | done | with_reducible rfl)
          try simp only [List.setIfInBounds_toArray, List.set_cons_zero, List.set_cons_succ]
          refine wpAnyL_ready (rs := [12]) (by kernel_rfl) rfl ?_
          refine (AllL.consJ rfl (by kernel_rfl) (fun K hK => ?_) AllL.nil)
          have HQ := Lib.hid HQ.out.sw
          have HZ := Lib.hid (show Blk _ gR zRec tRec from HQ.out.hd)
          have x0 := HZ.out.cell 0; have x1 := (HZ.out.set 0 (.int .i64 k)).cell 1; have x2 := ((HZ.out.set 0 (.int .i64 k)).set 1 (.slice Bn n bn)).cell 2
          have f0 := HZ.out.frozen 0; have f1 := (HZ.out.set 0 (.int .i64 k)).frozen 1; have f2 := ((HZ.out.set 0 (.int .i64 k)).set 1 (.slice Bn n bn)).frozen 2
          simp at x0 x1 x2
          go_simp
          refine hK.out _ _ ?_
          try simp only [List.setIfInBounds_toArray, List.set_cons_zero, List.set_cons_succ]
          refine wpAnyL_done (by kernel_rfl) ?_ _
          go_wp2
          go_meet
          refine ⟨gR, Bn, Bt, bn, bt, rfl, ?_⟩
          have HP := ((HZ.out.set 0 (.int .i64 k)).set 1 (.slice Bn n bn)).set 2 (.slice Bt t bt)
          refine (HQ.out.opc (t' := tBlk gR _ tRec) (S := fun k => k = gR) HP (Upd.setCell (S := fun k => k = gR) (p := ⟨gR, 2, none⟩) (Upd.setCell (S := fun k => k = gR) (p := ⟨gR, 1, none⟩) (Upd.setCell (S := fun k => k = gR) (p := ⟨gR, 0, none⟩) (Upd.refl _ _) (.inr rfl) _) (.inr rfl) _) (.inr rfl) _) (fun _ _ h => h) (fun k hk => .inl hk)).perm ?_
          exact List.Perm.cons _ (List.Perm.swap _ _ _)
      · go_simp
        have HQ := Lib.hid (HQ.out.newRow tS 1 (g := w2.heap.size + 1) (by simp))
        refine hK.out _ _ (HC.out _ HQ.out.h3) (fun hHeld => ?_)
        try simp only [List.setIfInBounds_toArray, List.set_cons_zero, List.set_cons_succ]
        refine wpAnyL_ready (rs := [5, 11]) (by kernel_rfl) rfl ?_
        refine (AllL.cons rfl (fun K hK => ?_) (AllL.cons rfl (fun K hK => ?_) AllL.nil))
        · have HQ := Lib.hid HQ.out.sw
          refine stepA 22 tI (.int .i64 0) 1 8 (eI64.fl ns) n HQ.out.own HB1.out Try.underlying22 Try.infoI rfl (by decide) (by decide) HNL.out (Enc.ones ns) An cn (HR0.out.below HQ.out.bel).rn HAn.out (.tmp 16) (.tmp 18) rfl rfl rfl rfl ?_
          intro v5 w5 ho hg hat
          rw [Nat.zero_add, List.nil_append] at ho
          obtain ⟨Bn, bn, rfl, _⟩ := ho.form
          have HQ := Lib.hid (HQ.out.app ho hg hat)
          clear ho hg hat
          refine hK.out _ _ (HC.out _ HQ.out.h3) (fun hHeld => ?_)
          try simp only [List.setIfInBounds_toArray, List.set_cons_zero, List.set_cons_succ]
          refine wpAnyL_ready (rs := [9, 11]) (by kernel_rfl) rfl ?_
          refine (AllL.cons rfl (fun K hK => ?_) (AllL.cons rfl (fun K hK => ?_) AllL.nil))
          · have HQ := Lib.hid HQ.out.sw
            refine stepA 23 tS (.string ByteArray.empty) 1 16 (eStr.fl ts) t HQ.out.own HB2.out Try.underlying23 Try.infoS rfl (by decide) (by decide) HTL.out (Enc.ones ts) At ct (HR0.out.below HQ.out.bel).rt HAt.out (.tmp 20) (.tmp 22) rfl rfl rfl rfl ?_
            intro v9 w9 ho hg hat
            rw [Nat.zero_add, List.nil_append] at ho
            obtain ⟨Bt, bt, rfl, _⟩ := ho.form
            have HQ := Lib.hid (HQ.out.app ho hg hat)
            clear ho hg hat
            refine hK.out _ _ (HC.out _ HQ.out.h3) (fun hHeld => ?_)
            try simp only [List.setIfInBounds_toArray, List.set_cons_zero, List.set_cons_succ]
            refine reg_take (i := 10) (d := 24) (v := ?_) [] rfl rfl (by kernel_rfl) (by kernel_rfl) (fun _ _ _ h => h) (Or.inl ⟨by rfl, ?_⟩) (by assumption) ?_
            rotate_left
            · (intro w hSw; (try dsimp only at hSw); go_simp; first | done | with_reducible rfl)
            try simp only [List.setIfInBounds_toArray, List.set_cons_zero, List.set_cons_succ]
            refine wpAnyL_ready (rs := [11]) (by kernel_rfl) rfl ?_
            refine (AllL.cons rfl (fun K hK => ?_) AllL.nil)
            go_simp
            obtain ⟨gR, hgR⟩ : ∃ z, w9.heap.size = z := ⟨_, rfl⟩
            have HGR := Lib.hid hgR
            have HQ := Lib.hid (HQ.out.newBlk zRec tRec (g := gR) (by rw [← hgR]; try simp))
            clear hgR
            rw [HGR.out]
            refine hK.out _ _ (HC.out _ HQ.out.h4) (fun hHeld => ?_)
            try simp only [List.setIfInBounds_toArray, List.set_cons_zero, List.set_cons_succ]
            refine wpAnyL_ready (rs := [12]) (by kernel_rfl) rfl ?_
            refine (AllL.consJ rfl (by kernel_rfl) (fun K hK => ?_) AllL.nil)
            have HQ := Lib.hid HQ.out
            have HZ := Lib.hid (show Blk _ gR zRec tRec from HQ.out.hd)
            have x0 := HZ.out.cell 0; have x1 := (HZ.out.set 0 (.int .i64 k)).cell 1; have x2 := ((HZ.out.set 0 (.int .i64 k)).set 1 (.slice Bn n bn)).cell 2
            have f0 := HZ.out.frozen 0; have f1 := (HZ.out.set 0 (.int .i64 k)).frozen 1; have f2 := ((HZ.out.set 0 (.int .i64 k)).set 1 (.slice Bn n bn)).frozen 2
            simp at x0 x1 x2
            go_simp
            refine hK.out _ _ ?_
            try simp only [List.setIfInBounds_toArray, List.set_cons_zero, List.set_cons_succ]
            refine wpAnyL_done (by kernel_rfl) ?_ _
            go_wp2
            go_meet
            refine ⟨gR, Bn, Bt, bn, bt, rfl, ?_⟩
            have HP := ((HZ.out.set 0 (.int .i64 k)).set 1 (.slice Bn n bn)).set 2 (.slice Bt t bt)
            refine (HQ.out.opc (t' := tBlk gR _ tRec) (S := fun k => k = gR) HP (Upd.setCell (S := fun k => k = gR) (p := ⟨gR, 2, none⟩) (Upd.setCell (S := fun k => k = gR) (p := ⟨gR, 1, none⟩) (Upd.setCell (S := fun k => k = gR) (p := ⟨gR, 0, none⟩) (Upd.refl _ _) (.inr rfl) _) (.inr rfl) _) (.inr rfl) _) (fun _ _ h => h) (fun k hk => .inl hk)).perm ?_
            exact List.Perm.cons _ (List.Perm.swap _ _ _)
          · go_simp
            obtain ⟨gR, hgR⟩ : ∃ z, w5.heap.size = z := ⟨_, rfl⟩
            have HGR := Lib.hid hgR
            have HQ := Lib.hid (HQ.out.newBlk zRec tRec (g := gR) (by rw [← hgR]; try simp))
            clear hgR
            rw [HGR.out]
            refine hK.out _ _ (HC.out _ HQ.out.h4) (fun hHeld => ?_)
            try simp only [List.setIfInBounds_toArray, List.set_cons_zero, List.set_cons_succ]
            refine wpAnyL_ready (rs := [9]) (by kernel_rfl) rfl ?_
            refine (AllL.cons rfl (fun K hK => ?_) AllL.nil)
            have HQ := Lib.hid HQ.out.r3
            refine stepA 23 tS (.string ByteArray.empty) 1 16 (eStr.fl ts) t HQ.out.own HB2.out Try.underlying23 Try.infoS rfl (by decide) (by decide) HTL.out (Enc.ones ts) At ct (HR0.out.below HQ.out.bel).rt HAt.out (.tmp 20) (.tmp 22) rfl rfl rfl rfl ?_
            intro v9 w9 ho hg hat
            rw [Nat.zero_add, List.nil_append] at ho
            obtain ⟨Bt, bt, rfl, _⟩ := ho.form
            have HQ := Lib.hid (HQ.out.app ho hg hat)
            clear ho hg hat
            refine hK.out _ _ (HC.out _ HQ.out.h4) (fun hHeld => ?_)
            try simp only [List.setIfInBounds_toArray, List.set_cons_zero, List.set_cons_succ]
            refine reg_take (i := 10) (d := 24) (v := ?_) [] rfl rfl (by kernel_rfl) (by kernel_rfl) (fun _ _ _ h => h) (Or.inl ⟨by rfl, ?_⟩) (by assumption) ?_
            rotate_left
            · (intro w hSw; (try dsimp only at hSw); go_simp; first | done | with_reducible rfl)
            try simp only [List.setIfInBounds_toArray, List.set_cons_zero, List.set_cons_succ]
            refine wpAnyL_ready (rs := [12]) (by kernel_rfl) rfl ?_
            refine (AllL.consJ rfl (by kernel_rfl) (fun K hK => ?_) AllL.nil)
            have HQ := Lib.hid HQ.out.sw
            have HZ := Lib.hid (show Blk _ gR zRec tRec from HQ.out.hd)
            have x0 := HZ.out.cell 0; have x1 := (HZ.out.set 0 (.int .i64 k)).cell 1; have x2 := ((HZ.out.set 0 (.int .i64 k)).set 1 (.slice Bn n bn)).cell 2
            have f0 := HZ.out.frozen 0; have f1 := (HZ.out.set 0 (.int .i64 k)).frozen 1; have f2 := ((HZ.out.set 0 (.int .i64 k)).set 1 (.slice Bn n bn)).frozen 2
            simp at x0 x1 x2
            go_simp
            refine hK.out _ _ ?_
            try simp only [List.setIfInBounds_toArray, List.set_cons_zero, List.set_cons_succ]
            refine wpAnyL_done (by kernel_rfl) ?_ _
            go_wp2
            go_meet
            refine ⟨gR, Bn, Bt, bn, bt, rfl, ?_⟩
            have HP := ((HZ.out.set 0 (.int .i64 k)).set 1 (.slice Bn n bn)).set 2 (.slice Bt t bt)
            refine (HQ.out.opc (t' := tBlk gR _ tRec) (S := fun k => k = gR) HP (Upd.setCell (S := fun k => k = gR) (p := ⟨gR, 2, none⟩) (Upd.setCell (S := fun k => k = gR) (p := ⟨gR, 1, none⟩) (Upd.setCell (S := fun k => k = gR) (p := ⟨gR, 0, none⟩) (Upd.refl _ _) (.inr rfl) _) (.inr rfl) _) (.inr rfl) _) (fun _ _ h => h) (fun k hk => .inl hk)).perm ?_
            exact List.Perm.cons _ (List.Perm.swap _ _ _)
        · go_simp
          obtain ⟨gR, hgR⟩ : ∃ z, w2.heap.size + 2 = z := ⟨_, rfl⟩
          have HGR := Lib.hid hgR
          have HQ := Lib.hid (HQ.out.newBlk zRec tRec (g := gR) (by rw [← hgR]; try simp))
          clear hgR
          rw [HGR.out]
          refine hK.out _ _ (HC.out _ HQ.out.h4) (fun hHeld => ?_)
          try simp only [List.setIfInBounds_toArray, List.set_cons_zero, List.set_cons_succ]
          refine wpAnyL_ready (rs := [5]) (by kernel_rfl) rfl ?_
          refine (AllL.cons rfl (fun K hK => ?_) AllL.nil)
          have HQ := Lib.hid HQ.out.r3
          refine stepA 22 tI (.int .i64 0) 1 8 (eI64.fl ns) n HQ.out.own HB1.out Try.underlying22 Try.infoI rfl (by decide) (by decide) HNL.out (Enc.ones ns) An cn (HR0.out.below HQ.out.bel).rn HAn.out (.tmp 16) (.tmp 18) rfl rfl rfl rfl ?_
          intro v5 w5 ho hg hat
          rw [Nat.zero_add, List.nil_append] at ho
          obtain ⟨Bn, bn, rfl, _⟩ := ho.form
          have HQ := Lib.hid (HQ.out.app ho hg hat)
          clear ho hg hat
          refine hK.out _ _ (HC.out _ HQ.out.h4) (fun hHeld => ?_)
          try simp only [List.setIfInBounds_toArray, List.set_cons_zero, List.set_cons_succ]
          refine wpAnyL_ready (rs := [9]) (by kernel_rfl) rfl ?_
          refine (AllL.cons rfl (fun K hK => ?_) AllL.nil)
          have HQ := Lib.hid HQ.out.r3
          refine stepA 23 tS (.string ByteArray.empty) 1 16 (eStr.fl ts) t HQ.out.own HB2.out Try.underlying23 Try.infoS rfl (by decide) (by decide) HTL.out (Enc.ones ts) At ct (HR0.out.below HQ.out.bel).rt HAt.out (.tmp 20) (.tmp 22) rfl rfl rfl rfl ?_
          intro v9 w9 ho hg hat
          rw [Nat.zero_add, List.nil_append] at ho
          obtain ⟨Bt, bt, rfl, _⟩ := ho.form
          have HQ := Lib.hid (HQ.out.app ho hg hat)
          clear ho hg hat
          refine hK.out _ _ (HC.out _ HQ.out.h4) (fun hHeld => ?_)
          try simp only [List.setIfInBounds_toArray, List.set_cons_zero, List.set_cons_succ]
          refine reg_take (i := 10) (d := 24) (v := ?_) [] rfl rfl (by kernel_rfl) (by kernel_rfl) (fun _ _ _ h => h) (Or.inl ⟨by rfl, ?_⟩) (by assumption) ?_
          rotate_left
          · (intro w hSw; (try dsimp only at hSw); go_simp; first | done | with_reducible rfl)
          try simp only [List.setIfInBounds_toArray, List.set_cons_zero, List.set_cons_succ]
          refine wpAnyL_ready (rs := [12]) (by kernel_rfl) rfl ?_
          refine (AllL.consJ rfl (by kernel_rfl) (fun K hK => ?_) AllL.nil)
          have HQ := Lib.hid HQ.out.r3
          have HZ := Lib.hid (show Blk _ gR zRec tRec from HQ.out.hd)
          have x0 := HZ.out.cell 0; have x1 := (HZ.out.set 0 (.int .i64 k)).cell 1; have x2 := ((HZ.out.set 0 (.int .i64 k)).set 1 (.slice Bn n bn)).cell 2
          have f0 := HZ.out.frozen 0; have f1 := (HZ.out.set 0 (.int .i64 k)).frozen 1; have f2 := ((HZ.out.set 0 (.int .i64 k)).set 1 (.slice Bn n bn)).frozen 2
          simp at x0 x1 x2
          go_simp
          refine hK.out _ _ ?_
          try simp only [List.setIfInBounds_toArray, List.set_cons_zero, List.set_cons_succ]
          refine wpAnyL_done (by kernel_rfl) ?_ _
          go_wp2
          go_meet
          refine ⟨gR, Bn, Bt, bn, bt, rfl, ?_⟩
          have HP := ((HZ.out.set 0 (.int .i64 k)).set 1 (.slice Bn n bn)).set 2 (.slice Bt t bt)
          refine (HQ.out.opc (t' := tBlk gR _ tRec) (S := fun k => k = gR) HP (Upd.setCell (S := fun k => k = gR) (p := ⟨gR, 2, none⟩) (Upd.setCell (S := fun k => k = gR) (p := ⟨gR, 1, none⟩) (Upd.setCell (S := fun k => k = gR) (p := ⟨gR, 0, none⟩) (Upd.refl _ _) (.inr rfl) _) (.inr rfl) _) (.inr rfl) _) (fun _ _ h => h) (fun k hk => .inl hk)).perm ?_
          exact List.Perm.cons _ (List.Perm.swap _ _ _)
      · go_simp
        obtain ⟨gR, hgR⟩ : ∃ z, w2.heap.size + 1 = z := ⟨_, rfl⟩
        have HGR := Lib.hid hgR
        have HQ := Lib.hid (HQ.out.newBlk zRec tRec (g := gR) (by rw [← hgR]; try simp))
        clear hgR
        rw [HGR.out]
        refine hK.out _ _ (HC.out _ HQ.out.h3) (fun hHeld => ?_)
        try simp only [List.setIfInBounds_toArray, List.set_cons_zero, List.set_cons_succ]
        refine wpAnyL_ready (rs := [5, 6]) (by kernel_rfl) rfl ?_
        refine (AllL.cons rfl (fun K hK => ?_) (AllL.cons rfl (fun K hK => ?_) AllL.nil))
        · have HQ := Lib.hid HQ.out.sw
          refine stepA 22 tI (.int .i64 0) 1 8 (eI64.fl ns) n HQ.out.own HB1.out Try.underlying22 Try.infoI rfl (by decide) (by decide) HNL.out (Enc.ones ns) An cn (HR0.out.below HQ.out.bel).rn HAn.out (.tmp 16) (.tmp 18) rfl rfl rfl rfl ?_
          intro v5 w5 ho hg hat
          rw [Nat.zero_add, List.nil_append] at ho
          obtain ⟨Bn, bn, rfl, _⟩ := ho.form
          have HQ := Lib.hid (HQ.out.app ho hg hat)
          clear ho hg hat
          refine hK.out _ _ (HC.out _ HQ.out.h3) (fun hHeld => ?_)
          try simp only [List.setIfInBounds_toArray, List.set_cons_zero, List.set_cons_succ]
          refine wpAnyL_ready (rs := [6]) (by kernel_rfl) rfl ?_
          refine (AllL.cons rfl (fun K hK => ?_) AllL.nil)
          go_simp
          have HQ := Lib.hid (HQ.out.newRow tS 1 (g := w5.heap.size) (by simp))
          refine hK.out _ _ (HC.out _ HQ.out.h4) (fun hHeld => ?_)
          try simp only [List.setIfInBounds_toArray, List.set_cons_zero, List.set_cons_succ]
          refine wpAnyL_ready (rs := [9]) (by kernel_rfl) rfl ?_
          refine (AllL.cons rfl (fun K hK => ?_) AllL.nil)
          have HQ := Lib.hid HQ.out
          refine stepA 23 tS (.string ByteArray.empty) 1 16 (eStr.fl ts) t HQ.out.own HB2.out Try.underlying23 Try.infoS rfl (by decide) (by decide) HTL.out (Enc.ones ts) At ct (HR0.out.below HQ.out.bel).rt HAt.out (.tmp 20) (.tmp 22) rfl rfl rfl rfl ?_
          intro v9 w9 ho hg hat
          rw [Nat.zero_add, List.nil_append] at ho
          obtain ⟨Bt, bt, rfl, _⟩ := ho.form
          have HQ := Lib.hid (HQ.out.app ho hg hat)
          clear ho hg hat
          refine hK.out _ _ (HC.out _ HQ.out.h4) (fun hHeld => ?_)
          try simp only [List.setIfInBounds_toArray, List.set_cons_zero, List.set_cons_succ]
          refine reg_take (i := 10) (d := 24) (v := ?_) [] rfl rfl (by kernel_rfl) (by kernel_rfl) (fun _ _ _ h => h) (Or.inl ⟨by rfl, ?_⟩) (by assumption) ?_
          rotate_left
          · (intro w hSw; (try dsimp only at hSw); go_simp; first | done | with_reducible rfl)
          try simp only [List.setIfInBounds_toArray, List.set_cons_zero, List.set_cons_succ]
          refine wpAnyL_ready (rs := [12]) (by kernel_rfl) rfl ?_
          refine (AllL.consJ rfl (by kernel_rfl) (fun K hK => ?_) AllL.nil)
          have HQ := Lib.hid HQ.out.r3
          have HZ := Lib.hid (show Blk _ gR zRec tRec from HQ.out.hd)
          have x0 := HZ.out.cell 0; have x1 := (HZ.out.set 0 (.int .i64 k)).cell 1; have x2 := ((HZ.out.set 0 (.int .i64 k)).set 1 (.slice Bn n bn)).cell 2
          have f0 := HZ.out.frozen 0; have f1 := (HZ.out.set 0 (.int .i64 k)).frozen 1; have f2 := ((HZ.out.set 0 (.int .i64 k)).set 1 (.slice Bn n bn)).frozen 2
          simp at x0 x1 x2
          go_simp
          refine hK.out _ _ ?_
          try simp only [List.setIfInBounds_toArray, List.set_cons_zero, List.set_cons_succ]
          refine wpAnyL_done (by kernel_rfl) ?_ _
          go_wp2
          go_meet
          refine ⟨gR, Bn, Bt, bn, bt, rfl, ?_⟩
          have HP := ((HZ.out.set 0 (.int .i64 k)).set 1 (.slice Bn n bn)).set 2 (.slice Bt t bt)
          refine (HQ.out.opc (t' := tBlk gR _ tRec) (S := fun k => k = gR) HP (Upd.setCell (S := fun k => k = gR) (p := ⟨gR, 2, none⟩) (Upd.setCell (S := fun k => k = gR) (p := ⟨gR, 1, none⟩) (Upd.setCell (S := fun k => k = gR) (p := ⟨gR, 0, none⟩) (Upd.refl _ _) (.inr rfl) _) (.inr rfl) _) (.inr rfl) _) (fun _ _ h => h) (fun k hk => .inl hk)).perm ?_
          exact List.Perm.cons _ (List.Perm.swap _ _ _)
        · go_simp
          have HQ := Lib.hid (HQ.out.newRow tS 1 (g := w2.heap.size + 2) (by simp))
          refine hK.out _ _ (HC.out _ HQ.out.h4) (fun hHeld => ?_)
          try simp only [List.setIfInBounds_toArray, List.set_cons_zero, List.set_cons_succ]
          refine wpAnyL_ready (rs := [5]) (by kernel_rfl) rfl ?_
          refine (AllL.cons rfl (fun K hK => ?_) AllL.nil)
          have HQ := Lib.hid HQ.out.r3
          refine stepA 22 tI (.int .i64 0) 1 8 (eI64.fl ns) n HQ.out.own HB1.out Try.underlying22 Try.infoI rfl (by decide) (by decide) HNL.out (Enc.ones ns) An cn (HR0.out.below HQ.out.bel).rn HAn.out (.tmp 16) (.tmp 18) rfl rfl rfl rfl ?_
          intro v5 w5 ho hg hat
          rw [Nat.zero_add, List.nil_append] at ho
          obtain ⟨Bn, bn, rfl, _⟩ := ho.form
          have HQ := Lib.hid (HQ.out.app ho hg hat)
          clear ho hg hat
          refine hK.out _ _ (HC.out _ HQ.out.h4) (fun hHeld => ?_)
          try simp only [List.setIfInBounds_toArray, List.set_cons_zero, List.set_cons_succ]
          refine wpAnyL_ready (rs := [9]) (by kernel_rfl) rfl ?_
          refine (AllL.cons rfl (fun K hK => ?_) AllL.nil)
          have HQ := Lib.hid HQ.out.sw
          refine stepA 23 tS (.string ByteArray.empty) 1 16 (eStr.fl ts) t HQ.out.own HB2.out Try.underlying23 Try.infoS rfl (by decide) (by decide) HTL.out (Enc.ones ts) At ct (HR0.out.below HQ.out.bel).rt HAt.out (.tmp 20) (.tmp 22) rfl rfl rfl rfl ?_
          intro v9 w9 ho hg hat
          rw [Nat.zero_add, List.nil_append] at ho
          obtain ⟨Bt, bt, rfl, _⟩ := ho.form
          have HQ := Lib.hid (HQ.out.app ho hg hat)
          clear ho hg hat
          refine hK.out _ _ (HC.out _ HQ.out.h4) (fun hHeld => ?_)
          try simp only [List.setIfInBounds_toArray, List.set_cons_zero, List.set_cons_succ]
          refine reg_take (i := 10) (d := 24) (v := ?_) [] rfl rfl (by kernel_rfl) (by kernel_rfl) (fun _ _ _ h => h) (Or.inl ⟨by rfl, ?_⟩) (by assumption) ?_
          rotate_left
          · (intro w hSw; (try dsimp only at hSw); go_simp; first | done | with_reducible rfl)
          try simp only [List.setIfInBounds_toArray, List.set_cons_zero, List.set_cons_succ]
          refine wpAnyL_ready (rs := [12]) (by kernel_rfl) rfl ?_
          refine (AllL.consJ rfl (by kernel_rfl) (fun K hK => ?_) AllL.nil)
          have HQ := Lib.hid HQ.out.r3
          have HZ := Lib.hid (show Blk _ gR zRec tRec from HQ.out.hd)
          have x0 := HZ.out.cell 0; have x1 := (HZ.out.set 0 (.int .i64 k)).cell 1; have x2 := ((HZ.out.set 0 (.int .i64 k)).set 1 (.slice Bn n bn)).cell 2
          have f0 := HZ.out.frozen 0; have f1 := (HZ.out.set 0 (.int .i64 k)).frozen 1; have f2 := ((HZ.out.set 0 (.int .i64 k)).set 1 (.slice Bn n bn)).frozen 2
          simp at x0 x1 x2
          go_simp
          refine hK.out _ _ ?_
          try simp only [List.setIfInBounds_toArray, List.set_cons_zero, List.set_cons_succ]
          refine wpAnyL_done (by kernel_rfl) ?_ _
          go_wp2
          go_meet
          refine ⟨gR, Bn, Bt, bn, bt, rfl, ?_⟩
          have HP := ((HZ.out.set 0 (.int .i64 k)).set 1 (.slice Bn n bn)).set 2 (.slice Bt t bt)
          refine (HQ.out.opc (t' := tBlk gR _ tRec) (S := fun k => k = gR) HP (Upd.setCell (S := fun k => k = gR) (p := ⟨gR, 2, none⟩) (Upd.setCell (S := fun k => k = gR) (p := ⟨gR, 1, none⟩) (Upd.setCell (S := fun k => k = gR) (p := ⟨gR, 0, none⟩) (Upd.refl _ _) (.inr rfl) _) (.inr rfl) _) (.inr rfl) _) (fun _ _ h => h) (fun k hk => .inl hk)).perm ?_
          exact List.Perm.cons _ (List.Perm.swap _ _ _)
    · go_simp
      have HQ := Lib.hid (HQ.out.newRow tS 1 (g := w2.heap.size) (by simp))
      refine hK.out _ _ (HC.out _ HQ.out.h2) (fun hHeld => ?_)
      try simp only [List.setIfInBounds_toArray, List.set_cons_zero, List.set_cons_succ]
      refine wpAnyL_ready (rs := [2, 11]) (by kernel_rfl) rfl ?_
      refine (AllL.cons rfl (fun K hK => ?_) (AllL.cons rfl (fun K hK => ?_) AllL.nil))
      · go_simp
        have HQ := Lib.hid (HQ.out.newRow tI 1 (g := w2.heap.size + 1) (by simp))
        refine hK.out _ _ (HC.out _ HQ.out.h3) (fun hHeld => ?_)
        try simp only [List.setIfInBounds_toArray, List.set_cons_zero, List.set_cons_succ]
        refine wpAnyL_ready (rs := [5, 11]) (by kernel_rfl) rfl ?_
        refine (AllL.cons rfl (fun K hK => ?_) (AllL.cons rfl (fun K hK => ?_) AllL.nil))
        · have HQ := Lib.hid HQ.out
          refine stepA 22 tI (.int .i64 0) 1 8 (eI64.fl ns) n HQ.out.own HB1.out Try.underlying22 Try.infoI rfl (by decide) (by decide) HNL.out (Enc.ones ns) An cn (HR0.out.below HQ.out.bel).rn HAn.out (.tmp 16) (.tmp 18) rfl rfl rfl rfl ?_
          intro v5 w5 ho hg hat
          rw [Nat.zero_add, List.nil_append] at ho
          obtain ⟨Bn, bn, rfl, _⟩ := ho.form
          have HQ := Lib.hid (HQ.out.app ho hg hat)
          clear ho hg hat
          refine hK.out _ _ (HC.out _ HQ.out.h3) (fun hHeld => ?_)
          try simp only [List.setIfInBounds_toArray, List.set_cons_zero, List.set_cons_succ]
          refine wpAnyL_ready (rs := [9, 11]) (by kernel_rfl) rfl ?_
          refine (AllL.cons rfl (fun K hK => ?_) (AllL.cons rfl (fun K hK => ?_) AllL.nil))
          · have HQ := Lib.hid HQ.out.sw
            refine stepA 23 tS (.string ByteArray.empty) 1 16 (eStr.fl ts) t HQ.out.own HB2.out Try.underlying23 Try.infoS rfl (by decide) (by decide) HTL.out (Enc.ones ts) At ct (HR0.out.below HQ.out.bel).rt HAt.out (.tmp 20) (.tmp 22) rfl rfl rfl rfl ?_
            intro v9 w9 ho hg hat
            rw [Nat.zero_add, List.nil_append] at ho
            obtain ⟨Bt, bt, rfl, _⟩ := ho.form
            have HQ := Lib.hid (HQ.out.app ho hg hat)
            clear ho hg hat
            refine hK.out _ _ (HC.out _ HQ.out.h3) (fun hHeld => ?_)
            try simp only [List.setIfInBounds_toArray, List.set_cons_zero, List.set_cons_succ]
            refine reg_take (i := 10) (d := 24) (v := ?_) [] rfl rfl (by kernel_rfl) (by kernel_rfl) (fun _ _ _ h => h) (Or.inl ⟨by rfl, ?_⟩) (by assumption) ?_
            rotate_left
            · (intro w hSw; (try dsimp only at hSw); go_simp; first | done | with_reducible rfl)
            try simp only [List.setIfInBounds_toArray, List.set_cons_zero, List.set_cons_succ]
            refine wpAnyL_ready (rs := [11]) (by kernel_rfl) rfl ?_
            refine (AllL.cons rfl (fun K hK => ?_) AllL.nil)
            go_simp
            obtain ⟨gR, hgR⟩ : ∃ z, w9.heap.size = z := ⟨_, rfl⟩
            have HGR := Lib.hid hgR
            have HQ := Lib.hid (HQ.out.newBlk zRec tRec (g := gR) (by rw [← hgR]; try simp))
            clear hgR
            rw [HGR.out]
            refine hK.out _ _ (HC.out _ HQ.out.h4) (fun hHeld => ?_)
            try simp only [List.setIfInBounds_toArray, List.set_cons_zero, List.set_cons_succ]
            refine wpAnyL_ready (rs := [12]) (by kernel_rfl) rfl ?_
            refine (AllL.consJ rfl (by kernel_rfl) (fun K hK => ?_) AllL.nil)
            have HQ := Lib.hid HQ.out
            have HZ := Lib.hid (show Blk _ gR zRec tRec from HQ.out.hd)
            have x0 := HZ.out.cell 0; have x1 := (HZ.out.set 0 (.int .i64 k)).cell 1; have x2 := ((HZ.out.set 0 (.int .i64 k)).set 1 (.slice Bn n bn)).cell 2
            have f0 := HZ.out.frozen 0; have f1 := (HZ.out.set 0 (.int .i64 k)).frozen 1; have f2 := ((HZ.out.set 0 (.int .i64 k)).set 1 (.slice Bn n bn)).frozen 2
            simp at x0 x1 x2
            go_simp
            refine hK.out _ _ ?_
            try simp only [List.setIfInBounds_toArray, List.set_cons_zero, List.set_cons_succ]
            refine wpAnyL_done (by kernel_rfl) ?_ _
            go_wp2
            go_meet
            refine ⟨gR, Bn, Bt, bn, bt, rfl, ?_⟩
            have HP := ((HZ.out.set 0 (.int .i64 k)).set 1 (.slice Bn n bn)).set 2 (.slice Bt t bt)
            refine (HQ.out.opc (t' := tBlk gR _ tRec) (S := fun k => k = gR) HP (Upd.setCell (S := fun k => k = gR) (p := ⟨gR, 2, none⟩) (Upd.setCell (S := fun k => k = gR) (p := ⟨gR, 1, none⟩) (Upd.setCell (S := fun k => k = gR) (p := ⟨gR, 0, none⟩) (Upd.refl _ _) (.inr rfl) _) (.inr rfl) _) (.inr rfl) _) (fun _ _ h => h) (fun k hk => .inl hk)).perm ?_
            exact List.Perm.cons _ (List.Perm.swap _ _ _)
          · go_simp
            obtain ⟨gR, hgR⟩ : ∃ z, w5.heap.size = z := ⟨_, rfl⟩
            have HGR := Lib.hid hgR
            have HQ := Lib.hid (HQ.out.newBlk zRec tRec (g := gR) (by rw [← hgR]; try simp))
            clear hgR
            rw [HGR.out]
            refine hK.out _ _ (HC.out _ HQ.out.h4) (fun hHeld => ?_)
            try simp only [List.setIfInBounds_toArray, List.set_cons_zero, List.set_cons_succ]
            refine wpAnyL_ready (rs := [9]) (by kernel_rfl) rfl ?_
            refine (AllL.cons rfl (fun K hK => ?_) AllL.nil)
            have HQ := Lib.hid HQ.out.r3
            refine stepA 23 tS (.string ByteArray.empty) 1 16 (eStr.fl ts) t HQ.out.own HB2.out Try.underlying23 Try.infoS rfl (by decide) (by decide) HTL.out (Enc.ones ts) At ct (HR0.out.below HQ.out.bel).rt HAt.out (.tmp 20) (.tmp 22) rfl rfl rfl rfl ?_
            intro v9 w9 ho hg hat
            rw [Nat.zero_add, List.nil_append] at ho
            obtain ⟨Bt, bt, rfl, _⟩ := ho.form
            have HQ := Lib.hid (HQ.out.app ho hg hat)
            clear ho hg hat
            refine hK.out _ _ (HC.out _ HQ.out.h4) (fun hHeld => ?_)
            try simp only [List.setIfInBounds_toArray, List.set_cons_zero, List.set_cons_succ]
            refine reg_take (i := 10) (d := 24) (v := ?_) [] rfl rfl (by kernel_rfl) (by kernel_rfl) (fun _ _ _ h => h) (Or.inl ⟨by rfl, ?_⟩) (by assumption) ?_
            rotate_left
            · (intro w hSw; (try dsimp only at hSw); go_simp; first | done | with_reducible rfl)
            try simp only [List.setIfInBounds_toArray, List.set_cons_zero, List.set_cons_succ]
            refine wpAnyL_ready (rs := [12]) (by kernel_rfl) rfl ?_
            refine (AllL.consJ rfl (by kernel_rfl) (fun K hK => ?_) AllL.nil)
            have HQ := Lib.hid HQ.out.sw
            have HZ := Lib.hid (show Blk _ gR zRec tRec from HQ.out.hd)
            have x0 := HZ.out.cell 0; have x1 := (HZ.out.set 0 (.int .i64 k)).cell 1; have x2 := ((HZ.out.set 0 (.int .i64 k)).set 1 (.slice Bn n bn)).cell 2
            have f0 := HZ.out.frozen 0; have f1 := (HZ.out.set 0 (.int .i64 k)).frozen 1; have f2 := ((HZ.out.set 0 (.int .i64 k)).set 1 (.slice Bn n bn)).frozen 2
            simp at x0 x1 x2
            go_simp
            refine hK.out _ _ ?_
            try simp only [List.setIfInBounds_toArray, List.set_cons_zero, List.set_cons_succ]
            refine wpAnyL_done (by kernel_rfl) ?_ _
            go_wp2
            go_meet
            refine ⟨gR, Bn, Bt, bn, bt, rfl, ?_⟩
            have HP := ((HZ.out.set 0 (.int .i64 k)).set 1 (.slice Bn n bn)).set 2 (.slice Bt t bt)
            refine (HQ.out.opc (t' := tBlk gR _ tRec) (S := fun k => k = gR) HP (Upd.setCell (S := fun k => k = gR) (p := ⟨gR, 2, none⟩) (Upd.setCell (S := fun k => k = gR) (p := ⟨gR, 1, none⟩) (Upd.setCell (S := fun k => k = gR) (p := ⟨gR, 0, none⟩) (Upd.refl _ _) (.inr rfl) _) (.inr rfl) _) (.inr rfl) _) (fun _ _ h => h) (fun k hk => .inl hk)).perm ?_
            exact List.Perm.cons _ (List.Perm.swap _ _ _)
        · go_simp
          obtain ⟨gR, hgR⟩ : ∃ z, w2.heap.size + 2 = z := ⟨_, rfl⟩
          have HGR := Lib.hid hgR
          have HQ := Lib.hid (HQ.out.newBlk zRec tRec (g := gR) (by rw [← hgR]; try simp))
          clear hgR
          rw [HGR.out]
          refine hK.out _ _ (HC.out _ HQ.out.h4) (fun hHeld => ?_)
          try simp only [List.setIfInBounds_toArray, List.set_cons_zero, List.set_cons_succ]
          refine wpAnyL_ready (rs := [5]) (by kernel_rfl) rfl ?_
          refine (AllL.cons rfl (fun K hK => ?_) AllL.nil)
          have HQ := Lib.hid HQ.out.sw
          refine stepA 22 tI (.int .i64 0) 1 8 (eI64.fl ns) n HQ.out.own HB1.out Try.underlying22 Try.infoI rfl (by decide) (by decide) HNL.out (Enc.ones ns) An cn (HR0.out.below HQ.out.bel).rn HAn.out (.tmp 16) (.tmp 18) rfl rfl rfl rfl ?_
          intro v5 w5 ho hg hat
          rw [Nat.zero_add, List.nil_append] at ho
          obtain ⟨Bn, bn, rfl, _⟩ := ho.form
          have HQ := Lib.hid (HQ.out.app ho hg hat)
          clear ho hg hat
          refine hK.out _ _ (HC.out _ HQ.out.h4) (fun hHeld => ?_)
          try simp only [List.setIfInBounds_toArray, List.set_cons_zero, List.set_cons_succ]
          refine wpAnyL_ready (rs := [9]) (by kernel_rfl) rfl ?_
          refine (AllL.cons rfl (fun K hK => ?_) AllL.nil)
          have HQ := Lib.hid HQ.out.r3
          refine stepA 23 tS (.string ByteArray.empty) 1 16 (eStr.fl ts) t HQ.out.own HB2.out Try.underlying23 Try.infoS rfl (by decide) (by decide) HTL.out (Enc.ones ts) At ct (HR0.out.below HQ.out.bel).rt HAt.out (.tmp 20) (.tmp 22) rfl rfl rfl rfl ?_
          intro v9 w9 ho hg hat
          rw [Nat.zero_add, List.nil_append] at ho
          obtain ⟨Bt, bt, rfl, _⟩ := ho.form
          have HQ := Lib.hid (HQ.out.app ho hg hat)
          clear ho hg hat
          refine hK.out _ _ (HC.out _ HQ.out.h4) (fun hHeld => ?_)
          try simp only [List.setIfInBounds_toArray, List.set_cons_zero, List.set_cons_succ]
          refine reg_take (i := 10) (d := 24) (v := ?_) [] rfl rfl (by kernel_rfl) (by kernel_rfl) (fun _ _ _ h => h) (Or.inl ⟨by rfl, ?_⟩) (by assumption) ?_
          rotate_left
          · (intro w hSw; (try dsimp only at hSw); go_simp; first | done | with_reducible rfl)
          try simp only [List.setIfInBounds_toArray, List.set_cons_zero, List.set_cons_succ]
          refine wpAnyL_ready (rs := [12]) (by kernel_rfl) rfl ?_
          refine (AllL.consJ rfl (by kernel_rfl) (fun K hK => ?_) AllL.nil)
          have HQ := Lib.hid HQ.out.r3
          have HZ := Lib.hid (show Blk _ gR zRec tRec from HQ.out.hd)
          have x0 := HZ.out.cell 0; have x1 := (HZ.out.set 0 (.int .i64 k)).cell 1; have x2 := ((HZ.out.set 0 (.int .i64 k)).set 1 (.slice Bn n bn)).cell 2
          have f0 := HZ.out.frozen 0; have f1 := (HZ.out.set 0 (.int .i64 k)).frozen 1; have f2 := ((HZ.out.set 0 (.int .i64 k)).set 1 (.slice Bn n bn)).frozen 2
          simp at x0 x1 x2
          go_simp
          refine hK.out _ _ ?_
          try simp only [List.setIfInBounds_toArray, List.set_cons_zero, List.set_cons_succ]
          refine wpAnyL_done (by kernel_rfl) ?_ _
          go_wp2
          go_meet
          refine ⟨gR, Bn, Bt, bn, bt, rfl, ?_⟩
          have HP := ((HZ.out.set 0 (.int .i64 k)).set 1 (.slice Bn n bn)).set 2 (.slice Bt t bt)
          refine (HQ.out.opc (t' := tBlk gR _ tRec) (S := fun k => k = gR) HP (Upd.setCell (S := fun k => k = gR) (p := ⟨gR, 2, none⟩) (Upd.setCell (S := fun k => k = gR) (p := ⟨gR, 1, none⟩) (Upd.setCell (S := fun k => k = gR) (p := ⟨gR, 0, none⟩) (Upd.refl _ _) (.inr rfl) _) (.inr rfl) _) (.inr rfl) _) (fun _ _ h => h) (fun k hk => .inl hk)).perm ?_
          exact List.Perm.cons _ (List.Perm.swap _ _ _)
      · go_simp
        obtain ⟨gR, hgR⟩ : ∃ z, w2.heap.size + 1 = z := ⟨_, rfl⟩
        have HGR := Lib.hid hgR
        have HQ := Lib.hid (HQ.out.newBlk zRec tRec (g := gR) (by rw [← hgR]; try simp))
        clear hgR
        rw [HGR.out]
        refine hK.out _ _ (HC.out _ HQ.out.h3) (fun hHeld => ?_)
        try simp only [List.setIfInBounds_toArray, List.set_cons_zero, List.set_cons_succ]
        refine wpAnyL_ready (rs := [2]) (by kernel_rfl) rfl ?_
        refine (AllL.cons rfl (fun K hK => ?_) AllL.nil)
        go_simp
        have HQ := Lib.hid (HQ.out.newRow tI 1 (g := w2.heap.size + 2) (by simp))
        refine hK.out _ _ (HC.out _ HQ.out.h4) (fun hHeld => ?_)
        try simp only [List.setIfInBounds_toArray, List.set_cons_zero, List.set_cons_succ]
        refine wpAnyL_ready (rs := [5]) (by kernel_rfl) rfl ?_
        refine (AllL.cons rfl (fun K hK => ?_) AllL.nil)
        have HQ := Lib.hid HQ.out
        refine stepA 22 tI (.int .i64 0) 1 8 (eI64.fl ns) n HQ.out.own HB1.out Try.underlying22 Try.infoI rfl (by decide) (by decide) HNL.out (Enc.ones ns) An cn (HR0.out.below HQ.out.bel).rn HAn.out (.tmp 16) (.tmp 18) rfl rfl rfl rfl ?_
        intro v5 w5 ho hg hat
        rw [Nat.zero_add, List.nil_append] at ho
        obtain ⟨Bn, bn, rfl, _⟩ := ho.form
        have HQ := Lib.hid (HQ.out.app ho hg hat)
        clear ho hg hat
        refine hK.out _ _ (HC.out _ HQ.out.h4) (fun hHeld => ?_)
        try simp only [List.setIfInBounds_toArray, List.set_cons_zero, List.set_cons_succ]
        refine wpAnyL_ready (rs := [9]) (by kernel_rfl) rfl ?_
        refine (AllL.cons rfl (fun K hK => ?_) AllL.nil)
        have HQ := Lib.hid HQ.out.r3
        refine stepA 23 tS (.string ByteArray.empty) 1 16 (eStr.fl ts) t HQ.out.own HB2.out Try.underlying23 Try.infoS rfl (by decide) (by decide) HTL.out (Enc.ones ts) At ct (HR0.out.below HQ.out.bel).rt HAt.out (.tmp 20) (.tmp 22) rfl rfl rfl rfl ?_
        intro v9 w9 ho hg hat
        rw [Nat.zero_add, List.nil_append] at ho
        obtain ⟨Bt, bt, rfl, _⟩ := ho.form
        have HQ := Lib.hid (HQ.out.app ho hg hat)
        clear ho hg hat
        refine hK.out _ _ (HC.out _ HQ.out.h4) (fun hHeld => ?_)
        try simp only [List.setIfInBounds_toArray, List.set_cons_zero, List.set_cons_succ]
        refine reg_take (i := 10) (d := 24) (v := ?_) [] rfl rfl (by kernel_rfl) (by kernel_rfl) (fun _ _ _ h => h) (Or.inl ⟨by rfl, ?_⟩) (by assumption) ?_
        rotate_left
        · (intro w hSw; (try dsimp only at hSw); go_simp; first | done | with_reducible rfl)
        try simp only [List.setIfInBounds_toArray, List.set_cons_zero, List.set_cons_succ]
        refine wpAnyL_ready (rs := [12]) (by kernel_rfl) rfl ?_
        refine (AllL.consJ rfl (by kernel_rfl) (fun K hK => ?_) AllL.nil)
        have HQ := Lib.hid HQ.out.r3
        have HZ := Lib.hid (show Blk _ gR zRec tRec from HQ.out.hd)
        have x0 := HZ.out.cell 0; have x1 := (HZ.out.set 0 (.int .i64 k)).cell 1; have x2 := ((HZ.out.set 0 (.int .i64 k)).set 1 (.slice Bn n bn)).cell 2
        have f0 := HZ.out.frozen 0; have f1 := (HZ.out.set 0 (.int .i64 k)).frozen 1; have f2 := ((HZ.out.set 0 (.int .i64 k)).set 1 (.slice Bn n bn)).frozen 2
        simp at x0 x1 x2
        go_simp
        refine hK.out _ _ ?_
        try simp only [List.setIfInBounds_toArray, List.set_cons_zero, List.set_cons_succ]
        refine wpAnyL_done (by kernel_rfl) ?_ _
        go_wp2
        go_meet
        refine ⟨gR, Bn, Bt, bn, bt, rfl, ?_⟩
        have HP := ((HZ.out.set 0 (.int .i64 k)).set 1 (.slice Bn n bn)).set 2 (.slice Bt t bt)
        refine (HQ.out.opc (t' := tBlk gR _ tRec) (S := fun k => k = gR) HP (Upd.setCell (S := fun k => k = gR) (p := ⟨gR, 2, none⟩) (Upd.setCell (S := fun k => k = gR) (p := ⟨gR, 1, none⟩) (Upd.setCell (S := fun k => k = gR) (p := ⟨gR, 0, none⟩) (Upd.refl _ _) (.inr rfl) _) (.inr rfl) _) (.inr rfl) _) (fun _ _ h => h) (fun k hk => .inl hk)).perm ?_
        exact List.Perm.cons _ (List.Perm.swap _ _ _)
    · go_simp
      obtain ⟨gR, hgR⟩ : ∃ z, w2.heap.size = z := ⟨_, rfl⟩
      have HGR := Lib.hid hgR
      have HQ := Lib.hid (HQ.out.newBlk zRec tRec (g := gR) (by rw [← hgR]; try simp))
      clear hgR
      rw [HGR.out]
      refine hK.out _ _ (HC.out _ HQ.out.h2) (fun hHeld => ?_)
      try simp only [List.setIfInBounds_toArray, List.set_cons_zero, List.set_cons_succ]
      refine wpAnyL_ready (rs := [2, 6]) (by kernel_rfl) rfl ?_
      refine (AllL.cons rfl (fun K hK => ?_) (AllL.cons rfl (fun K hK => ?_) AllL.nil))
      · go_simp
        have HQ := Lib.hid (HQ.out.newRow tI 1 (g := w2.heap.size + 1) (by simp))
        refine hK.out _ _ (HC.out _ HQ.out.h3) (fun hHeld => ?_)
        try simp only [List.setIfInBounds_toArray, List.set_cons_zero, List.set_cons_succ]
        refine wpAnyL_ready (rs := [5, 6]) (by kernel_rfl) rfl ?_
        refine (AllL.cons rfl (fun K hK => ?_) (AllL.cons rfl (fun K hK => ?_) AllL.nil))
        · have HQ := Lib.hid HQ.out
          refine stepA 22 tI (.int .i64 0) 1 8 (eI64.fl ns) n HQ.out.own HB1.out Try.underlying22 Try.infoI rfl (by decide) (by decide) HNL.out (Enc.ones ns) An cn (HR0.out.below HQ.out.bel).rn HAn.out (.tmp 16) (.tmp 18) rfl rfl rfl rfl ?_
          intro v5 w5 ho hg hat
          rw [Nat.zero_add, List.nil_append] at ho
          obtain ⟨Bn, bn, rfl, _⟩ := ho.form
          have HQ := Lib.hid (HQ.out.app ho hg hat)
          clear ho hg hat
          refine hK.out _ _ (HC.out _ HQ.out.h3) (fun hHeld => ?_)
          try simp only [List.setIfInBounds_toArray, List.set_cons_zero, List.set_cons_succ]
          refine wpAnyL_ready (rs := [6]) (by kernel_rfl) rfl ?_
          refine (AllL.cons rfl (fun K hK => ?_) AllL.nil)
          go_simp
          have HQ := Lib.hid (HQ.out.newRow tS 1 (g := w5.heap.size) (by simp))
          refine hK.out _ _ (HC.out _ HQ.out.h4) (fun hHeld => ?_)
          try simp only [List.setIfInBounds_toArray, List.set_cons_zero, List.set_cons_succ]
          refine wpAnyL_ready (rs := [9]) (by kernel_rfl) rfl ?_
          refine (AllL.cons rfl (fun K hK => ?_) AllL.nil)
          have HQ := Lib.hid HQ.out
          refine stepA 23 tS (.string ByteArray.empty) 1 16 (eStr.fl ts) t HQ.out.own HB2.out Try.underlying23 Try.infoS rfl (by decide) (by decide) HTL.out (Enc.ones ts) At ct (HR0.out.below HQ.out.bel).rt HAt.out (.tmp 20) (.tmp 22) rfl rfl rfl rfl ?_
          intro v9 w9 ho hg hat
          rw [Nat.zero_add, List.nil_append] at ho
          obtain ⟨Bt, bt, rfl, _⟩ := ho.form
          have HQ := Lib.hid (HQ.out.app ho hg hat)
          clear ho hg hat
          refine hK.out _ _ (HC.out _ HQ.out.h4) (fun hHeld => ?_)
          try simp only [List.setIfInBounds_toArray, List.set_cons_zero, List.set_cons_succ]
          refine reg_take (i := 10) (d := 24) (v := ?_) [] rfl rfl (by kernel_rfl) (by kernel_rfl) (fun _ _ _ h => h) (Or.inl ⟨by rfl, ?_⟩) (by assumption) ?_
          rotate_left
          · (intro w hSw; (try dsimp only at hSw); go_simp; first | done | with_reducible rfl)
          try simp only [List.setIfInBounds_toArray, List.set_cons_zero, List.set_cons_succ]
          refine wpAnyL_ready (rs := [12]) (by kernel_rfl) rfl ?_
          refine (AllL.consJ rfl (by kernel_rfl) (fun K hK => ?_) AllL.nil)
          have HQ := Lib.hid HQ.out.r3
          have HZ := Lib.hid (show Blk _ gR zRec tRec from HQ.out.hd)
          have x0 := HZ.out.cell 0; have x1 := (HZ.out.set 0 (.int .i64 k)).cell 1; have x2 := ((HZ.out.set 0 (.int .i64 k)).set 1 (.slice Bn n bn)).cell 2
          have f0 := HZ.out.frozen 0; have f1 := (HZ.out.set 0 (.int .i64 k)).frozen 1; have f2 := ((HZ.out.set 0 (.int .i64 k)).set 1 (.slice Bn n bn)).frozen 2
          simp at x0 x1 x2
          go_simp
          refine hK.out _ _ ?_
          try simp only [List.setIfInBounds_toArray, List.set_cons_zero, List.set_cons_succ]
          refine wpAnyL_done (by kernel_rfl) ?_ _
          go_wp2
          go_meet
          refine ⟨gR, Bn, Bt, bn, bt, rfl, ?_⟩
          have HP := ((HZ.out.set 0 (.int .i64 k)).set 1 (.slice Bn n bn)).set 2 (.slice Bt t bt)
          refine (HQ.out.opc (t' := tBlk gR _ tRec) (S := fun k => k = gR) HP (Upd.setCell (S := fun k => k = gR) (p := ⟨gR, 2, none⟩) (Upd.setCell (S := fun k => k = gR) (p := ⟨gR, 1, none⟩) (Upd.setCell (S := fun k => k = gR) (p := ⟨gR, 0, none⟩) (Upd.refl _ _) (.inr rfl) _) (.inr rfl) _) (.inr rfl) _) (fun _ _ h => h) (fun k hk => .inl hk)).perm ?_
          exact List.Perm.cons _ (List.Perm.swap _ _ _)
        · go_simp
          have HQ := Lib.hid (HQ.out.newRow tS 1 (g := w2.heap.size + 2) (by simp))
          refine hK.out _ _ (HC.out _ HQ.out.h4) (fun hHeld => ?_)
          try simp only [List.setIfInBounds_toArray, List.set_cons_zero, List.set_cons_succ]
          refine wpAnyL_ready (rs := [5]) (by kernel_rfl) rfl ?_
          refine (AllL.cons rfl (fun K hK => ?_) AllL.nil)
          have HQ := Lib.hid HQ.out.sw
          refine stepA 22 tI (.int .i64 0) 1 8 (eI64.fl ns) n HQ.out.own HB1.out Try.underlying22 Try.infoI rfl (by decide) (by decide) HNL.out (Enc.ones ns) An cn (HR0.out.below HQ.out.bel).rn HAn.out (.tmp 16) (.tmp 18) rfl rfl rfl rfl ?_
          intro v5 w5 ho hg hat
          rw [Nat.zero_add, List.nil_append] at ho
          obtain ⟨Bn, bn, rfl, _⟩ := ho.form
          have HQ := Lib.hid (HQ.out.app ho hg hat)
          clear ho hg hat
          refine hK.out _ _ (HC.out _ HQ.out.h4) (fun hHeld => ?_)
          try simp only [List.setIfInBounds_toArray, List.set_cons_zero, List.set_cons_succ]
          refine wpAnyL_ready (rs := [9]) (by kernel_rfl) rfl ?_
          refine (AllL.cons rfl (fun K hK => ?_) AllL.nil)
          have HQ := Lib.hid HQ.out.sw
          refine stepA 23 tS (.string ByteArray.empty) 1 16 (eStr.fl ts) t HQ.out.own HB2.out Try.underlying23 Try.infoS rfl (by decide) (by decide) HTL.out (Enc.ones ts) At ct (HR0.out.below HQ.out.bel).rt HAt.out (.tmp 20) (.tmp 22) rfl rfl rfl rfl ?_
          intro v9 w9 ho hg hat
          rw [Nat.zero_add, List.nil_append] at ho
          obtain ⟨Bt, bt, rfl, _⟩ := ho.form
          have HQ := Lib.hid (HQ.out.app ho hg hat)
          clear ho hg hat
          refine hK.out _ _ (HC.out _ HQ.out.h4) (fun hHeld => ?_)
          try simp only [List.setIfInBounds_toArray, List.set_cons_zero, List.set_cons_succ]
          refine reg_take (i := 10) (d := 24) (v := ?_) [] rfl rfl (by kernel_rfl) (by kernel_rfl) (fun _ _ _ h => h) (Or.inl ⟨by rfl, ?_⟩) (by assumption) ?_
          rotate_left
          · (intro w hSw; (try dsimp only at hSw); go_simp; first | done | with_reducible rfl)
          try simp only [List.setIfInBounds_toArray, List.set_cons_zero, List.set_cons_succ]
          refine wpAnyL_ready (rs := [12]) (by kernel_rfl) rfl ?_
          refine (AllL.consJ rfl (by kernel_rfl) (fun K hK => ?_) AllL.nil)
          have HQ := Lib.hid HQ.out.r3
          have HZ := Lib.hid (show Blk _ gR zRec tRec from HQ.out.hd)
          have x0 := HZ.out.cell 0; have x1 := (HZ.out.set 0 (.int .i64 k)).cell 1; have x2 := ((HZ.out.set 0 (.int .i64 k)).set 1 (.slice Bn n bn)).cell 2
          have f0 := HZ.out.frozen 0; have f1 := (HZ.out.set 0 (.int .i64 k)).frozen 1; have f2 := ((HZ.out.set 0 (.int .i64 k)).set 1 (.slice Bn n bn)).frozen 2
          simp at x0 x1 x2
          go_simp
          refine hK.out _ _ ?_
          try simp only [List.setIfInBounds_toArray, List.set_cons_zero, List.set_cons_succ]
          refine wpAnyL_done (by kernel_rfl) ?_ _
          go_wp2
          go_meet
          refine ⟨gR, Bn, Bt, bn, bt, rfl, ?_⟩
          have HP := ((HZ.out.set 0 (.int .i64 k)).set 1 (.slice Bn n bn)).set 2 (.slice Bt t bt)
          refine (HQ.out.opc (t' := tBlk gR _ tRec) (S := fun k => k = gR) HP (Upd.setCell (S := fun k => k = gR) (p := ⟨gR, 2, none⟩) (Upd.setCell (S := fun k => k = gR) (p := ⟨gR, 1, none⟩) (Upd.setCell (S := fun k => k = gR) (p := ⟨gR, 0, none⟩) (Upd.refl _ _) (.inr rfl) _) (.inr rfl) _) (.inr rfl) _) (fun _ _ h => h) (fun k hk => .inl hk)).perm ?_
          exact List.Perm.cons _ (List.Perm.swap _ _ _)
      · go_simp
        have HQ := Lib.hid (HQ.out.newRow tS 1 (g := w2.heap.size + 1) (by simp))
        refine hK.out _ _ (HC.out _ HQ.out.h3) (fun hHeld => ?_)
        try simp only [List.setIfInBounds_toArray, List.set_cons_zero, List.set_cons_succ]
        refine wpAnyL_ready (rs := [2]) (by kernel_rfl) rfl ?_
        refine (AllL.cons rfl (fun K hK => ?_) AllL.nil)
        go_simp
        have HQ := Lib.hid (HQ.out.newRow tI 1 (g := w2.heap.size + 2) (by simp))
        refine hK.out _ _ (HC.out _ HQ.out.h4) (fun hHeld => ?_)
        try simp only [List.setIfInBounds_toArray, List.set_cons_zero, List.set_cons_succ]
        refine wpAnyL_ready (rs := [5]) (by kernel_rfl) rfl ?_
        refine (AllL.cons rfl (fun K hK => ?_) AllL.nil)
        have HQ := Lib.hid HQ.out
        refine stepA 22 tI (.int .i64 0) 1 8 (eI64.fl ns) n HQ.out.own HB1.out Try.underlying22 Try.infoI rfl (by decide) (by decide) HNL.out (Enc.ones ns) An cn (HR0.out.below HQ.out.bel).rn HAn.out (.tmp 16) (.tmp 18) rfl rfl rfl rfl ?_
        intro v5 w5 ho hg hat
        rw [Nat.zero_add, List.nil_append] at ho
        obtain ⟨Bn, bn, rfl, _⟩ := ho.form
        have HQ := Lib.hid (HQ.out.app ho hg hat)
        clear ho hg hat
        refine hK.out _ _ (HC.out _ HQ.out.h4) (fun hHeld => ?_)
        try simp only [List.setIfInBounds_toArray, List.set_cons_zero, List.set_cons_succ]
        refine wpAnyL_ready (rs := [9]) (by kernel_rfl) rfl ?_
        refine (AllL.cons rfl (fun K hK => ?_) AllL.nil)
        have HQ := Lib.hid HQ.out.sw
        refine stepA 23 tS (.string ByteArray.empty) 1 16 (eStr.fl ts) t HQ.out.own HB2.out Try.underlying23 Try.infoS rfl (by decide) (by decide) HTL.out (Enc.ones ts) At ct (HR0.out.below HQ.out.bel).rt HAt.out (.tmp 20) (.tmp 22) rfl rfl rfl rfl ?_
        intro v9 w9 ho hg hat
        rw [Nat.zero_add, List.nil_append] at ho
        obtain ⟨Bt, bt, rfl, _⟩ := ho.form
        have HQ := Lib.hid (HQ.out.app ho hg hat)
        clear ho hg hat
        refine hK.out _ _ (HC.out _ HQ.out.h4) (fun hHeld => ?_)
        try simp only [List.setIfInBounds_toArray, List.set_cons_zero, List.set_cons_succ]
        refine reg_take (i := 10) (d := 24) (v := ?_) [] rfl rfl (by kernel_rfl) (by kernel_rfl) (fun _ _ _ h => h) (Or.inl ⟨by rfl, ?_⟩) (by assumption) ?_
        rotate_left
        · (intro w hSw; (try dsimp only at hSw); go_simp; first | done | with_reducible rfl)
        try simp only [List.setIfInBounds_toArray, List.set_cons_zero, List.set_cons_succ]
        refine wpAnyL_ready (rs := [12]) (by kernel_rfl) rfl ?_
        refine (AllL.consJ rfl (by kernel_rfl) (fun K hK => ?_) AllL.nil)
        have HQ := Lib.hid HQ.out.r3
        have HZ := Lib.hid (show Blk _ gR zRec tRec from HQ.out.hd)
        have x0 := HZ.out.cell 0; have x1 := (HZ.out.set 0 (.int .i64 k)).cell 1; have x2 := ((HZ.out.set 0 (.int .i64 k)).set 1 (.slice Bn n bn)).cell 2
        have f0 := HZ.out.frozen 0; have f1 := (HZ.out.set 0 (.int .i64 k)).frozen 1; have f2 := ((HZ.out.set 0 (.int .i64 k)).set 1 (.slice Bn n bn)).frozen 2
        simp at x0 x1 x2
        go_simp
        refine hK.out _ _ ?_
        try simp only [List.setIfInBounds_toArray, List.set_cons_zero, List.set_cons_succ]
        refine wpAnyL_done (by kernel_rfl) ?_ _
        go_wp2
        go_meet
        refine ⟨gR, Bn, Bt, bn, bt, rfl, ?_⟩
        have HP := ((HZ.out.set 0 (.int .i64 k)).set 1 (.slice Bn n bn)).set 2 (.slice Bt t bt)
        refine (HQ.out.opc (t' := tBlk gR _ tRec) (S := fun k => k = gR) HP (Upd.setCell (S := fun k => k = gR) (p := ⟨gR, 2, none⟩) (Upd.setCell (S := fun k => k = gR) (p := ⟨gR, 1, none⟩) (Upd.setCell (S := fun k => k = gR) (p := ⟨gR, 0, none⟩) (Upd.refl _ _) (.inr rfl) _) (.inr rfl) _) (.inr rfl) _) (fun _ _ h => h) (fun k hk => .inl hk)).perm ?_
        exact List.Perm.cons _ (List.Perm.swap _ _ _)
  case rest =>
  clear HS HB1 HB2 HNL HTL
  obtain ⟨f, Bn, Bt, bn, bt, rfl, hS⟩ := hcut
  have HS := Lib.hid hS
  have HQ := Lib.hid (show RecAt wc ⟨k, ns, ts⟩ Bn Bt n t bn bt from ⟨HN.out.1, HN.out.2, Own.rd hS.h2, Own.rd hS.h3, hb, hb2⟩)
  clear hS
  have HC' : Hid (∀ w', Blk w' f #[.int .i64 k, .slice Bn n bn, .slice Bt t bt] tRec → w'.cell? ⟨f, 0, none⟩ = some (.int .i64 k) ∧ w'.cell? ⟨f, 1, none⟩ = some (.slice Bn n bn) ∧ w'.cell? ⟨f, 2, none⟩ = some (.slice Bt t bt)) := Lib.hid (fun w' h => ⟨h.cell 0, h.cell 1, h.cell 2⟩)
  obtain ⟨y0, y1, y2⟩ := HC'.out _ HS.out.hd
  obtain ⟨m, hm⟩ : ∃ m, (outB ⟨k, ns, ts⟩).length = m := ⟨_, rfl⟩
  obtain ⟨er, her⟩ : ∃ m, erB ⟨k, ns, ts⟩ = m := ⟨_, rfl⟩
  have HM := Lib.hid hm
  have HER := Lib.hid her
  have hmb : m ≤ 1162 := by
    rw [← hm]
    unfold outB
    split
    · rename_i h; exact enc_bound h HI.out
    · simp
  clear hm her
  go_wp2_with fail
  refine (encode_any k ns ts Bn Bt n t bn bt _ HQ.out HI.out).mono ?_
  rw [HM.out, HER.out]
  rintro e x1 ⟨A6, c6, rfl, hB, hr⟩
  have HS := Lib.hid (HS.out.step hB); have HQ := Lib.hid (HQ.out.below hB); have HR6 := Lib.hid hr
  clear hB hr y0 y1 y2
  obtain ⟨y0, y1, y2⟩ := HC.out _ HS.out.h4
  go_wp2_with fail
  refine (rencode_any k ns ts An At n t cn ct _ (HR0.out.below HS.out.bel) HI.out).mono ?_
  rw [HM.out, HER.out]
  rintro e x2 ⟨A8, c8, rfl, hB, hr⟩
  have HS := Lib.hid (HS.out.step hB); have HQ := Lib.hid (HQ.out.below hB); have HR6 := Lib.hid (HR6.out.below hB); have HR8 := Lib.hid hr
  clear hB hr y0 y1 y2
  obtain ⟨s, hs⟩ : ∃ s : ByteArray, ⟨(outB ⟨k, ns, ts⟩).toArray⟩ = s := ⟨_, rfl⟩
  obtain ⟨z, hz⟩ : ∃ s : ByteArray, ⟨(numB a1).toArray⟩ = s := ⟨_, rfl⟩
  have HZ := Lib.hid hz
  have HCS : Hid (∀ w', Below x2.heap.size x2 w' → w'.cell? ⟨g, 0, none⟩ = some (.int .i64 k) ∧ w'.cell? ⟨g, 1, none⟩ = some (.slice An n cn) ∧ w'.cell? ⟨g, 2, none⟩ = some (.slice At t ct) ∧ w'.cell? ⟨f, 0, none⟩ = some (.int .i64 k) ∧ w'.cell? ⟨f, 1, none⟩ = some (.slice Bn n bn) ∧ w'.cell? ⟨f, 2, none⟩ = some (.slice Bt t bt) ∧ (convert 28 9 (.slice A6 m c6)).run Try.prog w' = .ok (.string s) w' ∧ (convert 28 9 (.slice A8 m c8)).run Try.prog w' = .ok (.string s) w') := Lib.hid (fun w' h => by
    obtain ⟨a, b, c⟩ := HC.out _ (HS.out.step h).h4
    obtain ⟨a', b', c'⟩ := HC'.out _ (HS.out.step h).hd
    refine ⟨a, b, c, a', b', c', ?_, ?_⟩
    · rw [← hs]; exact conv_str w' A6 c6 _ (HR6.out.below h) m HM.out
    · rw [← hs]; exact conv_str w' A8 c8 _ (HR8.out.below h) m HM.out)
  have HSZ := Lib.hid (show (if mayB ⟨k, ns, ts⟩ = true then (encB ⟨k, ns, ts⟩).length else 0) = m by rw [← HM.out]; unfold outB; split <;> rfl)
  have HSA := Lib.hid (sameB_iff.2 (rfl : (⟨k, ns, ts⟩ : Rec) = ⟨k, ns, ts⟩))
  clear hs hz HR6 HR8 HC HC'
  obtain ⟨mb, hmb2⟩ : ∃ b, mayB ⟨k, ns, ts⟩ = b := ⟨_, rfl⟩
  have HMB := Lib.hid hmb2
  obtain ⟨q, hq⟩ : ∃ q, (numB a1).length = q := ⟨_, rfl⟩
  have HNB := Lib.hid hq
  clear hq hmb2
  go_upto_region 8 with fail
  have HB := Lib.hid (show Below x2.heap.size x2 x2.drew from Below.drew (Below.refl _ _))
  refine wp_region_L (fun w' => w'.cell? ⟨g, 0, none⟩ = some (.int .i64 k) ∧ w'.cell? ⟨g, 1, none⟩ = some (.slice An n cn) ∧ w'.cell? ⟨g, 2, none⟩ = some (.slice At t ct) ∧ w'.cell? ⟨f, 0, none⟩ = some (.int .i64 k) ∧ w'.cell? ⟨f, 1, none⟩ = some (.slice Bn n bn) ∧ w'.cell? ⟨f, 2, none⟩ = some (.slice Bt t bt) ∧ (convert 28 9 (.slice A6 m c6)).run Try.prog w' = .ok (.string s) w' ∧ (convert 28 9 (.slice A8 m c8)).run Try.prog w' = .ok (.string s) w') 39 (by kernel_rfl) (HCS.out _ HB.out) (fun hHeld => ?_)
  refine reg_take (i := 0) (d := 35) (v := ?_) [] rfl rfl (by kernel_rfl) (by kernel_rfl) (fun _ _ _ h => h) (Or.inl ⟨by rfl, ?_⟩) (by assumption) ?_
  rotate_left
  · (intro w hSw; (try dsimp only at hSw); go_simp; first | done | with_reducible rfl)
  try simp only [List.setIfInBounds_toArray, List.set_cons_zero, List.set_cons_succ]
  refine reg_take (i := 1) (d := 36) (v := ?_) [] rfl rfl (by kernel_rfl) (by kernel_rfl) (fun _ _ _ h => h) (Or.inl ⟨by rfl, ?_⟩) (by assumption) ?_
  rotate_left
  · (intro w hSw; (try dsimp only at hSw); go_simp; first | done | with_reducible rfl)
  try simp only [List.setIfInBounds_toArray, List.set_cons_zero, List.set_cons_succ]
  refine reg_take (i := 2) (d := 37) (v := ?_) [] rfl rfl (by kernel_rfl) (by kernel_rfl) (fun _ _ _ h => h) (Or.inl ⟨by rfl, ?_⟩) (by assumption) ?_
  rotate_left
  · (intro w hSw; (try dsimp only at hSw); go_simp; first | done | with_reducible rfl)
  try simp only [List.setIfInBounds_toArray, List.set_cons_zero, List.set_cons_succ]
  refine reg_take (i := 3) (d := 38) (v := ?_) [] rfl rfl (by kernel_rfl) (by kernel_rfl) (fun _ _ _ h => h) (Or.inl ⟨by rfl, ?_⟩) (by assumption) ?_
  rotate_left
  · (intro w hSw; (try dsimp only at hSw); go_simp; first | done | with_reducible rfl)
  try simp only [List.setIfInBounds_toArray, List.set_cons_zero, List.set_cons_succ]
  refine reg_take (i := 4) (d := 39) (v := ?_) [] rfl rfl (by kernel_rfl) (by kernel_rfl) (fun _ _ _ h => h) (Or.inl ⟨by rfl, ?_⟩) (by assumption) ?_
  rotate_left
  · (intro w hSw; (try dsimp only at hSw); go_simp; first | done | with_reducible rfl)
  try simp only [List.setIfInBounds_toArray, List.set_cons_zero, List.set_cons_succ]
  refine reg_take (i := 5) (d := 40) (v := ?_) [] rfl rfl (by kernel_rfl) (by kernel_rfl) (fun _ _ _ h => h) (Or.inl ⟨by rfl, ?_⟩) (by assumption) ?_
  rotate_left
  · (intro w hSw; (try dsimp only at hSw); go_simp; first | done | with_reducible rfl)
  try simp only [List.setIfInBounds_toArray, List.set_cons_zero, List.set_cons_succ]
  refine reg_take (i := 6) (d := 41) (v := ?_) [] rfl rfl (by kernel_rfl) (by kernel_rfl) (fun _ _ _ h => h) (Or.inl ⟨by rfl, ?_⟩) (by assumption) ?_
  rotate_left
  · (intro w hSw; (try dsimp only at hSw); go_simp; first | done | with_reducible rfl)
  try simp only [List.setIfInBounds_toArray, List.set_cons_zero, List.set_cons_succ]
  refine reg_take (i := 7) (d := 42) (v := ?_) [] rfl rfl (by kernel_rfl) (by kernel_rfl) (fun _ _ _ h => h) (Or.inl ⟨by rfl, ?_⟩) (by assumption) ?_
  rotate_left
  · (intro w hSw; (try dsimp only at hSw); go_simp; first | done | with_reducible rfl)
  try simp only [List.setIfInBounds_toArray, List.set_cons_zero, List.set_cons_succ]
  refine reg_take (i := 8) (d := 43) (v := ?_) [] rfl rfl (by kernel_rfl) (by kernel_rfl) (fun _ _ _ h => h) (Or.inl ⟨by rfl, ?_⟩) (by assumption) ?_
  rotate_left
  · (intro w hSw; (try dsimp only at hSw); go_simp; first | done | with_reducible rfl)
  try simp only [List.setIfInBounds_toArray, List.set_cons_zero, List.set_cons_succ]
  refine reg_take (i := 9) (d := 44) (v := ?_) [] rfl rfl (by kernel_rfl) (by kernel_rfl) (fun _ _ _ h => h) (Or.inl ⟨by rfl, ?_⟩) (by assumption) ?_
  rotate_left
  · (intro w hSw; (try dsimp only at hSw); go_simp; first | done | with_reducible rfl)
  try simp only [List.setIfInBounds_toArray, List.set_cons_zero, List.set_cons_succ]
  refine reg_take (i := 10) (d := 45) (v := ?_) [] rfl rfl (by kernel_rfl) (by kernel_rfl) (fun _ _ _ h => h) (Or.inl ⟨by rfl, ?_⟩) (by assumption) ?_
  rotate_left
  · (intro w hSw; (try dsimp only at hSw); go_simp; first | done | with_reducible rfl)
  try simp only [List.setIfInBounds_toArray, List.set_cons_zero, List.set_cons_succ]
  refine reg_take (i := 11) (d := 46) (v := ?_) [] rfl rfl (by kernel_rfl) (by kernel_rfl) (fun _ _ _ h => h) (Or.inl ⟨by rfl, ?_⟩) (by assumption) ?_
  rotate_left
  · (intro w hSw; (try dsimp only at hSw); go_simp; first | done | with_reducible rfl)
  try simp only [List.setIfInBounds_toArray, List.set_cons_zero, List.set_cons_succ]
  refine reg_take (i := 13) (d := 48) (v := ?_) [] rfl rfl (by kernel_rfl) (by kernel_rfl) (fun _ _ _ h => h) (Or.inl ⟨by rfl, ?_⟩) (by assumption) ?_
  rotate_left
  · (intro w hSw; (try dsimp only at hSw); go_simp; first | done | with_reducible rfl)
  try simp only [List.setIfInBounds_toArray, List.set_cons_zero, List.set_cons_succ]
  refine wpAnyL_ready (rs := [12]) (by kernel_rfl) rfl ?_
  refine (AllL.cons rfl (fun K hK => ?_) AllL.nil)
  go_simp
  go_at_call 16
  refine (may_any ⟨k, ns, ts⟩ Bn Bt n t bn bt _ (HQ.out.below HB.out)).mono ?_
  rw [HMB.out]
  rintro e4 w4 ⟨rfl, hB⟩
  have HB := Lib.hid (HB.out.trans (hB.mono HB.out.size))
  clear hB
  go_simp
  refine hK.out _ _ (HCS.out _ HB.out) (fun hHeld => ?_)
  try simp only [List.setIfInBounds_toArray, List.set_cons_zero, List.set_cons_succ]
  refine wpAnyL_ready (rs := [14]) (by kernel_rfl) rfl ?_
  refine (AllL.cons rfl (fun K hK => ?_) AllL.nil)
  go_simp
  go_at_call 17
  refine (rmay_any ⟨k, ns, ts⟩ An At n t cn ct _ (HR0.out.below (HS.out.step HB.out).bel)).mono ?_
  rw [HMB.out]
  rintro e4 w4 ⟨rfl, hB⟩
  have HB := Lib.hid (HB.out.trans (hB.mono HB.out.size))
  clear hB
  go_simp
  refine hK.out _ _ (HCS.out _ HB.out) (fun hHeld => ?_)
  try simp only [List.setIfInBounds_toArray, List.set_cons_zero, List.set_cons_succ]
  refine reg_take (i := 15) (d := 50) (v := ?_) [] rfl rfl (by kernel_rfl) (by kernel_rfl) (fun _ _ _ h => h) (Or.inl ⟨by rfl, ?_⟩) (by assumption) ?_
  rotate_left
  · (intro w hSw; (try dsimp only at hSw); go_simp; first | done | with_reducible rfl)
  try simp only [List.setIfInBounds_toArray, List.set_cons_zero, List.set_cons_succ]
  refine reg_take (i := 16) (d := 51) (v := ?_) [] rfl rfl (by kernel_rfl) (by kernel_rfl) (fun _ _ _ h => h) (Or.inl ⟨by rfl, ?_⟩) (by assumption) ?_
  rotate_left
  · (intro w hSw; (try dsimp only at hSw); go_simp; first | done | with_reducible rfl)
  try simp only [List.setIfInBounds_toArray, List.set_cons_zero, List.set_cons_succ]
  refine reg_take (i := 17) (d := 52) (v := ?_) [] rfl rfl (by kernel_rfl) (by kernel_rfl) (fun _ _ _ h => h) (Or.inl ⟨by rfl, ?_⟩) (by assumption) ?_
  rotate_left
  · (intro w hSw; (try dsimp only at hSw); go_simp; first | done | with_reducible rfl)
  try simp only [List.setIfInBounds_toArray, List.set_cons_zero, List.set_cons_succ]
  refine reg_take (i := 18) (d := 53) (v := ?_) [] rfl rfl (by kernel_rfl) (by kernel_rfl) (fun _ _ _ h => h) (Or.inl ⟨by rfl, ?_⟩) (by assumption) ?_
  rotate_left
  · (intro w hSw; (try dsimp only at hSw); go_simp; first | done | with_reducible rfl)
  try simp only [List.setIfInBounds_toArray, List.set_cons_zero, List.set_cons_succ]
  refine reg_take (i := 20) (d := 55) (v := ?_) [] rfl rfl (by kernel_rfl) (by kernel_rfl) (fun _ _ _ h => h) (Or.inl ⟨by rfl, ?_⟩) (by assumption) ?_
  rotate_left
  · (intro w hSw; (try dsimp only at hSw); go_simp; first | done | with_reducible rfl)
  try simp only [List.setIfInBounds_toArray, List.set_cons_zero, List.set_cons_succ]
  refine reg_take (i := 21) (d := 56) (v := ?_) [] rfl rfl (by kernel_rfl) (by kernel_rfl) (fun _ _ _ h => h) (Or.inl ⟨by rfl, ?_⟩) (by assumption) ?_
  rotate_left
  · (intro w hSw; (try dsimp only at hSw); go_simp; first | done | with_reducible rfl)
  try simp only [List.setIfInBounds_toArray, List.set_cons_zero, List.set_cons_succ]
  refine wpAnyL_ready (rs := [19]) (by kernel_rfl) rfl ?_
  refine (AllL.cons rfl (fun K hK => ?_) AllL.nil)
  go_simp
  go_at_call 18
  refine (size_any k ns ts Bn Bt n t bn bt _ (HQ.out.below HB.out) HI.out).mono ?_
  rw [HSZ.out]
  rintro e4 w4 ⟨rfl, hB⟩
  have HB := Lib.hid (HB.out.trans (hB.mono HB.out.size))
  clear hB
  go_simp
  refine hK.out _ _ (HCS.out _ HB.out) (fun hHeld => ?_)
  try simp only [List.setIfInBounds_toArray, List.set_cons_zero, List.set_cons_succ]
  refine reg_take (i := 22) (d := 57) (v := ?_) [] rfl rfl (by kernel_rfl) (by kernel_rfl) (fun _ _ _ h => h) (Or.inl ⟨by rfl, ?_⟩) (by assumption) ?_
  rotate_left
  · (intro w hSw; (try dsimp only at hSw); go_simp; first | done | with_reducible rfl)
  try simp only [List.setIfInBounds_toArray, List.set_cons_zero, List.set_cons_succ]
  refine reg_take (i := 23) (d := 58) (v := ?_) [] rfl rfl (by kernel_rfl) (by kernel_rfl) (fun _ _ _ h => h) (Or.inl ⟨by rfl, ?_⟩) (by assumption) ?_
  rotate_left
  · (intro w hSw; (try dsimp only at hSw); go_simp; first | done | with_reducible rfl)
  try simp only [List.setIfInBounds_toArray, List.set_cons_zero, List.set_cons_succ]
  refine reg_take (i := 24) (d := 59) (v := ?_) [] rfl rfl (by kernel_rfl) (by kernel_rfl) (fun _ _ _ h => h) (Or.inl ⟨by rfl, ?_⟩) (by assumption) ?_
  rotate_left
  · (intro w hSw; (try dsimp only at hSw); go_simp; first | done | with_reducible rfl)
  try simp only [List.setIfInBounds_toArray, List.set_cons_zero, List.set_cons_succ]
  refine reg_take (i := 25) (d := 60) (v := ?_) [] rfl rfl (by kernel_rfl) (by kernel_rfl) (fun _ _ _ h => h) (Or.inl ⟨by rfl, ?_⟩) (by assumption) ?_
  rotate_left
  · (intro w hSw; (try dsimp only at hSw); go_simp; first | done | with_reducible rfl)
  try simp only [List.setIfInBounds_toArray, List.set_cons_zero, List.set_cons_succ]
  refine reg_take (i := 28) (d := 63) (v := ?_) [] rfl rfl (by kernel_rfl) (by kernel_rfl) (fun _ _ _ h => h) (Or.inl ⟨by rfl, ?_⟩) (by assumption) ?_
  rotate_left
  · (intro w hSw; (try dsimp only at hSw); go_simp; first | done | with_reducible rfl)
  try simp only [List.setIfInBounds_toArray, List.set_cons_zero, List.set_cons_succ]
  refine wpAnyL_ready (rs := [26]) (by kernel_rfl) rfl ?_
  refine (AllL.cons rfl (fun K hK => ?_) AllL.nil)
  go_simp
  go_at_call 19
  refine (number_any a1 _ H1.out).mono ?_
  rintro e4 w6 ⟨v6, rfl, hr⟩
  have HB := Lib.hid (HB.out.trans (hr.2.1.mono HB.out.size))
  have HN6 := Lib.hid hr
  obtain ⟨A9, c9, rfl, _⟩ := hr.form
  clear hr
  rw [HNB.out]
  go_simp
  refine hK.out _ _ (HCS.out _ HB.out) (fun hHeld => ?_)
  try simp only [List.setIfInBounds_toArray, List.set_cons_zero, List.set_cons_succ]
  refine wpAnyL_ready (rs := [27, 29]) (by kernel_rfl) rfl ?_
  refine (AllL.cons rfl (fun K hK => ?_) (AllL.cons rfl (fun K hK => ?_) AllL.nil))
  · have cv := conv_str w6 A9 c9 (numB a1) (Own.rd HN6.out.1) q HNB.out
    rw [HZ.out] at cv
    go_simp
    clear cv
    refine hK.out _ _ (HCS.out _ HB.out) (fun hHeld => ?_)
    try simp only [List.setIfInBounds_toArray, List.set_cons_zero, List.set_cons_succ]
    refine wpAnyL_ready (rs := [29]) (by kernel_rfl) rfl ?_
    refine (AllL.cons rfl (fun K hK => ?_) AllL.nil)
    go_simp
    go_at_call 20
    refine (rnumber_any a1 _ H1.out).mono ?_
    rintro e4 w7 ⟨v7, rfl, hr⟩
    have HB := Lib.hid (HB.out.trans (hr.2.1.mono HB.out.size))
    have HN6 := Lib.hid (HN6.out.step hr.2.1)
    have HN7 := Lib.hid hr
    obtain ⟨A10, c10, rfl, _⟩ := hr.form
    clear hr
    rw [HNB.out]
    go_simp
    refine hK.out _ _ (HCS.out _ HB.out) (fun hHeld => ?_)
    try simp only [List.setIfInBounds_toArray, List.set_cons_zero, List.set_cons_succ]
    refine wpAnyL_ready (rs := [30]) (by kernel_rfl) rfl ?_
    refine (AllL.cons rfl (fun K hK => ?_) AllL.nil)
    have cv := conv_str w7 A10 c10 (numB a1) (Own.rd HN7.out.1) q HNB.out
    rw [HZ.out] at cv
    go_simp
    clear cv
    refine hK.out _ _ (HCS.out _ HB.out) (fun hHeld => ?_)
    try simp only [List.setIfInBounds_toArray, List.set_cons_zero, List.set_cons_succ]
    refine reg_take (i := 31) (d := 66) (v := ?_) [] rfl rfl (by kernel_rfl) (by kernel_rfl) (fun _ _ _ h => h) (Or.inl ⟨by rfl, ?_⟩) (by assumption) ?_
    rotate_left
    · (intro w hSw; (try dsimp only at hSw); go_simp; first | done | with_reducible rfl)
    try simp only [List.setIfInBounds_toArray, List.set_cons_zero, List.set_cons_succ]
    refine reg_take (i := 32) (d := 67) (v := ?_) [] rfl rfl (by kernel_rfl) (by kernel_rfl) (fun _ _ _ h => h) (Or.inl ⟨by rfl, ?_⟩) (by assumption) ?_
    rotate_left
    · (intro w hSw; (try dsimp only at hSw); go_simp; first | done | with_reducible rfl)
    try simp only [List.setIfInBounds_toArray, List.set_cons_zero, List.set_cons_succ]
    refine reg_take (i := 33) (d := 68) (v := ?_) [] rfl rfl (by kernel_rfl) (by kernel_rfl) (fun _ _ _ h => h) (Or.inl ⟨by rfl, ?_⟩) (by assumption) ?_
    rotate_left
    · (intro w hSw; (try dsimp only at hSw); go_simp; first | done | with_reducible rfl)
    try simp only [List.setIfInBounds_toArray, List.set_cons_zero, List.set_cons_succ]
    refine reg_take (i := 34) (d := 69) (v := ?_) [] rfl rfl (by kernel_rfl) (by kernel_rfl) (fun _ _ _ h => h) (Or.inl ⟨by rfl, ?_⟩) (by assumption) ?_
    rotate_left
    · (intro w hSw; (try dsimp only at hSw); go_simp; first | done | with_reducible rfl)
    try simp only [List.setIfInBounds_toArray, List.set_cons_zero, List.set_cons_succ]
    refine reg_take (i := 35) (d := 70) (v := ?_) [] rfl rfl (by kernel_rfl) (by kernel_rfl) (fun _ _ _ h => h) (Or.inl ⟨by rfl, ?_⟩) (by assumption) ?_
    rotate_left
    · (intro w hSw; (try dsimp only at hSw); go_simp; first | done | with_reducible rfl)
    try simp only [List.setIfInBounds_toArray, List.set_cons_zero, List.set_cons_succ]
    refine wpAnyL_ready (rs := [36]) (by kernel_rfl) rfl ?_
    refine (AllL.cons rfl (fun K hK => ?_) AllL.nil)
    go_simp
    go_at_call 21
    refine (same_any k k ns ns ts ts Bn Bt An At n t bn bt n t cn ct _ (HQ.out.below HB.out) (HR0.out.below (HS.out.step HB.out).bel)).mono ?_
    rw [HSA.out]
    rintro e4 w4 ⟨rfl, hB⟩
    have HB := Lib.hid (HB.out.trans (hB.mono HB.out.size))
    clear hB
    go_simp
    refine hK.out _ _ (HCS.out _ HB.out) (fun hHeld => ?_)
    try simp only [List.setIfInBounds_toArray, List.set_cons_zero, List.set_cons_succ]
    refine reg_take (i := 37) (d := 72) (v := ?_) [] rfl rfl (by kernel_rfl) (by kernel_rfl) (fun _ _ _ h => h) (Or.inl ⟨by rfl, ?_⟩) (by assumption) ?_
    rotate_left
    · (intro w hSw; (try dsimp only at hSw); go_simp; first | done | with_reducible rfl)
    try simp only [List.setIfInBounds_toArray, List.set_cons_zero, List.set_cons_succ]
    refine reg_take (i := 38) (d := 4) (v := ?_) [] rfl rfl (by kernel_rfl) (by kernel_rfl) (fun _ _ _ h => h) (Or.inl ⟨by rfl, ?_⟩) (by assumption) ?_
    rotate_left
    · (intro w hSw; (try dsimp only at hSw); go_simp; first | done | with_reducible rfl)
    try simp only [List.setIfInBounds_toArray, List.set_cons_zero, List.set_cons_succ]
    refine wpAnyL_done (by kernel_rfl) ?_ _
    go_wp2_with fail
    go_ret
    exact ⟨by simp, (HS.out.step HB.out).bel⟩
  · go_simp
    go_at_call 20
    refine (rnumber_any a1 _ H1.out).mono ?_
    rintro e4 w7 ⟨v7, rfl, hr⟩
    have HB := Lib.hid (HB.out.trans (hr.2.1.mono HB.out.size))
    have HN6 := Lib.hid (HN6.out.step hr.2.1)
    have HN7 := Lib.hid hr
    obtain ⟨A10, c10, rfl, _⟩ := hr.form
    clear hr
    rw [HNB.out]
    go_simp
    refine hK.out _ _ (HCS.out _ HB.out) (fun hHeld => ?_)
    try simp only [List.setIfInBounds_toArray, List.set_cons_zero, List.set_cons_succ]
    refine wpAnyL_ready (rs := [27, 30]) (by kernel_rfl) rfl ?_
    refine (AllL.cons rfl (fun K hK => ?_) (AllL.cons rfl (fun K hK => ?_) AllL.nil))
    · have cv := conv_str w7 A9 c9 (numB a1) (Own.rd HN6.out.1) q HNB.out
      rw [HZ.out] at cv
      go_simp
      clear cv
      refine hK.out _ _ (HCS.out _ HB.out) (fun hHeld => ?_)
      try simp only [List.setIfInBounds_toArray, List.set_cons_zero, List.set_cons_succ]
      refine wpAnyL_ready (rs := [30]) (by kernel_rfl) rfl ?_
      refine (AllL.cons rfl (fun K hK => ?_) AllL.nil)
      have cv := conv_str w7 A10 c10 (numB a1) (Own.rd HN7.out.1) q HNB.out
      rw [HZ.out] at cv
      go_simp
      clear cv
      refine hK.out _ _ (HCS.out _ HB.out) (fun hHeld => ?_)
      try simp only [List.setIfInBounds_toArray, List.set_cons_zero, List.set_cons_succ]
      refine reg_take (i := 31) (d := 66) (v := ?_) [] rfl rfl (by kernel_rfl) (by kernel_rfl) (fun _ _ _ h => h) (Or.inl ⟨by rfl, ?_⟩) (by assumption) ?_
      rotate_left
      · (intro w hSw; (try dsimp only at hSw); go_simp; first | done | with_reducible rfl)
      try simp only [List.setIfInBounds_toArray, List.set_cons_zero, List.set_cons_succ]
      refine reg_take (i := 32) (d := 67) (v := ?_) [] rfl rfl (by kernel_rfl) (by kernel_rfl) (fun _ _ _ h => h) (Or.inl ⟨by rfl, ?_⟩) (by assumption) ?_
      rotate_left
      · (intro w hSw; (try dsimp only at hSw); go_simp; first | done | with_reducible rfl)
      try simp only [List.setIfInBounds_toArray, List.set_cons_zero, List.set_cons_succ]
      refine reg_take (i := 33) (d := 68) (v := ?_) [] rfl rfl (by kernel_rfl) (by kernel_rfl) (fun _ _ _ h => h) (Or.inl ⟨by rfl, ?_⟩) (by assumption) ?_
      rotate_left
      · (intro w hSw; (try dsimp only at hSw); go_simp; first | done | with_reducible rfl)
      try simp only [List.setIfInBounds_toArray, List.set_cons_zero, List.set_cons_succ]
      refine reg_take (i := 34) (d := 69) (v := ?_) [] rfl rfl (by kernel_rfl) (by kernel_rfl) (fun _ _ _ h => h) (Or.inl ⟨by rfl, ?_⟩) (by assumption) ?_
      rotate_left
      · (intro w hSw; (try dsimp only at hSw); go_simp; first | done | with_reducible rfl)
      try simp only [List.setIfInBounds_toArray, List.set_cons_zero, List.set_cons_succ]
      refine reg_take (i := 35) (d := 70) (v := ?_) [] rfl rfl (by kernel_rfl) (by kernel_rfl) (fun _ _ _ h => h) (Or.inl ⟨by rfl, ?_⟩) (by assumption) ?_
      rotate_left
      · (intro w hSw; (try dsimp only at hSw); go_simp; first | done | with_reducible rfl)
      try simp only [List.setIfInBounds_toArray, List.set_cons_zero, List.set_cons_succ]
      refine wpAnyL_ready (rs := [36]) (by kernel_rfl) rfl ?_
      refine (AllL.cons rfl (fun K hK => ?_) AllL.nil)
      go_simp
      go_at_call 21
      refine (same_any k k ns ns ts ts Bn Bt An At n t bn bt n t cn ct _ (HQ.out.below HB.out) (HR0.out.below (HS.out.step HB.out).bel)).mono ?_
      rw [HSA.out]
      rintro e4 w4 ⟨rfl, hB⟩
      have HB := Lib.hid (HB.out.trans (hB.mono HB.out.size))
      clear hB
      go_simp
      refine hK.out _ _ (HCS.out _ HB.out) (fun hHeld => ?_)
      try simp only [List.setIfInBounds_toArray, List.set_cons_zero, List.set_cons_succ]
      refine reg_take (i := 37) (d := 72) (v := ?_) [] rfl rfl (by kernel_rfl) (by kernel_rfl) (fun _ _ _ h => h) (Or.inl ⟨by rfl, ?_⟩) (by assumption) ?_
      rotate_left
      · (intro w hSw; (try dsimp only at hSw); go_simp; first | done | with_reducible rfl)
      try simp only [List.setIfInBounds_toArray, List.set_cons_zero, List.set_cons_succ]
      refine reg_take (i := 38) (d := 4) (v := ?_) [] rfl rfl (by kernel_rfl) (by kernel_rfl) (fun _ _ _ h => h) (Or.inl ⟨by rfl, ?_⟩) (by assumption) ?_
      rotate_left
      · (intro w hSw; (try dsimp only at hSw); go_simp; first | done | with_reducible rfl)
      try simp only [List.setIfInBounds_toArray, List.set_cons_zero, List.set_cons_succ]
      refine wpAnyL_done (by kernel_rfl) ?_ _
      go_wp2_with fail
      go_ret
      exact ⟨by simp, (HS.out.step HB.out).bel⟩
    · have cv := conv_str w7 A10 c10 (numB a1) (Own.rd HN7.out.1) q HNB.out
      rw [HZ.out] at cv
      go_simp
      clear cv
      refine hK.out _ _ (HCS.out _ HB.out) (fun hHeld => ?_)
      try simp only [List.setIfInBounds_toArray, List.set_cons_zero, List.set_cons_succ]
      refine wpAnyL_ready (rs := [27]) (by kernel_rfl) rfl ?_
      refine (AllL.cons rfl (fun K hK => ?_) AllL.nil)
      have cv := conv_str w7 A9 c9 (numB a1) (Own.rd HN6.out.1) q HNB.out
      rw [HZ.out] at cv
      go_simp
      clear cv
      refine hK.out _ _ (HCS.out _ HB.out) (fun hHeld => ?_)
      try simp only [List.setIfInBounds_toArray, List.set_cons_zero, List.set_cons_succ]
      refine reg_take (i := 31) (d := 66) (v := ?_) [] rfl rfl (by kernel_rfl) (by kernel_rfl) (fun _ _ _ h => h) (Or.inl ⟨by rfl, ?_⟩) (by assumption) ?_
      rotate_left
      · (intro w hSw; (try dsimp only at hSw); go_simp; first | done | with_reducible rfl)
      try simp only [List.setIfInBounds_toArray, List.set_cons_zero, List.set_cons_succ]
      refine reg_take (i := 32) (d := 67) (v := ?_) [] rfl rfl (by kernel_rfl) (by kernel_rfl) (fun _ _ _ h => h) (Or.inl ⟨by rfl, ?_⟩) (by assumption) ?_
      rotate_left
      · (intro w hSw; (try dsimp only at hSw); go_simp; first | done | with_reducible rfl)
      try simp only [List.setIfInBounds_toArray, List.set_cons_zero, List.set_cons_succ]
      refine reg_take (i := 33) (d := 68) (v := ?_) [] rfl rfl (by kernel_rfl) (by kernel_rfl) (fun _ _ _ h => h) (Or.inl ⟨by rfl, ?_⟩) (by assumption) ?_
      rotate_left
      · (intro w hSw; (try dsimp only at hSw); go_simp; first | done | with_reducible rfl)
      try simp only [List.setIfInBounds_toArray, List.set_cons_zero, List.set_cons_succ]
      refine reg_take (i := 34) (d := 69) (v := ?_) [] rfl rfl (by kernel_rfl) (by kernel_rfl) (fun _ _ _ h => h) (Or.inl ⟨by rfl, ?_⟩) (by assumption) ?_
      rotate_left
      · (intro w hSw; (try dsimp only at hSw); go_simp; first | done | with_reducible rfl)
      try simp only [List.setIfInBounds_toArray, List.set_cons_zero, List.set_cons_succ]
      refine reg_take (i := 35) (d := 70) (v := ?_) [] rfl rfl (by kernel_rfl) (by kernel_rfl) (fun _ _ _ h => h) (Or.inl ⟨by rfl, ?_⟩) (by assumption) ?_
      rotate_left
      · (intro w hSw; (try dsimp only at hSw); go_simp; first | done | with_reducible rfl)
      try simp only [List.setIfInBounds_toArray, List.set_cons_zero, List.set_cons_succ]
      refine wpAnyL_ready (rs := [36]) (by kernel_rfl) rfl ?_
      refine (AllL.cons rfl (fun K hK => ?_) AllL.nil)
      go_simp
      go_at_call 21
      refine (same_any k k ns ns ts ts Bn Bt An At n t bn bt n t cn ct _ (HQ.out.below HB.out) (HR0.out.below (HS.out.step HB.out).bel)).mono ?_
      rw [HSA.out]
      rintro e4 w4 ⟨rfl, hB⟩
      have HB := Lib.hid (HB.out.trans (hB.mono HB.out.size))
      clear hB
      go_simp
      refine hK.out _ _ (HCS.out _ HB.out) (fun hHeld => ?_)
      try simp only [List.setIfInBounds_toArray, List.set_cons_zero, List.set_cons_succ]
      refine reg_take (i := 37) (d := 72) (v := ?_) [] rfl rfl (by kernel_rfl) (by kernel_rfl) (fun _ _ _ h => h) (Or.inl ⟨by rfl, ?_⟩) (by assumption) ?_
      rotate_left
      · (intro w hSw; (try dsimp only at hSw); go_simp; first | done | with_reducible rfl)
      try simp only [List.setIfInBounds_toArray, List.set_cons_zero, List.set_cons_succ]
      refine reg_take (i := 38) (d := 4) (v := ?_) [] rfl rfl (by kernel_rfl) (by kernel_rfl) (fun _ _ _ h => h) (Or.inl ⟨by rfl, ?_⟩) (by assumption) ?_
      rotate_left
      · (intro w hSw; (try dsimp only at hSw); go_simp; first | done | with_reducible rfl)
      try simp only [List.setIfInBounds_toArray, List.set_cons_zero, List.set_cons_succ]
      refine wpAnyL_done (by kernel_rfl) ?_ _
      go_wp2_with fail
      go_ret
      exact ⟨by simp, (HS.out.step HB.out).bel⟩
end Go.Proofs.Ytkflnldjckahnaa
