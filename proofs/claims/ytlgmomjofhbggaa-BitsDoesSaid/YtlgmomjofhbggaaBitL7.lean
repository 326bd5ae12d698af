/- The walk of the law BitsDoes: it returns true. No condition but the row's own. -/
import Derived.Test.YtlgmomjofhbggaaBitP
import Derived.Deep.CutBlock
set_option linter.unusedVariables false
set_option linter.unusedSimpArgs false
namespace Go.Proofs.Ytlgmomjofhbggaa
open Go.RowKit
theorem ones_rc (n b : Nat) : (rc n b).all (·.oneCell') = true := by simp [rc, Value.oneCell']
structure BAct where
  kind : Int
  i : Int
  n : Int
def eBAct : Enc BAct := ⟨fun a => [.int .i64 a.kind, .int .i64 a.i, .int .i64 a.n], 3, fun _ => rfl, fun x u hu => by
  simp only [List.mem_cons, List.not_mem_nil, or_false] at hu
  rcases hu with rfl | rfl | rfl <;> rfl⟩
def BAct.ok (a : BAct) : Prop := -9223372036854775808 ≤ a.i ∧ a.i ≤ 9223372036854775807
theorem is_bact {w : World} {cs : List Value} (h : Sh.Is w (.pair (.int .i64) (.pair (.int .i64) (.pair (.int .i64) .unit))) cs) : ∃ x : BAct, cs = eBAct.f x ∧ x.ok := by
  obtain ⟨_, _, rfl, ⟨a, rfl, ha⟩, _, _, rfl, ⟨b, rfl, hb⟩, _, _, rfl, ⟨c, rfl, hc⟩, rfl⟩ := h
  exact ⟨⟨a, b, c⟩, rfl, bd_i64 hb⟩
abbrev tBA : TypeId := 33
theorem Rd.bact {w : World} {A : Option Addr} {l : List BAct} (h : Rd w A (eBAct.fl l)) (k : Nat) (x : BAct) (hx : l[k]? = some x) :
    ∃ b o, A = some ⟨b, o, none⟩ ∧ w.cell? ⟨b, o + k * 3, none⟩ = some (.int .i64 x.kind) ∧ w.cell? ⟨b, o + k * 3 + 1, none⟩ = some (.int .i64 x.i) ∧ w.cell? ⟨b, o + k * 3 + 2, none⟩ = some (.int .i64 x.n) := by
  obtain ⟨hk, rfl⟩ := List.getElem?_eq_some_iff.1 hx
  obtain ⟨b, o, e, hc⟩ := h.elem k hk (by decide)
  exact ⟨b, o, e, hc 0 _ rfl, hc 1 _ rfl, hc 2 _ rfl⟩
set_option maxRecDepth 100000 in
set_option maxHeartbeats 8000000 in
theorem w_BitsDoes (a0 : Int) (a1 : Option Addr) (n1 c1 : Nat) (a2 : Int) (w : World) (b0 : -9223372036854775808 ≤ a0 ∧ a0 ≤ 9223372036854775807) (b1 : Sh.Is w (.slice 24 (.pair (.int .i64) (.pair (.int .i64) (.pair (.int .i64) .unit)))) [.slice a1 n1 c1]) (b2 : -9223372036854775808 ≤ a2 ∧ a2 ≤ 9223372036854775807) :
    Calls Try.prog 3 #[.int .i64 a0, .slice a1 n1 c1, .int .i64 a2] w fun e w' => e = .returned (.bool true) ∧ Below w.heap.size w w' := by
  obtain ⟨xs, xl, _, _, _, xr, xok⟩ := Enc.of_slice (E := eBAct) (p := BAct.ok) b1 (fun cs hc => is_bact hc)
  have HXL := Lib.hid xl; have HXR := Lib.hid xr; have HXO := Lib.hid xok; have HB2 := Lib.hid b2
  clear b0 b1 b2 xl xr xok
  obtain ⟨n, hn⟩ : ∃ n, newOf a0 = n := ⟨_, rfl⟩
  have hn64 : n ≤ 64 := by rw [← hn]; exact newOf_le a0
  have HN := Lib.hid hn
  clear hn
  have hz := run_zero65
  go_enter Try.func3, Try.ntmps3
  go_wp2_with fail
  refine (awake_any _).mono ?_
  rintro e w1 ⟨rfl, hB1⟩
  have HT := Lib.hid ((Sep.nil w).step hB1)
  clear hB1
  go_upto_region 3 with fail
  refine wp_region_lit (l := [_, _, _, _]) ?_
  refine wpList_plain rfl fun _ hK => ?_
  go_simp
  refine hK _ _ ?_
  refine wpList_plain rfl fun _ hK => ?_
  go_simp
  go_at_call 11
  with_reducible refine (bnew3 a0 n _ HN.out).mono ?_
  rintro e w2 ⟨rfl, hB⟩
  have HT := Lib.hid (HT.out.step hB)
  clear hB
  go_simp
  refine hK _ _ ?_
  obtain ⟨g7, hg7⟩ : ∃ g, w2.heap.size = g := ⟨_, rfl⟩
  have HT := Lib.hid (HT.out.newBlk #[.int .i64 0, .int .u64 0] tBR hg7)
  refine wpList_plain rfl fun _ hK => ?_
  go_simp
  try rw [hg7]
  clear hg7
  refine hK _ _ ?_
  refine storeR (rc n 0) (show Blk _ _ _ tBR from HT.out.hd) rfl infoBR (ones_rc _ _) rfl (.tmp 7) (.tmp 22) rfl rfl rfl ?_
  intro w3 hb hu
  have HT := Lib.hid ((HT.out.put hb hu))
  clear hb hu
  go_upto_region 4 with fail
  refine wp_region_lit (l := [_, _, _, _]) ?_
  refine wpList_plain rfl fun _ hK => ?_
  go_simp
  refine hK _ _ ?_
  refine wpList_plain rfl fun _ hK => ?_
  go_simp
  go_at_call 12
  with_reducible refine (rnew3 a0 n _ HN.out).mono ?_
  rintro e w4 ⟨rfl, hB⟩
  have HT := Lib.hid (HT.out.step hB)
  clear hB
  go_simp
  refine hK _ _ ?_
  obtain ⟨g8, hg8⟩ : ∃ g, w4.heap.size = g := ⟨_, rfl⟩
  have HT := Lib.hid (HT.out.newBlk (rf 0 0).toArray rT hg8)
  refine wpList_plain rfl fun _ hK => ?_
  go_simp
  try rw [hg8]
  clear hg8
  refine hK _ _ ?_
  refine storeR (rf n 0).toArray (show Blk _ _ _ rT from HT.out.hd) (by simp [rf]) (info65' n 0) (ones_rf n 0) rfl (.tmp 8) (.tmp 24) rfl rfl rfl ?_
  intro w5 hb hu
  have HT := Lib.hid ((HT.out.put hb hu))
  clear hb hu
  have HT := Lib.hid HT.out.sw
  go_wp2_with fail
  go_loopg [9] n1 (fun gk s9 wr => ∃ (k b : Nat), s9 = .int .i64 (k : Int) ∧ k ≤ n1 ∧ k ≤ 150 ∧ gk = n1 - k ∧ b < 2 ^ n ∧ Sep w wr [tBlk g7 (rc n b) tBR, tBlk g8 (rf n b).toArray rT])
  case atStart => exact ⟨0, 0, rfl, by omega, by omega, by omega, Nat.two_pow_pos _, HT.out⟩
  case round =>
  clear HT
  obtain ⟨k, b, rfl, hk, hk150, hgk, hb, hs⟩ := hrel
  have HT := Lib.hid hs
  have HB := Lib.hid hb
  have HF := Lib.hid (show Fine n (n, b, 0) from ⟨hn64, hb, fun _ => rfl⟩)
  clear hs hb
  by_cases q1 : k < n1
  case neg =>
    have q1' : decide ((k : Int) < (n1 : Int)) = false := by simp; omega
    have q1n : ¬ ((k : Int) < (n1 : Int)) := by omega
    go_wp2_with fail
    go_ret
    exact ⟨rfl, HT.out.bel⟩
  have q1' : decide ((k : Int) < (n1 : Int)) = true := by simp; omega
  have i1 : (k : Int) < (n1 : Int) := by omega
  by_cases q2 : k < 150
  case neg =>
    have q2' : decide ((k : Int) < 150) = false := by simp; omega
    have q2n : ¬ (k : Int) < 150 := by omega
    go_wp2_with fail
    go_ret
    exact ⟨rfl, HT.out.bel⟩
  have q2' : decide ((k : Int) < 150) = true := by simp; omega
  have i2 : (k : Int) < 150 := by omega
  have i0 : (0 : Int) ≤ (k : Int) := by omega
  have hwk : IntKind.i64.wrap ((k : Int) + 1) = (k : Int) + 1 := IntWalk.i64_in _ (by omega)
  have HX := Lib.hid (List.getElem?_eq_getElem (l := xs) (i := k) (by rw [HXL.out]; exact q1))
  have HOK := Lib.hid (HXO.out _ (List.mem_of_getElem? HX.out))
  generalize xs[k]'(by rw [HXL.out]; exact q1) = x at *
  obtain ⟨g, o, rfl, y0, y1, y2⟩ := (HXR.out.below HT.out.bel).bact k x HX.out
  obtain ⟨xk, xi, xn⟩ := x
  simp only at y0 y1 y2
  have HOK := Lib.hid (show -9223372036854775808 ≤ xi ∧ xi ≤ 9223372036854775807 from HOK.out)
  obtain ⟨g10, hg10⟩ : ∃ g, wr.heap.size = g := ⟨_, rfl⟩
  have HT := Lib.hid (HT.out.newBlk #[.int .i64 xk, .int .i64 xi, .int .i64 xn] tBA hg10)
  have HG10 := Lib.hid hg10; clear hg10
  go_upto_region 9 with fail
  rw [HG10.out]
  generalize wr.alloc (.cells #[.int .i64 xk, .int .i64 xi, .int .i64 xn] tBA) = W8 at *
  clear y0 y1 y2 HG10
  refine wp_region_lit (l := [_, _, _, _]) ?_
  refine loadR _ (show Blk _ g7 (rc n b) tBR from HT.out.h2) Try.underlying26 rfl infoBR rfl (.tmp 7) rfl rfl ?_
  obtain ⟨g11, hg11⟩ : ∃ g, W8.heap.size = g := ⟨_, rfl⟩
  have HT := Lib.hid (HT.out.newBlk #[.int .i64 0, .int .u64 0] tBR hg11)
  refine wpList_plain rfl fun _ hK => ?_
  go_simp
  try rw [hg11]
  clear hg11
  refine hK _ _ ?_
  refine storeR (rc n b) (show Blk _ _ _ tBR from HT.out.hd) rfl infoBR (ones_rc _ _) rfl (.tmp 11) (.tmp 39) rfl rfl rfl ?_
  intro wA hb hu
  have HT := Lib.hid ((HT.out.put hb hu))
  clear hb hu
  go_upto_region 10 with fail
  refine wp_region_lit (l := [_, _, _, _]) ?_
  refine loadR (cs := (rf n b).toArray) _ (show Blk _ g8 (rf n b).toArray rT from HT.out.h4) Try.underlying30 rfl (info65' n b) rfl (.tmp 8) rfl rfl ?_
  obtain ⟨g13, hg13⟩ : ∃ g, wA.heap.size = g := ⟨_, rfl⟩
  have HT := Lib.hid (HT.out.newBlk (rf 0 0).toArray rT hg13)
  refine wpList_plain rfl fun _ hK => ?_
  go_simp
  try rw [hg13]
  clear hg13
  refine hK _ _ ?_
  refine storeR (rf n b).toArray (show Blk _ _ _ rT from HT.out.hd) (by simp [rf]) (info65' n b) (ones_rf n b) rfl (.tmp 13) (.tmp 40) rfl rfl rfl ?_
  intro wB hb hu
  have HT := Lib.hid ((HT.out.put hb hu))
  clear hb hu
  have d0 : wB.cell? ⟨g10, 0, none⟩ = some (.int .i64 xk) := (show Blk wB g10 _ tBA from HT.out.h3).cell 0
  go_upto_block 2 with fail
  clear d0
  go_cut [12, 14] (fun s12 s14 wx => ∃ (x : Row3), s12 = .int .i64 x.2.2 ∧ s14 = .int .i64 x.2.2 ∧ Fine n x ∧ Sep w wx [tBlk g13 (rf x.1 x.2.1).toArray rT, tBlk g11 (rc x.1 x.2.1) tBR, tBlk g10 #[.int .i64 xk, .int .i64 xi, .int .i64 xn] tBA, tBlk g7 (rc n b) tBR, tBlk g8 (rf n b).toArray rT])
  case first =>
    have d1 : wB.cell? ⟨g10, 1, none⟩ = some (.int .i64 xi) := (show Blk wB g10 _ tBA from HT.out.h3).cell 1
    by_cases hk0 : xk = 0
    · have p0 : (xk == 0) = true := by simp [hk0]
      as_aux_lemma =>
        clear hk0
        obtain ⟨x, hx⟩ : ∃ x, setO n b xi true = x := ⟨_, rfl⟩
        have HXO := Lib.hid hx
        have HFX := Lib.hid (show Fine n x by rw [← hx]; exact setO_fine hn64 HB.out)
        clear hx
        obtain ⟨zn, zb, ze⟩ := x
        go_upto_region 13 with fail
        refine wp_region_lit (l := [_, _, _, _, _, _, _, _, _]) ?_
        refine loadR _ (show Blk _ g7 (rc n b) tBR from HT.out.h4) Try.underlying26 rfl infoBR rfl (.tmp 7) rfl rfl ?_
        refine wpList_plain rfl fun _ hK => ?_
        go_simp
        refine hK _ _ ?_
        refine wpList_plain rfl fun _ hK => ?_
        go_simp
        refine hK _ _ ?_
        refine wpList_plain rfl fun _ hK => ?_
        go_simp
        go_at_call 13
        with_reducible refine (put3 n b xi (zn, zb, ze) _ HXO.out hn64 (Fine.u64 HF.out)).mono ?_
        rintro e wC ⟨rfl, hB⟩
        have HT := Lib.hid (HT.out.step hB)
        clear hB
        go_simp
        refine hK _ _ ?_
        refine wpList_plain rfl fun _ hK => ?_
        go_simp
        refine hK _ _ ?_
        refine wpList_plain rfl fun _ hK => ?_
        go_simp
        refine hK _ _ ?_
        refine wpList_plain rfl fun _ hK => ?_
        go_simp
        refine hK _ _ ?_
        refine storeR (rc zn zb) (show Blk _ _ _ tBR from HT.out.h2) rfl infoBR (ones_rc _ _) rfl (.tmp 11) (.tmp 50) rfl rfl rfl ?_
        intro wD hb hu
        have HT := Lib.hid ((HT.out.sw.put hb hu).sw)
        clear hb hu
        clear d1
        have d1 : wD.cell? ⟨g10, 1, none⟩ = some (.int .i64 xi) := (show Blk wD g10 _ tBA from HT.out.h3).cell 1
        go_upto_region 14 with fail
        refine wp_region_lit (l := [_, _, _, _, _, _, _, _, _]) ?_
        refine loadR (cs := (rf n b).toArray) _ (show Blk _ g8 (rf n b).toArray rT from HT.out.h5) Try.underlying30 rfl (info65' n b) rfl (.tmp 8) rfl rfl ?_
        refine wpList_plain rfl fun _ hK => ?_
        go_simp
        refine hK _ _ ?_
        refine wpList_plain rfl fun _ hK => ?_
        go_simp
        refine hK _ _ ?_
        refine wpList_plain rfl fun _ hK => ?_
        go_simp
        go_at_call 14
        with_reducible refine (set3 n b xi true (zn, zb, ze) _ HXO.out hn64).mono ?_
        rintro e wE ⟨rfl, hB⟩
        have HT := Lib.hid (HT.out.step hB)
        clear hB
        go_simp
        refine hK _ _ ?_
        refine wpList_plain rfl fun _ hK => ?_
        go_simp
        refine hK _ _ ?_
        refine wpList_plain rfl fun _ hK => ?_
        go_simp
        refine hK _ _ ?_
        refine wpList_plain rfl fun _ hK => ?_
        go_simp
        refine hK _ _ ?_
        refine storeR (rf zn zb).toArray (show Blk _ _ _ rT from HT.out.hd) (by simp [rf]) (info65' zn zb) (ones_rf zn zb) rfl (.tmp 13) (.tmp 57) rfl rfl rfl ?_
        intro wF hb hu
        have HT := Lib.hid ((HT.out.put hb hu))
        clear hb hu
        clear d1
        go_wp2_with fail
        go_meet
        exact ⟨(zn, zb, ze), rfl, rfl, HFX.out, HT.out⟩
    have p0 : (xk == 0) = false := by simpa using hk0
    clear hk0
    by_cases hk1 : xk = 1
    · have p1 : (xk == 1) = true := by simp [hk1]
      as_aux_lemma =>
        clear hk1
        obtain ⟨x, hx⟩ : ∃ x, setO n b xi false = x := ⟨_, rfl⟩
        have HXO := Lib.hid hx
        have HFX := Lib.hid (show Fine n x by rw [← hx]; exact setO_fine hn64 HB.out)
        clear hx
        obtain ⟨zn, zb, ze⟩ := x
        go_upto_region 16 with fail
        refine wp_region_lit (l := [_, _, _, _, _, _, _, _, _]) ?_
        refine loadR _ (show Blk _ g7 (rc n b) tBR from HT.out.h4) Try.underlying26 rfl infoBR rfl (.tmp 7) rfl rfl ?_
        refine wpList_plain rfl fun _ hK => ?_
        go_simp
        refine hK _ _ ?_
        refine wpList_plain rfl fun _ hK => ?_
        go_simp
        refine hK _ _ ?_
        refine wpList_plain rfl fun _ hK => ?_
        go_simp
        go_at_call 15
        with_reducible refine (del3 n b xi (zn, zb, ze) _ HXO.out hn64 (Fine.u64 HF.out)).mono ?_
        rintro e wC ⟨rfl, hB⟩
        have HT := Lib.hid (HT.out.step hB)
        clear hB
        go_simp
        refine hK _ _ ?_
        refine wpList_plain rfl fun _ hK => ?_
        go_simp
        refine hK _ _ ?_
        refine wpList_plain rfl fun _ hK => ?_
        go_simp
        refine hK _ _ ?_
        refine wpList_plain rfl fun _ hK => ?_
        go_simp
        refine hK _ _ ?_
        refine storeR (rc zn zb) (show Blk _ _ _ tBR from HT.out.h2) rfl infoBR (ones_rc _ _) rfl (.tmp 11) (.tmp 66) rfl rfl rfl ?_
        intro wD hb hu
        have HT := Lib.hid ((HT.out.sw.put hb hu).sw)
        clear hb hu
        clear d1
        have d1 : wD.cell? ⟨g10, 1, none⟩ = some (.int .i64 xi) := (show Blk wD g10 _ tBA from HT.out.h3).cell 1
        go_upto_region 17 with fail
        refine wp_region_lit (l := [_, _, _, _, _, _, _, _, _]) ?_
        refine loadR (cs := (rf n b).toArray) _ (show Blk _ g8 (rf n b).toArray rT from HT.out.h5) Try.underlying30 rfl (info65' n b) rfl (.tmp 8) rfl rfl ?_
        refine wpList_plain rfl fun _ hK => ?_
        go_simp
        refine hK _ _ ?_
        refine wpList_plain rfl fun _ hK => ?_
        go_simp
        refine hK _ _ ?_
        refine wpList_plain rfl fun _ hK => ?_
        go_simp
        go_at_call 14
        with_reducible refine (set3 n b xi false (zn, zb, ze) _ HXO.out hn64).mono ?_
        rintro e wE ⟨rfl, hB⟩
        have HT := Lib.hid (HT.out.step hB)
        clear hB
        go_simp
        refine hK _ _ ?_
        refine wpList_plain rfl fun _ hK => ?_
        go_simp
        refine hK _ _ ?_
        refine wpList_plain rfl fun _ hK => ?_
        go_simp
        refine hK _ _ ?_
        refine wpList_plain rfl fun _ hK => ?_
        go_simp
        refine hK _ _ ?_
        refine storeR (rf zn zb).toArray (show Blk _ _ _ rT from HT.out.hd) (by simp [rf]) (info65' zn zb) (ones_rf zn zb) rfl (.tmp 13) (.tmp 73) rfl rfl rfl ?_
        intro wF hb hu
        have HT := Lib.hid ((HT.out.put hb hu))
        clear hb hu
        clear d1
        go_wp2_with fail
        go_meet
        exact ⟨(zn, zb, ze), rfl, rfl, HFX.out, HT.out⟩
    have p1 : (xk == 1) = false := by simpa using hk1
    clear hk1
    by_cases hk2 : xk = 2
    · have p2 : (xk == 2) = true := by simp [hk2]
      as_aux_lemma =>
        clear hk2
        obtain ⟨m, hm⟩ : ∃ m, newOf xn = m := ⟨_, rfl⟩
        have hm64 : m ≤ 64 := by rw [← hm]; exact newOf_le xn
        have HM := Lib.hid hm
        obtain ⟨y, hy⟩ : ∃ y, setO m 0 xi true = y := ⟨_, rfl⟩
        have HYO := Lib.hid hy
        have HFY := Lib.hid (show Fine m y by rw [← hy]; exact setO_fine hm64 (Nat.two_pow_pos _))
        obtain ⟨yn, yb, ye⟩ := y
        obtain ⟨x, hx⟩ : ∃ x, orO n b yn yb = x := ⟨_, rfl⟩
        have HXO := Lib.hid hx
        have HFX := Lib.hid (show Fine n x by rw [← hx]; exact orO_fine hn64 HB.out HFY.out.lt)
        clear hm hy hx
        obtain ⟨zn, zb, ze⟩ := x
        have HC : Hid (∀ w', Below wB.heap.size wB w' → w'.cell? ⟨g10, 2, none⟩ = some (.int .i64 xn) ∧ w'.cell? ⟨g10, 1, none⟩ = some (.int .i64 xi)) := Lib.hid (fun w' h => ⟨((show Blk wB g10 _ tBA from HT.out.h3).below h).cell 2, ((show Blk wB g10 _ tBA from HT.out.h3).below h).cell 1⟩)
        go_upto_region 19 with fail
        clear d1
        have HQ := Lib.hid ((Sep.nil wB).drew)
        refine wp_region_L (fun w' => w'.cell? ⟨g10, 2, none⟩ = some (.int .i64 xn) ∧ w'.cell? ⟨g10, 1, none⟩ = some (.int .i64 xi)) 11 (by kernel_rfl) (HC.out _ HQ.out.bel) (fun hHeld => ?_)
        refine reg_take (i := 0) (d := 78) (v := ?_) [] rfl rfl (by kernel_rfl) (by kernel_rfl) (fun _ _ _ h => h) (Or.inl ⟨by rfl, ?_⟩) (by assumption) ?_
        rotate_left
        · (intro w hSw; (try dsimp only at hSw); go_simp; first | done | with_reducible rfl)
        try simp only [List.setIfInBounds_toArray, List.set_cons_zero, List.set_cons_succ]
        refine reg_take (i := 1) (d := 79) (v := ?_) [] rfl rfl (by kernel_rfl) (by kernel_rfl) (fun _ _ _ h => h) (Or.inl ⟨by rfl, ?_⟩) (by assumption) ?_
        rotate_left
        · (intro w hSw; (try dsimp only at hSw); go_simp; first | done | with_reducible rfl)
        try simp only [List.setIfInBounds_toArray, List.set_cons_zero, List.set_cons_succ]
        refine reg_take (i := 3) (d := 81) (v := ?_) [] rfl rfl (by kernel_rfl) (by kernel_rfl) (fun _ _ _ h => h) (Or.inl ⟨by rfl, ?_⟩) (by assumption) ?_
        rotate_left
        · (intro w hSw; (try dsimp only at hSw); go_simp; first | done | with_reducible rfl)
        try simp only [List.setIfInBounds_toArray, List.set_cons_zero, List.set_cons_succ]
        refine reg_take (i := 4) (d := 82) (v := ?_) [] rfl rfl (by kernel_rfl) (by kernel_rfl) (fun _ _ _ h => h) (Or.inl ⟨by rfl, ?_⟩) (by assumption) ?_
        rotate_left
        · (intro w hSw; (try dsimp only at hSw); go_simp; first | done | with_reducible rfl)
        try simp only [List.setIfInBounds_toArray, List.set_cons_zero, List.set_cons_succ]
        refine wpAnyL_ready (rs := [2, 9]) (by kernel_rfl) rfl ?_
        refine (AllL.cons rfl (fun K hK => ?_) (AllL.cons rfl (fun K hK => ?_) AllL.nil))
        · go_simp
          go_at_call 11
          with_reducible refine (bnew3 xn m _ HM.out).mono ?_
          rintro e v5 ⟨rfl, hB⟩
          have HQ := Lib.hid (HQ.out.step hB)
          clear hB
          go_simp
          refine hK.out _ _ (HC.out _ HQ.out.bel) (fun hHeld => ?_)
          try simp only [List.setIfInBounds_toArray, List.set_cons_zero, List.set_cons_succ]
          refine wpAnyL_ready (rs := [5, 9]) (by kernel_rfl) rfl ?_
          refine (AllL.cons rfl (fun K hK => ?_) (AllL.cons rfl (fun K hK => ?_) AllL.nil))
          · go_simp
            go_at_call 13
            with_reducible refine (put3 m 0 xi (yn, yb, ye) _ HYO.out hm64 (by decide)).mono ?_
            rintro e v6 ⟨rfl, hB⟩
            have HQ := Lib.hid (HQ.out.step hB)
            clear hB
            go_simp
            refine hK.out _ _ (HC.out _ HQ.out.bel) (fun hHeld => ?_)
            try simp only [List.setIfInBounds_toArray, List.set_cons_zero, List.set_cons_succ]
            refine reg_take (i := 6) (d := 77) (v := ?_) [] rfl rfl (by kernel_rfl) (by kernel_rfl) (fun _ _ _ h => h) (Or.inl ⟨by rfl, ?_⟩) (by assumption) ?_
            rotate_left
            · (intro w hSw; (try dsimp only at hSw); go_simp; first | done | with_reducible rfl)
            try simp only [List.setIfInBounds_toArray, List.set_cons_zero, List.set_cons_succ]
            refine reg_take (i := 7) (d := 84) (v := ?_) [] rfl rfl (by kernel_rfl) (by kernel_rfl) (fun _ _ _ h => h) (Or.inl ⟨by rfl, ?_⟩) (by assumption) ?_
            rotate_left
            · (intro w hSw; (try dsimp only at hSw); go_simp; first | done | with_reducible rfl)
            try simp only [List.setIfInBounds_toArray, List.set_cons_zero, List.set_cons_succ]
            refine reg_take (i := 8) (d := 85) (v := ?_) [] rfl rfl (by kernel_rfl) (by kernel_rfl) (fun _ _ _ h => h) (Or.inl ⟨by rfl, ?_⟩) (by assumption) ?_
            rotate_left
            · (intro w hSw; (try dsimp only at hSw); go_simp; first | done | with_reducible rfl)
            try simp only [List.setIfInBounds_toArray, List.set_cons_zero, List.set_cons_succ]
            refine wpAnyL_ready (rs := [9]) (by kernel_rfl) rfl ?_
            refine (AllL.cons rfl (fun K hK => ?_) AllL.nil)
            go_simp
            have HQ := Lib.hid (HQ.out.newBlk #[.int .i64 0, .int .u64 0] tBR (g := v6.heap.size) (by simp))
            refine hK.out _ _ (HC.out _ HQ.out.bel) (fun hHeld => ?_)
            try simp only [List.setIfInBounds_toArray, List.set_cons_zero, List.set_cons_succ]
            refine wpAnyL_ready (rs := [10]) (by kernel_rfl) rfl ?_
            refine (AllL.cons rfl (fun K hK => ?_) AllL.nil)
            refine stepStoreR (rc yn yb) (show Blk _ _ #[.int .i64 0, .int .u64 0] tBR from HQ.out.hd) rfl infoBR (ones_rc _ _) rfl (.tmp 15) (.tmp 84) rfl rfl rfl ?_
            intro v9 hb hu
            have HQ := Lib.hid (HQ.out.put hb hu)
            clear hb hu
            refine hK.out _ _ (HC.out _ HQ.out.bel) (fun hHeld => ?_)
            try simp only [List.setIfInBounds_toArray, List.set_cons_zero, List.set_cons_succ]
            refine wpAnyL_ready (rs := [11]) (by kernel_rfl) rfl ?_
            refine (AllL.consJ rfl (by kernel_rfl) (fun K hK => ?_) AllL.nil)
            go_simp
            refine hK.out _ _ ?_
            try simp only [List.setIfInBounds_toArray, List.set_cons_zero, List.set_cons_succ]
            refine wpAnyL_done (by kernel_rfl) ?_ _
            have HT := Lib.hid (HT.out.join HQ.out)
            have HT : Hid (Sep w v9 (tBlk v6.heap.size (rc yn yb) tBR :: _)) := HT
            generalize v6.heap.size = g15 at *
            clear HQ HC
            go_upto_region 20 with fail
            have HC : Hid (∀ w', Below v9.heap.size v9 w' → w'.cell? ⟨g10, 2, none⟩ = some (.int .i64 xn) ∧ w'.cell? ⟨g10, 1, none⟩ = some (.int .i64 xi)) := Lib.hid (fun w' h => ⟨((show Blk v9 g10 _ tBA from HT.out.h4).below h).cell 2, ((show Blk v9 g10 _ tBA from HT.out.h4).below h).cell 1⟩)
            generalize v9 = V9 at *
            have HQ := Lib.hid ((Sep.nil V9).drew)
            refine wp_region_L (fun w' => w'.cell? ⟨g10, 2, none⟩ = some (.int .i64 xn) ∧ w'.cell? ⟨g10, 1, none⟩ = some (.int .i64 xi)) 11 (by kernel_rfl) (HC.out _ HQ.out.bel) (fun hHeld => ?_)
            refine reg_take (i := 0) (d := 87) (v := ?_) [] rfl rfl (by kernel_rfl) (by kernel_rfl) (fun _ _ _ h => h) (Or.inl ⟨by rfl, ?_⟩) (by assumption) ?_
            rotate_left
            · (intro w hSw; (try dsimp only at hSw); go_simp; first | done | with_reducible rfl)
            try simp only [List.setIfInBounds_toArray, List.set_cons_zero, List.set_cons_succ]
            refine reg_take (i := 1) (d := 88) (v := ?_) [] rfl rfl (by kernel_rfl) (by kernel_rfl) (fun _ _ _ h => h) (Or.inl ⟨by rfl, ?_⟩) (by assumption) ?_
            rotate_left
            · (intro w hSw; (try dsimp only at hSw); go_simp; first | done | with_reducible rfl)
            try simp only [List.setIfInBounds_toArray, List.set_cons_zero, List.set_cons_succ]
            refine reg_take (i := 3) (d := 90) (v := ?_) [] rfl rfl (by kernel_rfl) (by kernel_rfl) (fun _ _ _ h => h) (Or.inl ⟨by rfl, ?_⟩) (by assumption) ?_
            rotate_left
            · (intro w hSw; (try dsimp only at hSw); go_simp; first | done | with_reducible rfl)
            try simp only [List.setIfInBounds_toArray, List.set_cons_zero, List.set_cons_succ]
            refine reg_take (i := 4) (d := 91) (v := ?_) [] rfl rfl (by kernel_rfl) (by kernel_rfl) (fun _ _ _ h => h) (Or.inl ⟨by rfl, ?_⟩) (by assumption) ?_
            rotate_left
            · (intro w hSw; (try dsimp only at hSw); go_simp; first | done | with_reducible rfl)
            try simp only [List.setIfInBounds_toArray, List.set_cons_zero, List.set_cons_succ]
            refine wpAnyL_ready (rs := [2, 9]) (by kernel_rfl) rfl ?_
            refine (AllL.cons rfl (fun K hK => ?_) (AllL.cons rfl (fun K hK => ?_) AllL.nil))
            · go_simp
              go_at_call 12
              with_reducible refine (rnew3 xn m _ HM.out).mono ?_
              rintro e v5 ⟨rfl, hB⟩
              have HQ := Lib.hid (HQ.out.step hB)
              clear hB
              go_simp
              refine hK.out _ _ (HC.out _ HQ.out.bel) (fun hHeld => ?_)
              try simp only [List.setIfInBounds_toArray, List.set_cons_zero, List.set_cons_succ]
              refine wpAnyL_ready (rs := [5, 9]) (by kernel_rfl) rfl ?_
              refine (AllL.cons rfl (fun K hK => ?_) (AllL.cons rfl (fun K hK => ?_) AllL.nil))
              · go_simp
                go_at_call 14
                with_reducible refine (set3 m 0 xi true (yn, yb, ye) _ HYO.out hm64).mono ?_
                rintro e v6 ⟨rfl, hB⟩
                have HQ := Lib.hid (HQ.out.step hB)
                clear hB
                go_simp
                refine hK.out _ _ (HC.out _ HQ.out.bel) (fun hHeld => ?_)
                try simp only [List.setIfInBounds_toArray, List.set_cons_zero, List.set_cons_succ]
                refine reg_take (i := 6) (d := 86) (v := ?_) [] rfl rfl (by kernel_rfl) (by kernel_rfl) (fun _ _ _ h => h) (Or.inl ⟨by rfl, ?_⟩) (by assumption) ?_
                rotate_left
                · (intro w hSw; (try dsimp only at hSw); go_simp; first | done | with_reducible rfl)
                try simp only [List.setIfInBounds_toArray, List.set_cons_zero, List.set_cons_succ]
                refine reg_take (i := 7) (d := 93) (v := ?_) [] rfl rfl (by kernel_rfl) (by kernel_rfl) (fun _ _ _ h => h) (Or.inl ⟨by rfl, ?_⟩) (by assumption) ?_
                rotate_left
                · (intro w hSw; (try dsimp only at hSw); go_simp; first | done | with_reducible rfl)
                try simp only [List.setIfInBounds_toArray, List.set_cons_zero, List.set_cons_succ]
                refine reg_take (i := 8) (d := 94) (v := ?_) [] rfl rfl (by kernel_rfl) (by kernel_rfl) (fun _ _ _ h => h) (Or.inl ⟨by rfl, ?_⟩) (by assumption) ?_
                rotate_left
                · (intro w hSw; (try dsimp only at hSw); go_simp; first | done | with_reducible rfl)
                try simp only [List.setIfInBounds_toArray, List.set_cons_zero, List.set_cons_succ]
                refine wpAnyL_ready (rs := [9]) (by kernel_rfl) rfl ?_
                refine (AllL.cons rfl (fun K hK => ?_) AllL.nil)
                go_simp
                have HQ := Lib.hid (HQ.out.newBlk (rf 0 0).toArray rT (g := v6.heap.size) (by simp))
                refine hK.out _ _ (HC.out _ HQ.out.bel) (fun hHeld => ?_)
                try simp only [List.setIfInBounds_toArray, List.set_cons_zero, List.set_cons_succ]
                refine wpAnyL_ready (rs := [10]) (by kernel_rfl) rfl ?_
                refine (AllL.cons rfl (fun K hK => ?_) AllL.nil)
                refine stepStoreR (rf yn yb).toArray (show Blk _ _ (rf 0 0).toArray rT from HQ.out.hd) (by simp [rf]) (info65' yn yb) (ones_rf yn yb) rfl (.tmp 17) (.tmp 93) rfl rfl rfl ?_
                intro v9 hb hu
                have HQ := Lib.hid (HQ.out.put hb hu)
                clear hb hu
                refine hK.out _ _ (HC.out _ HQ.out.bel) (fun hHeld => ?_)
                try simp only [List.setIfInBounds_toArray, List.set_cons_zero, List.set_cons_succ]
                refine wpAnyL_ready (rs := [11]) (by kernel_rfl) rfl ?_
                refine (AllL.consJ rfl (by kernel_rfl) (fun K hK => ?_) AllL.nil)
                go_simp
                refine hK.out _ _ ?_
                try simp only [List.setIfInBounds_toArray, List.set_cons_zero, List.set_cons_succ]
                refine wpAnyL_done (by kernel_rfl) ?_ _
                have HT := Lib.hid (HT.out.join HQ.out)
                have HT : Hid (Sep w v9 (tBlk v6.heap.size (rf yn yb).toArray rT :: _)) := HT
                generalize v6.heap.size = g17 at *
                clear HQ HC
                go_upto_region 21 with fail
                refine wp_region_lit (l := [_, _, _, _, _, _, _, _]) ?_
                refine loadR _ (show Blk _ g7 (rc n b) tBR from HT.out.tail.tail.h4) Try.underlying26 rfl infoBR rfl (.tmp 7) rfl rfl ?_
                refine loadR _ (show Blk _ g15 (rc yn yb) tBR from HT.out.h2) Try.underlying26 rfl infoBR rfl (.tmp 15) rfl rfl ?_
                refine wpList_plain rfl fun _ hK => ?_
                go_simp
                go_at_call 16
                with_reducible refine (or3 n b yn yb (zn, zb, ze) _ HXO.out (Fine.u64 HF.out) (Fine.u64 HFY.out)).mono ?_
                rintro e wG ⟨rfl, hB⟩
                have HT := Lib.hid (HT.out.step hB)
                clear hB
                go_simp
                refine hK _ _ ?_
                refine wpList_plain rfl fun _ hK => ?_
                go_simp
                refine hK _ _ ?_
                refine wpList_plain rfl fun _ hK => ?_
                go_simp
                refine hK _ _ ?_
                refine wpList_plain rfl fun _ hK => ?_
                go_simp
                refine hK _ _ ?_
                refine storeR (rc zn zb) (show Blk _ _ _ tBR from HT.out.h4) rfl infoBR (ones_rc _ _) rfl (.tmp 11) (.tmp 99) rfl rfl rfl ?_
                intro wH hb hu
                have HT := Lib.hid ((HT.out.r4.put hb hu).r4')
                clear hb hu
                go_upto_region 22 with fail
                refine wp_region_lit (l := [_, _, _, _, _, _, _, _]) ?_
                refine loadR (cs := (rf n b).toArray) _ (show Blk _ g8 (rf n b).toArray rT from HT.out.tail.tail.h5) Try.underlying30 rfl (info65' n b) rfl (.tmp 8) rfl rfl ?_
                refine loadR (cs := (rf yn yb).toArray) _ (show Blk _ g17 (rf yn yb).toArray rT from HT.out.hd) Try.underlying30 rfl (info65' yn yb) rfl (.tmp 17) rfl rfl ?_
                refine wpList_plain rfl fun _ hK => ?_
                go_simp
                go_at_call 17
                with_reducible refine (ror3 n b yn yb (zn, zb, ze) _ HXO.out hn64 (Fine.le HFY.out) (Fine.lt HFY.out)).mono ?_
                rintro e wI ⟨rfl, hB⟩
                have HT := Lib.hid (HT.out.step hB)
                clear hB
                go_simp
                refine hK _ _ ?_
                refine wpList_plain rfl fun _ hK => ?_
                go_simp
                refine hK _ _ ?_
                refine wpList_plain rfl fun _ hK => ?_
                go_simp
                refine hK _ _ ?_
                refine wpList_plain rfl fun _ hK => ?_
                go_simp
                refine hK _ _ ?_
                have HT := Lib.hid HT.out.tail.tail
                refine storeR (rf zn zb).toArray (show Blk _ _ _ rT from HT.out.hd) (by simp [rf]) (info65' zn zb) (ones_rf zn zb) rfl (.tmp 13) (.tmp 105) rfl rfl rfl ?_
                intro wJ hb hu
                have HT := Lib.hid ((HT.out.put hb hu))
                clear hb hu
                go_wp2_with fail
                go_meet
                exact ⟨(zn, zb, ze), rfl, rfl, HFX.out, HT.out⟩
              · go_simp
                have HQ := Lib.hid (HQ.out.newBlk (rf 0 0).toArray rT (g := v5.heap.size) (by simp))
                refine hK.out _ _ (HC.out _ HQ.out.bel) (fun hHeld => ?_)
                try simp only [List.setIfInBounds_toArray, List.set_cons_zero, List.set_cons_succ]
                refine wpAnyL_ready (rs := [5]) (by kernel_rfl) rfl ?_
                refine (AllL.cons rfl (fun K hK => ?_) AllL.nil)
                go_simp
                go_at_call 14
                with_reducible refine (set3 m 0 xi true (yn, yb, ye) _ HYO.out hm64).mono ?_
                rintro e v6 ⟨rfl, hB⟩
                have HQ := Lib.hid (HQ.out.step hB)
                clear hB
                go_simp
                refine hK.out _ _ (HC.out _ HQ.out.bel) (fun hHeld => ?_)
                try simp only [List.setIfInBounds_toArray, List.set_cons_zero, List.set_cons_succ]
                refine reg_take (i := 6) (d := 86) (v := ?_) [] rfl rfl (by kernel_rfl) (by kernel_rfl) (fun _ _ _ h => h) (Or.inl ⟨by rfl, ?_⟩) (by assumption) ?_
                rotate_left
                · (intro w hSw; (try dsimp only at hSw); go_simp; first | done | with_reducible rfl)
                try simp only [List.setIfInBounds_toArray, List.set_cons_zero, List.set_cons_succ]
                refine reg_take (i := 7) (d := 93) (v := ?_) [] rfl rfl (by kernel_rfl) (by kernel_rfl) (fun _ _ _ h => h) (Or.inl ⟨by rfl, ?_⟩) (by assumption) ?_
                rotate_left
                · (intro w hSw; (try dsimp only at hSw); go_simp; first | done | with_reducible rfl)
                try simp only [List.setIfInBounds_toArray, List.set_cons_zero, List.set_cons_succ]
                refine reg_take (i := 8) (d := 94) (v := ?_) [] rfl rfl (by kernel_rfl) (by kernel_rfl) (fun _ _ _ h => h) (Or.inl ⟨by rfl, ?_⟩) (by assumption) ?_
                rotate_left
                · (intro w hSw; (try dsimp only at hSw); go_simp; first | done | with_reducible rfl)
                try simp only [List.setIfInBounds_toArray, List.set_cons_zero, List.set_cons_succ]
                refine wpAnyL_ready (rs := [10]) (by kernel_rfl) rfl ?_
                refine (AllL.cons rfl (fun K hK => ?_) AllL.nil)
                refine stepStoreR (rf yn yb).toArray (show Blk _ _ (rf 0 0).toArray rT from HQ.out.hd) (by simp [rf]) (info65' yn yb) (ones_rf yn yb) rfl (.tmp 17) (.tmp 93) rfl rfl rfl ?_
                intro v9 hb hu
                have HQ := Lib.hid (HQ.out.put hb hu)
                clear hb hu
                refine hK.out _ _ (HC.out _ HQ.out.bel) (fun hHeld => ?_)
                try simp only [List.setIfInBounds_toArray, List.set_cons_zero, List.set_cons_succ]
                refine wpAnyL_ready (rs := [11]) (by kernel_rfl) rfl ?_
                refine (AllL.consJ rfl (by kernel_rfl) (fun K hK => ?_) AllL.nil)
                go_simp
                refine hK.out _ _ ?_
                try simp only [List.setIfInBounds_toArray, List.set_cons_zero, List.set_cons_succ]
                refine wpAnyL_done (by kernel_rfl) ?_ _
                have HT := Lib.hid (HT.out.join HQ.out)
                have HT : Hid (Sep w v9 (tBlk v5.heap.size (rf yn yb).toArray rT :: _)) := HT
                generalize v5.heap.size = g17 at *
                clear HQ HC
                go_upto_region 21 with fail
                refine wp_region_lit (l := [_, _, _, _, _, _, _, _]) ?_
                refine loadR _ (show Blk _ g7 (rc n b) tBR from HT.out.tail.tail.h4) Try.underlying26 rfl infoBR rfl (.tmp 7) rfl rfl ?_
                refine loadR _ (show Blk _ g15 (rc yn yb) tBR from HT.out.h2) Try.underlying26 rfl infoBR rfl (.tmp 15) rfl rfl ?_
                refine wpList_plain rfl fun _ hK => ?_
                go_simp
                go_at_call 16
                with_reducible refine (or3 n b yn yb (zn, zb, ze) _ HXO.out (Fine.u64 HF.out) (Fine.u64 HFY.out)).mono ?_
                rintro e wG ⟨rfl, hB⟩
                have HT := Lib.hid (HT.out.step hB)
                clear hB
                go_simp
                refine hK _ _ ?_
                refine wpList_plain rfl fun _ hK => ?_
                go_simp
                refine hK _ _ ?_
                refine wpList_plain rfl fun _ hK => ?_
                go_simp
                refine hK _ _ ?_
                refine wpList_plain rfl fun _ hK => ?_
                go_simp
                refine hK _ _ ?_
                refine storeR (rc zn zb) (show Blk _ _ _ tBR from HT.out.h4) rfl infoBR (ones_rc _ _) rfl (.tmp 11) (.tmp 99) rfl rfl rfl ?_
                intro wH hb hu
                have HT := Lib.hid ((HT.out.r4.put hb hu).r4')
                clear hb hu
                go_upto_region 22 with fail
                refine wp_region_lit (l := [_, _, _, _, _, _, _, _]) ?_
                refine loadR (cs := (rf n b).toArray) _ (show Blk _ g8 (rf n b).toArray rT from HT.out.tail.tail.h5) Try.underlying30 rfl (info65' n b) rfl (.tmp 8) rfl rfl ?_
                refine loadR (cs := (rf yn yb).toArray) _ (show Blk _ g17 (rf yn yb).toArray rT from HT.out.hd) Try.underlying30 rfl (info65' yn yb) rfl (.tmp 17) rfl rfl ?_
                refine wpList_plain rfl fun _ hK => ?_
                go_simp
                go_at_call 17
                with_reducible refine (ror3 n b yn yb (zn, zb, ze) _ HXO.out hn64 (Fine.le HFY.out) (Fine.lt HFY.out)).mono ?_
                rintro e wI ⟨rfl, hB⟩
                have HT := Lib.hid (HT.out.step hB)
                clear hB
                go_simp
                refine hK _ _ ?_
                refine wpList_plain rfl fun _ hK => ?_
                go_simp
                refine hK _ _ ?_
                refine wpList_plain rfl fun _ hK => ?_
                go_simp
                refine hK _ _ ?_
                refine wpList_plain rfl fun _ hK => ?_
                go_simp
                refine hK _ _ ?_
                have HT := Lib.hid HT.out.tail.tail
                refine storeR (rf zn zb).toArray (show Blk _ _ _ rT from HT.out.hd) (by simp [rf]) (info65' zn zb) (ones_rf zn zb) rfl (.tmp 13) (.tmp 105) rfl rfl rfl ?_
                intro wJ hb hu
                have HT := Lib.hid ((HT.out.put hb hu))
                clear hb hu
                go_wp2_with fail
                go_meet
                exact ⟨(zn, zb, ze), rfl, rfl, HFX.out, HT.out⟩
            · go_simp
              have HQ := Lib.hid (HQ.out.newBlk (rf 0 0).toArray rT (g := V9.heap.size) (by simp))
              refine hK.out _ _ (HC.out _ HQ.out.bel) (fun hHeld => ?_)
              try simp only [List.setIfInBounds_toArray, List.set_cons_zero, List.set_cons_succ]
              refine wpAnyL_ready (rs := [2]) (by kernel_rfl) rfl ?_
              refine (AllL.cons rfl (fun K hK => ?_) AllL.nil)
              go_simp
              go_at_call 12
              with_reducible refine (rnew3 xn m _ HM.out).mono ?_
              rintro e v5 ⟨rfl, hB⟩
              have HQ := Lib.hid (HQ.out.step hB)
              clear hB
              go_simp
              refine hK.out _ _ (HC.out _ HQ.out.bel) (fun hHeld => ?_)
              try simp only [List.setIfInBounds_toArray, List.set_cons_zero, List.set_cons_succ]
              refine wpAnyL_ready (rs := [5]) (by kernel_rfl) rfl ?_
              refine (AllL.cons rfl (fun K hK => ?_) AllL.nil)
              go_simp
              go_at_call 14
              with_reducible refine (set3 m 0 xi true (yn, yb, ye) _ HYO.out hm64).mono ?_
              rintro e v6 ⟨rfl, hB⟩
              have HQ := Lib.hid (HQ.out.step hB)
              clear hB
              go_simp
              refine hK.out _ _ (HC.out _ HQ.out.bel) (fun hHeld => ?_)
              try simp only [List.setIfInBounds_toArray, List.set_cons_zero, List.set_cons_succ]
              refine reg_take (i := 6) (d := 86) (v := ?_) [] rfl rfl (by kernel_rfl) (by kernel_rfl) (fun _ _ _ h => h) (Or.inl ⟨by rfl, ?_⟩) (by assumption) ?_
              rotate_left
              · (intro w hSw; (try dsimp only at hSw); go_simp; first | done | with_reducible rfl)
              try simp only [List.setIfInBounds_toArray, List.set_cons_zero, List.set_cons_succ]
              refine reg_take (i := 7) (d := 93) (v := ?_) [] rfl rfl (by kernel_rfl) (by kernel_rfl) (fun _ _ _ h => h) (Or.inl ⟨by rfl, ?_⟩) (by assumption) ?_
              rotate_left
              · (intro w hSw; (try dsimp only at hSw); go_simp; first | done | with_reducible rfl)
              try simp only [List.setIfInBounds_toArray, List.set_cons_zero, List.set_cons_succ]
              refine reg_take (i := 8) (d := 94) (v := ?_) [] rfl rfl (by kernel_rfl) (by kernel_rfl) (fun _ _ _ h => h) (Or.inl ⟨by rfl, ?_⟩) (by assumption) ?_
              rotate_left
              · (intro w hSw; (try dsimp only at hSw); go_simp; first | done | with_reducible rfl)
              try simp only [List.setIfInBounds_toArray, List.set_cons_zero, List.set_cons_succ]
              refine wpAnyL_ready (rs := [10]) (by kernel_rfl) rfl ?_
              refine (AllL.cons rfl (fun K hK => ?_) AllL.nil)
              refine stepStoreR (rf yn yb).toArray (show Blk _ _ (rf 0 0).toArray rT from HQ.out.hd) (by simp [rf]) (info65' yn yb) (ones_rf yn yb) rfl (.tmp 17) (.tmp 93) rfl rfl rfl ?_
              intro v9 hb hu
              have HQ := Lib.hid (HQ.out.put hb hu)
              clear hb hu
              refine hK.out _ _ (HC.out _ HQ.out.bel) (fun hHeld => ?_)
              try simp only [List.setIfInBounds_toArray, List.set_cons_zero, List.set_cons_succ]
              refine wpAnyL_ready (rs := [11]) (by kernel_rfl) rfl ?_
              refine (AllL.consJ rfl (by kernel_rfl) (fun K hK => ?_) AllL.nil)
              go_simp
              refine hK.out _ _ ?_
              try simp only [List.setIfInBounds_toArray, List.set_cons_zero, List.set_cons_succ]
              refine wpAnyL_done (by kernel_rfl) ?_ _
              have HT := Lib.hid (HT.out.join HQ.out)
              have HT : Hid (Sep w v9 (tBlk V9.heap.size (rf yn yb).toArray rT :: _)) := HT
              generalize V9.heap.size = g17 at *
              clear HQ HC
              go_upto_region 21 with fail
              refine wp_region_lit (l := [_, _, _, _, _, _, _, _]) ?_
              refine loadR _ (show Blk _ g7 (rc n b) tBR from HT.out.tail.tail.h4) Try.underlying26 rfl infoBR rfl (.tmp 7) rfl rfl ?_
              refine loadR _ (show Blk _ g15 (rc yn yb) tBR from HT.out.h2) Try.underlying26 rfl infoBR rfl (.tmp 15) rfl rfl ?_
              refine wpList_plain rfl fun _ hK => ?_
              go_simp
              go_at_call 16
              with_reducible refine (or3 n b yn yb (zn, zb, ze) _ HXO.out (Fine.u64 HF.out) (Fine.u64 HFY.out)).mono ?_
              rintro e wG ⟨rfl, hB⟩
              have HT := Lib.hid (HT.out.step hB)
              clear hB
              go_simp
              refine hK _ _ ?_
              refine wpList_plain rfl fun _ hK => ?_
              go_simp
              refine hK _ _ ?_
              refine wpList_plain rfl fun _ hK => ?_
              go_simp
              refine hK _ _ ?_
              refine wpList_plain rfl fun _ hK => ?_
              go_simp
              refine hK _ _ ?_
              refine storeR (rc zn zb) (show Blk _ _ _ tBR from HT.out.h4) rfl infoBR (ones_rc _ _) rfl (.tmp 11) (.tmp 99) rfl rfl rfl ?_
              intro wH hb hu
              have HT := Lib.hid ((HT.out.r4.put hb hu).r4')
              clear hb hu
              go_upto_region 22 with fail
              refine wp_region_lit (l := [_, _, _, _, _, _, _, _]) ?_
              refine loadR (cs := (rf n b).toArray) _ (show Blk _ g8 (rf n b).toArray rT from HT.out.tail.tail.h5) Try.underlying30 rfl (info65' n b) rfl (.tmp 8) rfl rfl ?_
              refine loadR (cs := (rf yn yb).toArray) _ (show Blk _ g17 (rf yn yb).toArray rT from HT.out.hd) Try.underlying30 rfl (info65' yn yb) rfl (.tmp 17) rfl rfl ?_
              refine wpList_plain rfl fun _ hK => ?_
              go_simp
              go_at_call 17
              with_reducible refine (ror3 n b yn yb (zn, zb, ze) _ HXO.out hn64 (Fine.le HFY.out) (Fine.lt HFY.out)).mono ?_
              rintro e wI ⟨rfl, hB⟩
              have HT := Lib.hid (HT.out.step hB)
              clear hB
              go_simp
              refine hK _ _ ?_
              refine wpList_plain rfl fun _ hK => ?_
              go_simp
              refine hK _ _ ?_
              refine wpList_plain rfl fun _ hK => ?_
              go_simp
              refine hK _ _ ?_
              refine wpList_plain rfl fun _ hK => ?_
              go_simp
              refine hK _ _ ?_
              have HT := Lib.hid HT.out.tail.tail
              refine storeR (rf zn zb).toArray (show Blk _ _ _ rT from HT.out.hd) (by simp [rf]) (info65' zn zb) (ones_rf zn zb) rfl (.tmp 13) (.tmp 105) rfl rfl rfl ?_
              intro wJ hb hu
              have HT := Lib.hid ((HT.out.put hb hu))
              clear hb hu
              go_wp2_with fail
              go_meet
              exact ⟨(zn, zb, ze), rfl, rfl, HFX.out, HT.out⟩
          · go_simp
            have HQ := Lib.hid (HQ.out.newBlk #[.int .i64 0, .int .u64 0] tBR (g := v5.heap.size) (by simp))
            refine hK.out _ _ (HC.out _ HQ.out.bel) (fun hHeld => ?_)
            try simp only [List.setIfInBounds_toArray, List.set_cons_zero, List.set_cons_succ]
            refine wpAnyL_ready (rs := [5]) (by kernel_rfl) rfl ?_
            refine (AllL.cons rfl (fun K hK => ?_) AllL.nil)
            go_simp
            go_at_call 13
            with_reducible refine (put3 m 0 xi (yn, yb, ye) _ HYO.out hm64 (by decide)).mono ?_
            rintro e v6 ⟨rfl, hB⟩
            have HQ := Lib.hid (HQ.out.step hB)
            clear hB
            go_simp
            refine hK.out _ _ (HC.out _ HQ.out.bel) (fun hHeld => ?_)
            try simp only [List.setIfInBounds_toArray, List.set_cons_zero, List.set_cons_succ]
            refine reg_take (i := 6) (d := 77) (v := ?_) [] rfl rfl (by kernel_rfl) (by kernel_rfl) (fun _ _ _ h => h) (Or.inl ⟨by rfl, ?_⟩) (by assumption) ?_
            rotate_left
            · (intro w hSw; (try dsimp only at hSw); go_simp; first | done | with_reducible rfl)
            try simp only [List.setIfInBounds_toArray, List.set_cons_zero, List.set_cons_succ]
            refine reg_take (i := 7) (d := 84) (v := ?_) [] rfl rfl (by kernel_rfl) (by kernel_rfl) (fun _ _ _ h => h) (Or.inl ⟨by rfl, ?_⟩) (by assumption) ?_
            rotate_left
            · (intro w hSw; (try dsimp only at hSw); go_simp; first | done | with_reducible rfl)
            try simp only [List.setIfInBounds_toArray, List.set_cons_zero, List.set_cons_succ]
            refine reg_take (i := 8) (d := 85) (v := ?_) [] rfl rfl (by kernel_rfl) (by kernel_rfl) (fun _ _ _ h => h) (Or.inl ⟨by rfl, ?_⟩) (by assumption) ?_
            rotate_left
            · (intro w hSw; (try dsimp only at hSw); go_simp; first | done | with_reducible rfl)
            try simp only [List.setIfInBounds_toArray, List.set_cons_zero, List.set_cons_succ]
            refine wpAnyL_ready (rs := [10]) (by kernel_rfl) rfl ?_
            refine (AllL.cons rfl (fun K hK => ?_) AllL.nil)
            refine stepStoreR (rc yn yb) (show Blk _ _ #[.int .i64 0, .int .u64 0] tBR from HQ.out.hd) rfl infoBR (ones_rc _ _) rfl (.tmp 15) (.tmp 84) rfl rfl rfl ?_
            intro v9 hb hu
            have HQ := Lib.hid (HQ.out.put hb hu)
            clear hb hu
            refine hK.out _ _ (HC.out _ HQ.out.bel) (fun hHeld => ?_)
            try simp only [List.setIfInBounds_toArray, List.set_cons_zero, List.set_cons_succ]
            refine wpAnyL_ready (rs := [11]) (by kernel_rfl) rfl ?_
            refine (AllL.consJ rfl (by kernel_rfl) (fun K hK => ?_) AllL.nil)
            go_simp
            refine hK.out _ _ ?_
            try simp only [List.setIfInBounds_toArray, List.set_cons_zero, List.set_cons_succ]
            refine wpAnyL_done (by kernel_rfl) ?_ _
            have HT := Lib.hid (HT.out.join HQ.out)
            have HT : Hid (Sep w v9 (tBlk v5.heap.size (rc yn yb) tBR :: _)) := HT
            generalize v5.heap.size = g15 at *
            clear HQ HC
            go_upto_region 20 with fail
            have HC : Hid (∀ w', Below v9.heap.size v9 w' → w'.cell? ⟨g10, 2, none⟩ = some (.int .i64 xn) ∧ w'.cell? ⟨g10, 1, none⟩ = some (.int .i64 xi)) := Lib.hid (fun w' h => ⟨((show Blk v9 g10 _ tBA from HT.out.h4).below h).cell 2, ((show Blk v9 g10 _ tBA from HT.out.h4).below h).cell 1⟩)
            generalize v9 = V9 at *
            have HQ := Lib.hid ((Sep.nil V9).drew)
            refine wp_region_L (fun w' => w'.cell? ⟨g10, 2, none⟩ = some (.int .i64 xn) ∧ w'.cell? ⟨g10, 1, none⟩ = some (.int .i64 xi)) 11 (by kernel_rfl) (HC.out _ HQ.out.bel) (fun hHeld => ?_)
            refine reg_take (i := 0) (d := 87) (v := ?_) [] rfl rfl (by kernel_rfl) (by kernel_rfl) (fun _ _ _ h => h) (Or.inl ⟨by rfl, ?_⟩) (by assumption) ?_
            rotate_left
            · (intro w hSw; (try dsimp only at hSw); go_simp; first | done | with_reducible rfl)
            try simp only [List.setIfInBounds_toArray, List.set_cons_zero, List.set_cons_succ]
            refine reg_take (i := 1) (d := 88) (v := ?_) [] rfl rfl (by kernel_rfl) (by kernel_rfl) (fun _ _ _ h => h) (Or.inl ⟨by rfl, ?_⟩) (by assumption) ?_
            rotate_left
            · (intro w hSw; (try dsimp only at hSw); go_simp; first | done | with_reducible rfl)
            try simp only [List.setIfInBounds_toArray, List.set_cons_zero, List.set_cons_succ]
            refine reg_take (i := 3) (d := 90) (v := ?_) [] rfl rfl (by kernel_rfl) (by kernel_rfl) (fun _ _ _ h => h) (Or.inl ⟨by rfl, ?_⟩) (by assumption) ?_
            rotate_left
            · (intro w hSw; (try dsimp only at hSw); go_simp; first | done | with_reducible rfl)
            try simp only [List.setIfInBounds_toArray, List.set_cons_zero, List.set_cons_succ]
            refine reg_take (i := 4) (d := 91) (v := ?_) [] rfl rfl (by kernel_rfl) (by kernel_rfl) (fun _ _ _ h => h) (Or.inl ⟨by rfl, ?_⟩) (by assumption) ?_
            rotate_left
            · (intro w hSw; (try dsimp only at hSw); go_simp; first | done | with_reducible rfl)
            try simp only [List.setIfInBounds_toArray, List.set_cons_zero, List.set_cons_succ]
            refine wpAnyL_ready (rs := [2, 9]) (by kernel_rfl) rfl ?_
            refine (AllL.cons rfl (fun K hK => ?_) (AllL.cons rfl (fun K hK => ?_) AllL.nil))
            · go_simp
              go_at_call 12
              with_reducible refine (rnew3 xn m _ HM.out).mono ?_
              rintro e v5 ⟨rfl, hB⟩
              have HQ := Lib.hid (HQ.out.step hB)
              clear hB
              go_simp
              refine hK.out _ _ (HC.out _ HQ.out.bel) (fun hHeld => ?_)
              try simp only [List.setIfInBounds_toArray, List.set_cons_zero, List.set_cons_succ]
              refine wpAnyL_ready (rs := [5, 9]) (by kernel_rfl) rfl ?_
              refine (AllL.cons rfl (fun K hK => ?_) (AllL.cons rfl (fun K hK => ?_) AllL.nil))
              · go_simp
                go_at_call 14
                with_reducible refine (set3 m 0 xi true (yn, yb, ye) _ HYO.out hm64).mono ?_
                rintro e v6 ⟨rfl, hB⟩
                have HQ := Lib.hid (HQ.out.step hB)
                clear hB
                go_simp
                refine hK.out _ _ (HC.out _ HQ.out.bel) (fun hHeld => ?_)
                try simp only [List.setIfInBounds_toArray, List.set_cons_zero, List.set_cons_succ]
                refine reg_take (i := 6) (d := 86) (v := ?_) [] rfl rfl (by kernel_rfl) (by kernel_rfl) (fun _ _ _ h => h) (Or.inl ⟨by rfl, ?_⟩) (by assumption) ?_
                rotate_left
                · (intro w hSw; (try dsimp only at hSw); go_simp; first | done | with_reducible rfl)
                try simp only [List.setIfInBounds_toArray, List.set_cons_zero, List.set_cons_succ]
                refine reg_take (i := 7) (d := 93) (v := ?_) [] rfl rfl (by kernel_rfl) (by kernel_rfl) (fun _ _ _ h => h) (Or.inl ⟨by rfl, ?_⟩) (by assumption) ?_
                rotate_left
                · (intro w hSw; (try dsimp only at hSw); go_simp; first | done | with_reducible rfl)
                try simp only [List.setIfInBounds_toArray, List.set_cons_zero, List.set_cons_succ]
                refine reg_take (i := 8) (d := 94) (v := ?_) [] rfl rfl (by kernel_rfl) (by kernel_rfl) (fun _ _ _ h => h) (Or.inl ⟨by rfl, ?_⟩) (by assumption) ?_
                rotate_left
                · (intro w hSw; (try dsimp only at hSw); go_simp; first | done | with_reducible rfl)
                try simp only [List.setIfInBounds_toArray, List.set_cons_zero, List.set_cons_succ]
                refine wpAnyL_ready (rs := [9]) (by kernel_rfl) rfl ?_
                refine (AllL.cons rfl (fun K hK => ?_) AllL.nil)
                go_simp
                have HQ := Lib.hid (HQ.out.newBlk (rf 0 0).toArray rT (g := v6.heap.size) (by simp))
                refine hK.out _ _ (HC.out _ HQ.out.bel) (fun hHeld => ?_)
                try simp only [List.setIfInBounds_toArray, List.set_cons_zero, List.set_cons_succ]
                refine wpAnyL_ready (rs := [10]) (by kernel_rfl) rfl ?_
                refine (AllL.cons rfl (fun K hK => ?_) AllL.nil)
                refine stepStoreR (rf yn yb).toArray (show Blk _ _ (rf 0 0).toArray rT from HQ.out.hd) (by simp [rf]) (info65' yn yb) (ones_rf yn yb) rfl (.tmp 17) (.tmp 93) rfl rfl rfl ?_
                intro v9 hb hu
                have HQ := Lib.hid (HQ.out.put hb hu)
                clear hb hu
                refine hK.out _ _ (HC.out _ HQ.out.bel) (fun hHeld => ?_)
                try simp only [List.setIfInBounds_toArray, List.set_cons_zero, List.set_cons_succ]
                refine wpAnyL_ready (rs := [11]) (by kernel_rfl) rfl ?_
                refine (AllL.consJ rfl (by kernel_rfl) (fun K hK => ?_) AllL.nil)
                go_simp
                refine hK.out _ _ ?_
                try simp only [List.setIfInBounds_toArray, List.set_cons_zero, List.set_cons_succ]
                refine wpAnyL_done (by kernel_rfl) ?_ _
                have HT := Lib.hid (HT.out.join HQ.out)
                have HT : Hid (Sep w v9 (tBlk v6.heap.size (rf yn yb).toArray rT :: _)) := HT
                generalize v6.heap.size = g17 at *
                clear HQ HC
                go_upto_region 21 with fail
                refine wp_region_lit (l := [_, _, _, _, _, _, _, _]) ?_
                refine loadR _ (show Blk _ g7 (rc n b) tBR from HT.out.tail.tail.h4) Try.underlying26 rfl infoBR rfl (.tmp 7) rfl rfl ?_
                refine loadR _ (show Blk _ g15 (rc yn yb) tBR from HT.out.h2) Try.underlying26 rfl infoBR rfl (.tmp 15) rfl rfl ?_
                refine wpList_plain rfl fun _ hK => ?_
                go_simp
                go_at_call 16
                with_reducible refine (or3 n b yn yb (zn, zb, ze) _ HXO.out (Fine.u64 HF.out) (Fine.u64 HFY.out)).mono ?_
                rintro e wG ⟨rfl, hB⟩
                have HT := Lib.hid (HT.out.step hB)
                clear hB
                go_simp
                refine hK _ _ ?_
                refine wpList_plain rfl fun _ hK => ?_
                go_simp
                refine hK _ _ ?_
                refine wpList_plain rfl fun _ hK => ?_
                go_simp
                refine hK _ _ ?_
                refine wpList_plain rfl fun _ hK => ?_
                go_simp
                refine hK _ _ ?_
                refine storeR (rc zn zb) (show Blk _ _ _ tBR from HT.out.h4) rfl infoBR (ones_rc _ _) rfl (.tmp 11) (.tmp 99) rfl rfl rfl ?_
                intro wH hb hu
                have HT := Lib.hid ((HT.out.r4.put hb hu).r4')
                clear hb hu
                go_upto_region 22 with fail
                refine wp_region_lit (l := [_, _, _, _, _, _, _, _]) ?_
                refine loadR (cs := (rf n b).toArray) _ (show Blk _ g8 (rf n b).toArray rT from HT.out.tail.tail.h5) Try.underlying30 rfl (info65' n b) rfl (.tmp 8) rfl rfl ?_
                refine loadR (cs := (rf yn yb).toArray) _ (show Blk _ g17 (rf yn yb).toArray rT from HT.out.hd) Try.underlying30 rfl (info65' yn yb) rfl (.tmp 17) rfl rfl ?_
                refine wpList_plain rfl fun _ hK => ?_
                go_simp
                go_at_call 17
                with_reducible refine (ror3 n b yn yb (zn, zb, ze) _ HXO.out hn64 (Fine.le HFY.out) (Fine.lt HFY.out)).mono ?_
                rintro e wI ⟨rfl, hB⟩
                have HT := Lib.hid (HT.out.step hB)
                clear hB
                go_simp
                refine hK _ _ ?_
                refine wpList_plain rfl fun _ hK => ?_
                go_simp
                refine hK _ _ ?_
                refine wpList_plain rfl fun _ hK => ?_
                go_simp
                refine hK _ _ ?_
                refine wpList_plain rfl fun _ hK => ?_
                go_simp
                refine hK _ _ ?_
                have HT := Lib.hid HT.out.tail.tail
                refine storeR (rf zn zb).toArray (show Blk _ _ _ rT from HT.out.hd) (by simp [rf]) (info65' zn zb) (ones_rf zn zb) rfl (.tmp 13) (.tmp 105) rfl rfl rfl ?_
                intro wJ hb hu
                have HT := Lib.hid ((HT.out.put hb hu))
                clear hb hu
                go_wp2_with fail
                go_meet
                exact ⟨(zn, zb, ze), rfl, rfl, HFX.out, HT.out⟩
              · go_simp
                have HQ := Lib.hid (HQ.out.newBlk (rf 0 0).toArray rT (g := v5.heap.size) (by simp))
                refine hK.out _ _ (HC.out _ HQ.out.bel) (fun hHeld => ?_)
                try simp only [List.setIfInBounds_toArray, List.set_cons_zero, List.set_cons_succ]
                refine wpAnyL_ready (rs := [5]) (by kernel_rfl) rfl ?_
                refine (AllL.cons rfl (fun K hK => ?_) AllL.nil)
                go_simp
                go_at_call 14
                with_reducible refine (set3 m 0 xi true (yn, yb, ye) _ HYO.out hm64).mono ?_
                rintro e v6 ⟨rfl, hB⟩
                have HQ := Lib.hid (HQ.out.step hB)
                clear hB
                go_simp
                refine hK.out _ _ (HC.out _ HQ.out.bel) (fun hHeld => ?_)
                try simp only [List.setIfInBounds_toArray, List.set_cons_zero, List.set_cons_succ]
                refine reg_take (i := 6) (d := 86) (v := ?_) [] rfl rfl (by kernel_rfl) (by kernel_rfl) (fun _ _ _ h => h) (Or.inl ⟨by rfl, ?_⟩) (by assumption) ?_
                rotate_left
                · (intro w hSw; (try dsimp only at hSw); go_simp; first | done | with_reducible rfl)
                try simp only [List.setIfInBounds_toArray, List.set_cons_zero, List.set_cons_succ]
                refine reg_take (i := 7) (d := 93) (v := ?_) [] rfl rfl (by kernel_rfl) (by kernel_rfl) (fun _ _ _ h => h) (Or.inl ⟨by rfl, ?_⟩) (by assumption) ?_
                rotate_left
                · (intro w hSw; (try dsimp only at hSw); go_simp; first | done | with_reducible rfl)
                try simp only [List.setIfInBounds_toArray, List.set_cons_zero, List.set_cons_succ]
                refine reg_take (i := 8) (d := 94) (v := ?_) [] rfl rfl (by kernel_rfl) (by kernel_rfl) (fun _ _ _ h => h) (Or.inl ⟨by rfl, ?_⟩) (by assumption) ?_
                rotate_left
                · (intro w hSw; (try dsimp only at hSw); go_simp; first | done | with_reducible rfl)
                try simp only [List.setIfInBounds_toArray, List.set_cons_zero, List.set_cons_succ]
                refine wpAnyL_ready (rs := [10]) (by kernel_rfl) rfl ?_
                refine (AllL.cons rfl (fun K hK => ?_) AllL.nil)
                refine stepStoreR (rf yn yb).toArray (show Blk _ _ (rf 0 0).toArray rT from HQ.out.hd) (by simp [rf]) (info65' yn yb) (ones_rf yn yb) rfl (.tmp 17) (.tmp 93) rfl rfl rfl ?_
                intro v9 hb hu
                have HQ := Lib.hid (HQ.out.put hb hu)
                clear hb hu
                refine hK.out _ _ (HC.out _ HQ.out.bel) (fun hHeld => ?_)
                try simp only [List.setIfInBounds_toArray, List.set_cons_zero, List.set_cons_succ]
                refine wpAnyL_ready (rs := [11]) (by kernel_rfl) rfl ?_
                refine (AllL.consJ rfl (by kernel_rfl) (fun K hK => ?_) AllL.nil)
                go_simp
                refine hK.out _ _ ?_
                try simp only [List.setIfInBounds_toArray, List.set_cons_zero, List.set_cons_succ]
                refine wpAnyL_done (by kernel_rfl) ?_ _
                have HT := Lib.hid (HT.out.join HQ.out)
                have HT : Hid (Sep w v9 (tBlk v5.heap.size (rf yn yb).toArray rT :: _)) := HT
                generalize v5.heap.size = g17 at *
                clear HQ HC
                go_upto_region 21 with fail
                refine wp_region_lit (l := [_, _, _, _, _, _, _, _]) ?_
                refine loadR _ (show Blk _ g7 (rc n b) tBR from HT.out.tail.tail.h4) Try.underlying26 rfl infoBR rfl (.tmp 7) rfl rfl ?_
                refine loadR _ (show Blk _ g15 (rc yn yb) tBR from HT.out.h2) Try.underlying26 rfl infoBR rfl (.tmp 15) rfl rfl ?_
                refine wpList_plain rfl fun _ hK => ?_
                go_simp
                go_at_call 16
                with_reducible refine (or3 n b yn yb (zn, zb, ze) _ HXO.out (Fine.u64 HF.out) (Fine.u64 HFY.out)).mono ?_
                rintro e wG ⟨rfl, hB⟩
                have HT := Lib.hid (HT.out.step hB)
                clear hB
                go_simp
                refine hK _ _ ?_
                refine wpList_plain rfl fun _ hK => ?_
                go_simp
                refine hK _ _ ?_
                refine wpList_plain rfl fun _ hK => ?_
                go_simp
                refine hK _ _ ?_
                refine wpList_plain rfl fun _ hK => ?_
                go_simp
                refine hK _ _ ?_
                refine storeR (rc zn zb) (show Blk _ _ _ tBR from HT.out.h4) rfl infoBR (ones_rc _ _) rfl (.tmp 11) (.tmp 99) rfl rfl rfl ?_
                intro wH hb hu
                have HT := Lib.hid ((HT.out.r4.put hb hu).r4')
                clear hb hu
                go_upto_region 22 with fail
                refine wp_region_lit (l := [_, _, _, _, _, _, _, _]) ?_
                refine loadR (cs := (rf n b).toArray) _ (show Blk _ g8 (rf n b).toArray rT from HT.out.tail.tail.h5) Try.underlying30 rfl (info65' n b) rfl (.tmp 8) rfl rfl ?_
                refine loadR (cs := (rf yn yb).toArray) _ (show Blk _ g17 (rf yn yb).toArray rT from HT.out.hd) Try.underlying30 rfl (info65' yn yb) rfl (.tmp 17) rfl rfl ?_
                refine wpList_plain rfl fun _ hK => ?_
                go_simp
                go_at_call 17
                with_reducible refine (ror3 n b yn yb (zn, zb, ze) _ HXO.out hn64 (Fine.le HFY.out) (Fine.lt HFY.out)).mono ?_
                rintro e wI ⟨rfl, hB⟩
                have HT := Lib.hid (HT.out.step hB)
                clear hB
                go_simp
                refine hK _ _ ?_
                refine wpList_plain rfl fun _ hK => ?_
                go_simp
                refine hK _ _ ?_
                refine wpList_plain rfl fun _ hK => ?_
                go_simp
                refine hK _ _ ?_
                refine wpList_plain rfl fun _ hK => ?_
                go_simp
                refine hK _ _ ?_
                have HT := Lib.hid HT.out.tail.tail
                refine storeR (rf zn zb).toArray (show Blk _ _ _ rT from HT.out.hd) (by simp [rf]) (info65' zn zb) (ones_rf zn zb) rfl (.tmp 13) (.tmp 105) rfl rfl rfl ?_
                intro wJ hb hu
                have HT := Lib.hid ((HT.out.put hb hu))
                clear hb hu
                go_wp2_with fail
                go_meet
                exact ⟨(zn, zb, ze), rfl, rfl, HFX.out, HT.out⟩
            · go_simp
              have HQ := Lib.hid (HQ.out.newBlk (rf 0 0).toArray rT (g := V9.heap.size) (by simp))
              refine hK.out _ _ (HC.out _ HQ.out.bel) (fun hHeld => ?_)
              try simp only [List.setIfInBounds_toArray, List.set_cons_zero, List.set_cons_succ]
              refine wpAnyL_ready (rs := [2]) (by kernel_rfl) rfl ?_
              refine (AllL.cons rfl (fun K hK => ?_) AllL.nil)
              go_simp
              go_at_call 12
              with_reducible refine (rnew3 xn m _ HM.out).mono ?_
              rintro e v5 ⟨rfl, hB⟩
              have HQ := Lib.hid (HQ.out.step hB)
              clear hB
              go_simp
              refine hK.out _ _ (HC.out _ HQ.out.bel) (fun hHeld => ?_)
              try simp only [List.setIfInBounds_toArray, List.set_cons_zero, List.set_cons_succ]
              refine wpAnyL_ready (rs := [5]) (by kernel_rfl) rfl ?_
              refine (AllL.cons rfl (fun K hK => ?_) AllL.nil)
              go_simp
              go_at_call 14
              with_reducible refine (set3 m 0 xi true (yn, yb, ye) _ HYO.out hm64).mono ?_
              rintro e v6 ⟨rfl, hB⟩
              have HQ := Lib.hid (HQ.out.step hB)
              clear hB
              go_simp
              refine hK.out _ _ (HC.out _ HQ.out.bel) (fun hHeld => ?_)
              try simp only [List.setIfInBounds_toArray, List.set_cons_zero, List.set_cons_succ]
              refine reg_take (i := 6) (d := 86) (v := ?_) [] rfl rfl (by kernel_rfl) (by kernel_rfl) (fun _ _ _ h => h) (Or.inl ⟨by rfl, ?_⟩) (by assumption) ?_
              rotate_left
              · (intro w hSw; (try dsimp only at hSw); go_simp; first | done | with_reducible rfl)
              try simp only [List.setIfInBounds_toArray, List.set_cons_zero, List.set_cons_succ]
              refine reg_take (i := 7) (d := 93) (v := ?_) [] rfl rfl (by kernel_rfl) (by kernel_rfl) (fun _ _ _ h => h) (Or.inl ⟨by rfl, ?_⟩) (by assumption) ?_
              rotate_left
              · (intro w hSw; (try dsimp only at hSw); go_simp; first | done | with_reducible rfl)
              try simp only [List.setIfInBounds_toArray, List.set_cons_zero, List.set_cons_succ]
              refine reg_take (i := 8) (d := 94) (v := ?_) [] rfl rfl (by kernel_rfl) (by kernel_rfl) (fun _ _ _ h => h) (Or.inl ⟨by rfl, ?_⟩) (by assumption) ?_
              rotate_left
              · (intro w hSw; (try dsimp only at hSw); go_simp; first | done | with_reducible rfl)
              try simp only [List.setIfInBounds_toArray, List.set_cons_zero, List.set_cons_succ]
              refine wpAnyL_ready (rs := [10]) (by kernel_rfl) rfl ?_
              refine (AllL.cons rfl (fun K hK => ?_) AllL.nil)
              refine stepStoreR (rf yn yb).toArray (show Blk _ _ (rf 0 0).toArray rT from HQ.out.hd) (by simp [rf]) (info65' yn yb) (ones_rf yn yb) rfl (.tmp 17) (.tmp 93) rfl rfl rfl ?_
              intro v9 hb hu
              have HQ := Lib.hid (HQ.out.put hb hu)
              clear hb hu
              refine hK.out _ _ (HC.out _ HQ.out.bel) (fun hHeld => ?_)
              try simp only [List.setIfInBounds_toArray, List.set_cons_zero, List.set_cons_succ]
              refine wpAnyL_ready (rs := [11]) (by kernel_rfl) rfl ?_
              refine (AllL.consJ rfl (by kernel_rfl) (fun K hK => ?_) AllL.nil)
              go_simp
              refine hK.out _ _ ?_
              try simp only [List.setIfInBounds_toArray, List.set_cons_zero, List.set_cons_succ]
              refine wpAnyL_done (by kernel_rfl) ?_ _
              have HT := Lib.hid (HT.out.join HQ.out)
              have HT : Hid (Sep w v9 (tBlk V9.heap.size (rf yn yb).toArray rT :: _)) := HT
              generalize V9.heap.size = g17 at *
              clear HQ HC
              go_upto_region 21 with fail
              refine wp_region_lit (l := [_, _, _, _, _, _, _, _]) ?_
              refine loadR _ (show Blk _ g7 (rc n b) tBR from HT.out.tail.tail.h4) Try.underlying26 rfl infoBR rfl (.tmp 7) rfl rfl ?_
              refine loadR _ (show Blk _ g15 (rc yn yb) tBR from HT.out.h2) Try.underlying26 rfl infoBR rfl (.tmp 15) rfl rfl ?_
              refine wpList_plain rfl fun _ hK => ?_
              go_simp
              go_at_call 16
              with_reducible refine (or3 n b yn yb (zn, zb, ze) _ HXO.out (Fine.u64 HF.out) (Fine.u64 HFY.out)).mono ?_
              rintro e wG ⟨rfl, hB⟩
              have HT := Lib.hid (HT.out.step hB)
              clear hB
              go_simp
              refine hK _ _ ?_
              refine wpList_plain rfl fun _ hK => ?_
              go_simp
              refine hK _ _ ?_
              refine wpList_plain rfl fun _ hK => ?_
              go_simp
              refine hK _ _ ?_
              refine wpList_plain rfl fun _ hK => ?_
              go_simp
              refine hK _ _ ?_
              refine storeR (rc zn zb) (show Blk _ _ _ tBR from HT.out.h4) rfl infoBR (ones_rc _ _) rfl (.tmp 11) (.tmp 99) rfl rfl rfl ?_
              intro wH hb hu
              have HT := Lib.hid ((HT.out.r4.put hb hu).r4')
              clear hb hu
              go_upto_region 22 with fail
              refine wp_region_lit (l := [_, _, _, _, _, _, _, _]) ?_
              refine loadR (cs := (rf n b).toArray) _ (show Blk _ g8 (rf n b).toArray rT from HT.out.tail.tail.h5) Try.underlying30 rfl (info65' n b) rfl (.tmp 8) rfl rfl ?_
              refine loadR (cs := (rf yn yb).toArray) _ (show Blk _ g17 (rf yn yb).toArray rT from HT.out.hd) Try.underlying30 rfl (info65' yn yb) rfl (.tmp 17) rfl rfl ?_
              refine wpList_plain rfl fun _ hK => ?_
              go_simp
              go_at_call 17
              with_reducible refine (ror3 n b yn yb (zn, zb, ze) _ HXO.out hn64 (Fine.le HFY.out) (Fine.lt HFY.out)).mono ?_
              rintro e wI ⟨rfl, hB⟩
              have HT := Lib.hid (HT.out.step hB)
              clear hB
              go_simp
              refine hK _ _ ?_
              refine wpList_plain rfl fun _ hK => ?_
              go_simp
              refine hK _ _ ?_
              refine wpList_plain rfl fun _ hK => ?_
              go_simp
              refine hK _ _ ?_
              refine wpList_plain rfl fun _ hK => ?_
              go_simp
              refine hK _ _ ?_
              have HT := Lib.hid HT.out.tail.tail
              refine storeR (rf zn zb).toArray (show Blk _ _ _ rT from HT.out.hd) (by simp [rf]) (info65' zn zb) (ones_rf zn zb) rfl (.tmp 13) (.tmp 105) rfl rfl rfl ?_
              intro wJ hb hu
              have HT := Lib.hid ((HT.out.put hb hu))
              clear hb hu
              go_wp2_with fail
              go_meet
              exact ⟨(zn, zb, ze), rfl, rfl, HFX.out, HT.out⟩
        · go_simp
          have HQ := Lib.hid (HQ.out.newBlk #[.int .i64 0, .int .u64 0] tBR (g := wB.heap.size) (by simp))
          refine hK.out _ _ (HC.out _ HQ.out.bel) (fun hHeld => ?_)
          try simp only [List.setIfInBounds_toArray, List.set_cons_zero, List.set_cons_succ]
          refine wpAnyL_ready (rs := [2]) (by kernel_rfl) rfl ?_
          refine (AllL.cons rfl (fun K hK => ?_) AllL.nil)
          go_simp
          go_at_call 11
          with_reducible refine (bnew3 xn m _ HM.out).mono ?_
          rintro e v5 ⟨rfl, hB⟩
          have HQ := Lib.hid (HQ.out.step hB)
          clear hB
          go_simp
          refine hK.out _ _ (HC.out _ HQ.out.bel) (fun hHeld => ?_)
          try simp only [List.setIfInBounds_toArray, List.set_cons_zero, List.set_cons_succ]
          refine wpAnyL_ready (rs := [5]) (by kernel_rfl) rfl ?_
          refine (AllL.cons rfl (fun K hK => ?_) AllL.nil)
          go_simp
          go_at_call 13
          with_reducible refine (put3 m 0 xi (yn, yb, ye) _ HYO.out hm64 (by decide)).mono ?_
          rintro e v6 ⟨rfl, hB⟩
          have HQ := Lib.hid (HQ.out.step hB)
          clear hB
          go_simp
          refine hK.out _ _ (HC.out _ HQ.out.bel) (fun hHeld => ?_)
          try simp only [List.setIfInBounds_toArray, List.set_cons_zero, List.set_cons_succ]
          refine reg_take (i := 6) (d := 77) (v := ?_) [] rfl rfl (by kernel_rfl) (by kernel_rfl) (fun _ _ _ h => h) (Or.inl ⟨by rfl, ?_⟩) (by assumption) ?_
          rotate_left
          · (intro w hSw; (try dsimp only at hSw); go_simp; first | done | with_reducible rfl)
          try simp only [List.setIfInBounds_toArray, List.set_cons_zero, List.set_cons_succ]
          refine reg_take (i := 7) (d := 84) (v := ?_) [] rfl rfl (by kernel_rfl) (by kernel_rfl) (fun _ _ _ h => h) (Or.inl ⟨by rfl, ?_⟩) (by assumption) ?_
          rotate_left
          · (intro w hSw; (try dsimp only at hSw); go_simp; first | done | with_reducible rfl)
          try simp only [List.setIfInBounds_toArray, List.set_cons_zero, List.set_cons_succ]
          refine reg_take (i := 8) (d := 85) (v := ?_) [] rfl rfl (by kernel_rfl) (by kernel_rfl) (fun _ _ _ h => h) (Or.inl ⟨by rfl, ?_⟩) (by assumption) ?_
          rotate_left
          · (intro w hSw; (try dsimp only at hSw); go_simp; first | done | with_reducible rfl)
          try simp only [List.setIfInBounds_toArray, List.set_cons_zero, List.set_cons_succ]
          refine wpAnyL_ready (rs := [10]) (by kernel_rfl) rfl ?_
          refine (AllL.cons rfl (fun K hK => ?_) AllL.nil)
          refine stepStoreR (rc yn yb) (show Blk _ _ #[.int .i64 0, .int .u64 0] tBR from HQ.out.hd) rfl infoBR (ones_rc _ _) rfl (.tmp 15) (.tmp 84) rfl rfl rfl ?_
          intro v9 hb hu
          have HQ := Lib.hid (HQ.out.put hb hu)
          clear hb hu
          refine hK.out _ _ (HC.out _ HQ.out.bel) (fun hHeld => ?_)
          try simp only [List.setIfInBounds_toArray, List.set_cons_zero, List.set_cons_succ]
          refine wpAnyL_ready (rs := [11]) (by kernel_rfl) rfl ?_
          refine (AllL.consJ rfl (by kernel_rfl) (fun K hK => ?_) AllL.nil)
          go_simp
          refine hK.out _ _ ?_
          try simp only [List.setIfInBounds_toArray, List.set_cons_zero, List.set_cons_succ]
          refine wpAnyL_done (by kernel_rfl) ?_ _
          have HT := Lib.hid (HT.out.join HQ.out)
          have HT : Hid (Sep w v9 (tBlk wB.heap.size (rc yn yb) tBR :: _)) := HT
          generalize wB.heap.size = g15 at *
          clear HQ HC
          go_upto_region 20 with fail
          have HC : Hid (∀ w', Below v9.heap.size v9 w' → w'.cell? ⟨g10, 2, none⟩ = some (.int .i64 xn) ∧ w'.cell? ⟨g10, 1, none⟩ = some (.int .i64 xi)) := Lib.hid (fun w' h => ⟨((show Blk v9 g10 _ tBA from HT.out.h4).below h).cell 2, ((show Blk v9 g10 _ tBA from HT.out.h4).below h).cell 1⟩)
          generalize v9 = V9 at *
          have HQ := Lib.hid ((Sep.nil V9).drew)
          refine wp_region_L (fun w' => w'.cell? ⟨g10, 2, none⟩ = some (.int .i64 xn) ∧ w'.cell? ⟨g10, 1, none⟩ = some (.int .i64 xi)) 11 (by kernel_rfl) (HC.out _ HQ.out.bel) (fun hHeld => ?_)
          refine reg_take (i := 0) (d := 87) (v := ?_) [] rfl rfl (by kernel_rfl) (by kernel_rfl) (fun _ _ _ h => h) (Or.inl ⟨by rfl, ?_⟩) (by assumption) ?_
          rotate_left
          · (intro w hSw; (try dsimp only at hSw); go_simp; first | done | with_reducible rfl)
          try simp only [List.setIfInBounds_toArray, List.set_cons_zero, List.set_cons_succ]
          refine reg_take (i := 1) (d := 88) (v := ?_) [] rfl rfl (by kernel_rfl) (by kernel_rfl) (fun _ _ _ h => h) (Or.inl ⟨by rfl, ?_⟩) (by assumption) ?_
          rotate_left
          · (intro w hSw; (try dsimp only at hSw); go_simp; first | done | with_reducible rfl)
          try simp only [List.setIfInBounds_toArray, List.set_cons_zero, List.set_cons_succ]
          refine reg_take (i := 3) (d := 90) (v := ?_) [] rfl rfl (by kernel_rfl) (by kernel_rfl) (fun _ _ _ h => h) (Or.inl ⟨by rfl, ?_⟩) (by assumption) ?_
          rotate_left
          · (intro w hSw; (try dsimp only at hSw); go_simp; first | done | with_reducible rfl)
          try simp only [List.setIfInBounds_toArray, List.set_cons_zero, List.set_cons_succ]
          refine reg_take (i := 4) (d := 91) (v := ?_) [] rfl rfl (by kernel_rfl) (by kernel_rfl) (fun _ _ _ h => h) (Or.inl ⟨by rfl, ?_⟩) (by assumption) ?_
          rotate_left
          · (intro w hSw; (try dsimp only at hSw); go_simp; first | done | with_reducible rfl)
          try simp only [List.setIfInBounds_toArray, List.set_cons_zero, List.set_cons_succ]
          refine wpAnyL_ready (rs := [2, 9]) (by kernel_rfl) rfl ?_
          refine (AllL.cons rfl (fun K hK => ?_) (AllL.cons rfl (fun K hK => ?_) AllL.nil))
          · go_simp
            go_at_call 12
            with_reducible refine (rnew3 xn m _ HM.out).mono ?_
            rintro e v5 ⟨rfl, hB⟩
            have HQ := Lib.hid (HQ.out.step hB)
            clear hB
            go_simp
            refine hK.out _ _ (HC.out _ HQ.out.bel) (fun hHeld => ?_)
            try simp only [List.setIfInBounds_toArray, List.set_cons_zero, List.set_cons_succ]
            refine wpAnyL_ready (rs := [5, 9]) (by kernel_rfl) rfl ?_
            refine (AllL.cons rfl (fun K hK => ?_) (AllL.cons rfl (fun K hK => ?_) AllL.nil))
            · go_simp
              go_at_call 14
              with_reducible refine (set3 m 0 xi true (yn, yb, ye) _ HYO.out hm64).mono ?_
              rintro e v6 ⟨rfl, hB⟩
              have HQ := Lib.hid (HQ.out.step hB)
              clear hB
              go_simp
              refine hK.out _ _ (HC.out _ HQ.out.bel) (fun hHeld => ?_)
              try simp only [List.setIfInBounds_toArray, List.set_cons_zero, List.set_cons_succ]
              refine reg_take (i := 6) (d := 86) (v := ?_) [] rfl rfl (by kernel_rfl) (by kernel_rfl) (fun _ _ _ h => h) (Or.inl ⟨by rfl, ?_⟩) (by assumption) ?_
              rotate_left
              · (intro w hSw; (try dsimp only at hSw); go_simp; first | done | with_reducible rfl)
              try simp only [List.setIfInBounds_toArray, List.set_cons_zero, List.set_cons_succ]
              refine reg_take (i := 7) (d := 93) (v := ?_) [] rfl rfl (by kernel_rfl) (by kernel_rfl) (fun _ _ _ h => h) (Or.inl ⟨by rfl, ?_⟩) (by assumption) ?_
              rotate_left
              · (intro w hSw; (try dsimp only at hSw); go_simp; first | done | with_reducible rfl)
              try simp only [List.setIfInBounds_toArray, List.set_cons_zero, List.set_cons_succ]
              refine reg_take (i := 8) (d := 94) (v := ?_) [] rfl rfl (by kernel_rfl) (by kernel_rfl) (fun _ _ _ h => h) (Or.inl ⟨by rfl, ?_⟩) (by assumption) ?_
              rotate_left
              · (intro w hSw; (try dsimp only at hSw); go_simp; first | done | with_reducible rfl)
              try simp only [List.setIfInBounds_toArray, List.set_cons_zero, List.set_cons_succ]
              refine wpAnyL_ready (rs := [9]) (by kernel_rfl) rfl ?_
              refine (AllL.cons rfl (fun K hK => ?_) AllL.nil)
              go_simp
              have HQ := Lib.hid (HQ.out.newBlk (rf 0 0).toArray rT (g := v6.heap.size) (by simp))
              refine hK.out _ _ (HC.out _ HQ.out.bel) (fun hHeld => ?_)
              try simp only [List.setIfInBounds_toArray, List.set_cons_zero, List.set_cons_succ]
              refine wpAnyL_ready (rs := [10]) (by kernel_rfl) rfl ?_
              refine (AllL.cons rfl (fun K hK => ?_) AllL.nil)
              refine stepStoreR (rf yn yb).toArray (show Blk _ _ (rf 0 0).toArray rT from HQ.out.hd) (by simp [rf]) (info65' yn yb) (ones_rf yn yb) rfl (.tmp 17) (.tmp 93) rfl rfl rfl ?_
              intro v9 hb hu
              have HQ := Lib.hid (HQ.out.put hb hu)
              clear hb hu
              refine hK.out _ _ (HC.out _ HQ.out.bel) (fun hHeld => ?_)
              try simp only [List.setIfInBounds_toArray, List.set_cons_zero, List.set_cons_succ]
              refine wpAnyL_ready (rs := [11]) (by kernel_rfl) rfl ?_
              refine (AllL.consJ rfl (by kernel_rfl) (fun K hK => ?_) AllL.nil)
              go_simp
              refine hK.out _ _ ?_
              try simp only [List.setIfInBounds_toArray, List.set_cons_zero, List.set_cons_succ]
              refine wpAnyL_done (by kernel_rfl) ?_ _
              have HT := Lib.hid (HT.out.join HQ.out)
              have HT : Hid (Sep w v9 (tBlk v6.heap.size (rf yn yb).toArray rT :: _)) := HT
              generalize v6.heap.size = g17 at *
              clear HQ HC
              go_upto_region 21 with fail
              refine wp_region_lit (l := [_, _, _, _, _, _, _, _]) ?_
              refine loadR _ (show Blk _ g7 (rc n b) tBR from HT.out.tail.tail.h4) Try.underlying26 rfl infoBR rfl (.tmp 7) rfl rfl ?_
              refine loadR _ (show Blk _ g15 (rc yn yb) tBR from HT.out.h2) Try.underlying26 rfl infoBR rfl (.tmp 15) rfl rfl ?_
              refine wpList_plain rfl fun _ hK => ?_
              go_simp
              go_at_call 16
              with_reducible refine (or3 n b yn yb (zn, zb, ze) _ HXO.out (Fine.u64 HF.out) (Fine.u64 HFY.out)).mono ?_
              rintro e wG ⟨rfl, hB⟩
              have HT := Lib.hid (HT.out.step hB)
              clear hB
              go_simp
              refine hK _ _ ?_
              refine wpList_plain rfl fun _ hK => ?_
              go_simp
              refine hK _ _ ?_
              refine wpList_plain rfl fun _ hK => ?_
              go_simp
              refine hK _ _ ?_
              refine wpList_plain rfl fun _ hK => ?_
              go_simp
              refine hK _ _ ?_
              refine storeR (rc zn zb) (show Blk _ _ _ tBR from HT.out.h4) rfl infoBR (ones_rc _ _) rfl (.tmp 11) (.tmp 99) rfl rfl rfl ?_
              intro wH hb hu
              have HT := Lib.hid ((HT.out.r4.put hb hu).r4')
              clear hb hu
              go_upto_region 22 with fail
              refine wp_region_lit (l := [_, _, _, _, _, _, _, _]) ?_
              refine loadR (cs := (rf n b).toArray) _ (show Blk _ g8 (rf n b).toArray rT from HT.out.tail.tail.h5) Try.underlying30 rfl (info65' n b) rfl (.tmp 8) rfl rfl ?_
              refine loadR (cs := (rf yn yb).toArray) _ (show Blk _ g17 (rf yn yb).toArray rT from HT.out.hd) Try.underlying30 rfl (info65' yn yb) rfl (.tmp 17) rfl rfl ?_
              refine wpList_plain rfl fun _ hK => ?_
              go_simp
              go_at_call 17
              with_reducible refine (ror3 n b yn yb (zn, zb, ze) _ HXO.out hn64 (Fine.le HFY.out) (Fine.lt HFY.out)).mono ?_
              rintro e wI ⟨rfl, hB⟩
              have HT := Lib.hid (HT.out.step hB)
              clear hB
              go_simp
              refine hK _ _ ?_
              refine wpList_plain rfl fun _ hK => ?_
              go_simp
              refine hK _ _ ?_
              refine wpList_plain rfl fun _ hK => ?_
              go_simp
              refine hK _ _ ?_
              refine wpList_plain rfl fun _ hK => ?_
              go_simp
              refine hK _ _ ?_
              have HT := Lib.hid HT.out.tail.tail
              refine storeR (rf zn zb).toArray (show Blk _ _ _ rT from HT.out.hd) (by simp [rf]) (info65' zn zb) (ones_rf zn zb) rfl (.tmp 13) (.tmp 105) rfl rfl rfl ?_
              intro wJ hb hu
              have HT := Lib.hid ((HT.out.put hb hu))
              clear hb hu
              go_wp2_with fail
              go_meet
              exact ⟨(zn, zb, ze), rfl, rfl, HFX.out, HT.out⟩
            · go_simp
              have HQ := Lib.hid (HQ.out.newBlk (rf 0 0).toArray rT (g := v5.heap.size) (by simp))
              refine hK.out _ _ (HC.out _ HQ.out.bel) (fun hHeld => ?_)
              try simp only [List.setIfInBounds_toArray, List.set_cons_zero, List.set_cons_succ]
              refine wpAnyL_ready (rs := [5]) (by kernel_rfl) rfl ?_
              refine (AllL.cons rfl (fun K hK => ?_) AllL.nil)
              go_simp
              go_at_call 14
              with_reducible refine (set3 m 0 xi true (yn, yb, ye) _ HYO.out hm64).mono ?_
              rintro e v6 ⟨rfl, hB⟩
              have HQ := Lib.hid (HQ.out.step hB)
              clear hB
              go_simp
              refine hK.out _ _ (HC.out _ HQ.out.bel) (fun hHeld => ?_)
              try simp only [List.setIfInBounds_toArray, List.set_cons_zero, List.set_cons_succ]
              refine reg_take (i := 6) (d := 86) (v := ?_) [] rfl rfl (by kernel_rfl) (by kernel_rfl) (fun _ _ _ h => h) (Or.inl ⟨by rfl, ?_⟩) (by assumption) ?_
              rotate_left
              · (intro w hSw; (try dsimp only at hSw); go_simp; first | done | with_reducible rfl)
              try simp only [List.setIfInBounds_toArray, List.set_cons_zero, List.set_cons_succ]
              refine reg_take (i := 7) (d := 93) (v := ?_) [] rfl rfl (by kernel_rfl) (by kernel_rfl) (fun _ _ _ h => h) (Or.inl ⟨by rfl, ?_⟩) (by assumption) ?_
              rotate_left
              · (intro w hSw; (try dsimp only at hSw); go_simp; first | done | with_reducible rfl)
              try simp only [List.setIfInBounds_toArray, List.set_cons_zero, List.set_cons_succ]
              refine reg_take (i := 8) (d := 94) (v := ?_) [] rfl rfl (by kernel_rfl) (by kernel_rfl) (fun _ _ _ h => h) (Or.inl ⟨by rfl, ?_⟩) (by assumption) ?_
              rotate_left
              · (intro w hSw; (try dsimp only at hSw); go_simp; first | done | with_reducible rfl)
              try simp only [List.setIfInBounds_toArray, List.set_cons_zero, List.set_cons_succ]
              refine wpAnyL_ready (rs := [10]) (by kernel_rfl) rfl ?_
              refine (AllL.cons rfl (fun K hK => ?_) AllL.nil)
              refine stepStoreR (rf yn yb).toArray (show Blk _ _ (rf 0 0).toArray rT from HQ.out.hd) (by simp [rf]) (info65' yn yb) (ones_rf yn yb) rfl (.tmp 17) (.tmp 93) rfl rfl rfl ?_
              intro v9 hb hu
              have HQ := Lib.hid (HQ.out.put hb hu)
              clear hb hu
              refine hK.out _ _ (HC.out _ HQ.out.bel) (fun hHeld => ?_)
              try simp only [List.setIfInBounds_toArray, List.set_cons_zero, List.set_cons_succ]
              refine wpAnyL_ready (rs := [11]) (by kernel_rfl) rfl ?_
              refine (AllL.consJ rfl (by kernel_rfl) (fun K hK => ?_) AllL.nil)
              go_simp
              refine hK.out _ _ ?_
              try simp only [List.setIfInBounds_toArray, List.set_cons_zero, List.set_cons_succ]
              refine wpAnyL_done (by kernel_rfl) ?_ _
              have HT := Lib.hid (HT.out.join HQ.out)
              have HT : Hid (Sep w v9 (tBlk v5.heap.size (rf yn yb).toArray rT :: _)) := HT
              generalize v5.heap.size = g17 at *
              clear HQ HC
              go_upto_region 21 with fail
              refine wp_region_lit (l := [_, _, _, _, _, _, _, _]) ?_
              refine loadR _ (show Blk _ g7 (rc n b) tBR from HT.out.tail.tail.h4) Try.underlying26 rfl infoBR rfl (.tmp 7) rfl rfl ?_
              refine loadR _ (show Blk _ g15 (rc yn yb) tBR from HT.out.h2) Try.underlying26 rfl infoBR rfl (.tmp 15) rfl rfl ?_
              refine wpList_plain rfl fun _ hK => ?_
              go_simp
              go_at_call 16
              with_reducible refine (or3 n b yn yb (zn, zb, ze) _ HXO.out (Fine.u64 HF.out) (Fine.u64 HFY.out)).mono ?_
              rintro e wG ⟨rfl, hB⟩
              have HT := Lib.hid (HT.out.step hB)
              clear hB
              go_simp
              refine hK _ _ ?_
              refine wpList_plain rfl fun _ hK => ?_
              go_simp
              refine hK _ _ ?_
              refine wpList_plain rfl fun _ hK => ?_
              go_simp
              refine hK _ _ ?_
              refine wpList_plain rfl fun _ hK => ?_
              go_simp
              refine hK _ _ ?_
              refine storeR (rc zn zb) (show Blk _ _ _ tBR from HT.out.h4) rfl infoBR (ones_rc _ _) rfl (.tmp 11) (.tmp 99) rfl rfl rfl ?_
              intro wH hb hu
              have HT := Lib.hid ((HT.out.r4.put hb hu).r4')
              clear hb hu
              go_upto_region 22 with fail
              refine wp_region_lit (l := [_, _, _, _, _, _, _, _]) ?_
              refine loadR (cs := (rf n b).toArray) _ (show Blk _ g8 (rf n b).toArray rT from HT.out.tail.tail.h5) Try.underlying30 rfl (info65' n b) rfl (.tmp 8) rfl rfl ?_
              refine loadR (cs := (rf yn yb).toArray) _ (show Blk _ g17 (rf yn yb).toArray rT from HT.out.hd) Try.underlying30 rfl (info65' yn yb) rfl (.tmp 17) rfl rfl ?_
              refine wpList_plain rfl fun _ hK => ?_
              go_simp
              go_at_call 17
              with_reducible refine (ror3 n b yn yb (zn, zb, ze) _ HXO.out hn64 (Fine.le HFY.out) (Fine.lt HFY.out)).mono ?_
              rintro e wI ⟨rfl, hB⟩
              have HT := Lib.hid (HT.out.step hB)
              clear hB
              go_simp
              refine hK _ _ ?_
              refine wpList_plain rfl fun _ hK => ?_
              go_simp
              refine hK _ _ ?_
              refine wpList_plain rfl fun _ hK => ?_
              go_simp
              refine hK _ _ ?_
              refine wpList_plain rfl fun _ hK => ?_
              go_simp
              refine hK _ _ ?_
              have HT := Lib.hid HT.out.tail.tail
              refine storeR (rf zn zb).toArray (show Blk _ _ _ rT from HT.out.hd) (by simp [rf]) (info65' zn zb) (ones_rf zn zb) rfl (.tmp 13) (.tmp 105) rfl rfl rfl ?_
              intro wJ hb hu
              have HT := Lib.hid ((HT.out.put hb hu))
              clear hb hu
              go_wp2_with fail
              go_meet
              exact ⟨(zn, zb, ze), rfl, rfl, HFX.out, HT.out⟩
          · go_simp
            have HQ := Lib.hid (HQ.out.newBlk (rf 0 0).toArray rT (g := V9.heap.size) (by simp))
            refine hK.out _ _ (HC.out _ HQ.out.bel) (fun hHeld => ?_)
            try simp only [List.setIfInBounds_toArray, List.set_cons_zero, List.set_cons_succ]
            refine wpAnyL_ready (rs := [2]) (by kernel_rfl) rfl ?_
            refine (AllL.cons rfl (fun K hK => ?_) AllL.nil)
            go_simp
            go_at_call 12
            with_reducible refine (rnew3 xn m _ HM.out).mono ?_
            rintro e v5 ⟨rfl, hB⟩
            have HQ := Lib.hid (HQ.out.step hB)
            clear hB
            go_simp
            refine hK.out _ _ (HC.out _ HQ.out.bel) (fun hHeld => ?_)
            try simp only [List.setIfInBounds_toArray, List.set_cons_zero, List.set_cons_succ]
            refine wpAnyL_ready (rs := [5]) (by kernel_rfl) rfl ?_
            refine (AllL.cons rfl (fun K hK => ?_) AllL.nil)
            go_simp
            go_at_call 14
            with_reducible refine (set3 m 0 xi true (yn, yb, ye) _ HYO.out hm64).mono ?_
            rintro e v6 ⟨rfl, hB⟩
            have HQ := Lib.hid (HQ.out.step hB)
            clear hB
            go_simp
            refine hK.out _ _ (HC.out _ HQ.out.bel) (fun hHeld => ?_)
            try simp only [List.setIfInBounds_toArray, List.set_cons_zero, List.set_cons_succ]
            refine reg_take (i := 6) (d := 86) (v := ?_) [] rfl rfl (by kernel_rfl) (by kernel_rfl) (fun _ _ _ h => h) (Or.inl ⟨by rfl, ?_⟩) (by assumption) ?_
            rotate_left
            · (intro w hSw; (try dsimp only at hSw); go_simp; first | done | with_reducible rfl)
            try simp only [List.setIfInBounds_toArray, List.set_cons_zero, List.set_cons_succ]
            refine reg_take (i := 7) (d := 93) (v := ?_) [] rfl rfl (by kernel_rfl) (by kernel_rfl) (fun _ _ _ h => h) (Or.inl ⟨by rfl, ?_⟩) (by assumption) ?_
            rotate_left
            · (intro w hSw; (try dsimp only at hSw); go_simp; first | done | with_reducible rfl)
            try simp only [List.setIfInBounds_toArray, List.set_cons_zero, List.set_cons_succ]
            refine reg_take (i := 8) (d := 94) (v := ?_) [] rfl rfl (by kernel_rfl) (by kernel_rfl) (fun _ _ _ h => h) (Or.inl ⟨by rfl, ?_⟩) (by assumption) ?_
            rotate_left
            · (intro w hSw; (try dsimp only at hSw); go_simp; first | done | with_reducible rfl)
            try simp only [List.setIfInBounds_toArray, List.set_cons_zero, List.set_cons_succ]
            refine wpAnyL_ready (rs := [10]) (by kernel_rfl) rfl ?_
            refine (AllL.cons rfl (fun K hK => ?_) AllL.nil)
            refine stepStoreR (rf yn yb).toArray (show Blk _ _ (rf 0 0).toArray rT from HQ.out.hd) (by simp [rf]) (info65' yn yb) (ones_rf yn yb) rfl (.tmp 17) (.tmp 93) rfl rfl rfl ?_
            intro v9 hb hu
            have HQ := Lib.hid (HQ.out.put hb hu)
            clear hb hu
            refine hK.out _ _ (HC.out _ HQ.out.bel) (fun hHeld => ?_)
            try simp only [List.setIfInBounds_toArray, List.set_cons_zero, List.set_cons_succ]
            refine wpAnyL_ready (rs := [11]) (by kernel_rfl) rfl ?_
            refine (AllL.consJ rfl (by kernel_rfl) (fun K hK => ?_) AllL.nil)
            go_simp
            refine hK.out _ _ ?_
            try simp only [List.setIfInBounds_toArray, List.set_cons_zero, List.set_cons_succ]
            refine wpAnyL_done (by kernel_rfl) ?_ _
            have HT := Lib.hid (HT.out.join HQ.out)
            have HT : Hid (Sep w v9 (tBlk V9.heap.size (rf yn yb).toArray rT :: _)) := HT
            generalize V9.heap.size = g17 at *
            clear HQ HC
            go_upto_region 21 with fail
            refine wp_region_lit (l := [_, _, _, _, _, _, _, _]) ?_
            refine loadR _ (show Blk _ g7 (rc n b) tBR from HT.out.tail.tail.h4) Try.underlying26 rfl infoBR rfl (.tmp 7) rfl rfl ?_
            refine loadR _ (show Blk _ g15 (rc yn yb) tBR from HT.out.h2) Try.underlying26 rfl infoBR rfl (.tmp 15) rfl rfl ?_
            refine wpList_plain rfl fun _ hK => ?_
            go_simp
            go_at_call 16
            with_reducible refine (or3 n b yn yb (zn, zb, ze) _ HXO.out (Fine.u64 HF.out) (Fine.u64 HFY.out)).mono ?_
            rintro e wG ⟨rfl, hB⟩
            have HT := Lib.hid (HT.out.step hB)
            clear hB
            go_simp
            refine hK _ _ ?_
            refine wpList_plain rfl fun _ hK => ?_
            go_simp
            refine hK _ _ ?_
            refine wpList_plain rfl fun _ hK => ?_
            go_simp
            refine hK _ _ ?_
            refine wpList_plain rfl fun _ hK => ?_
            go_simp
            refine hK _ _ ?_
            refine storeR (rc zn zb) (show Blk _ _ _ tBR from HT.out.h4) rfl infoBR (ones_rc _ _) rfl (.tmp 11) (.tmp 99) rfl rfl rfl ?_
            intro wH hb hu
            have HT := Lib.hid ((HT.out.r4.put hb hu).r4')
            clear hb hu
            go_upto_region 22 with fail
            refine wp_region_lit (l := [_, _, _, _, _, _, _, _]) ?_
            refine loadR (cs := (rf n b).toArray) _ (show Blk _ g8 (rf n b).toArray rT from HT.out.tail.tail.h5) Try.underlying30 rfl (info65' n b) rfl (.tmp 8) rfl rfl ?_
            refine loadR (cs := (rf yn yb).toArray) _ (show Blk _ g17 (rf yn yb).toArray rT from HT.out.hd) Try.underlying30 rfl (info65' yn yb) rfl (.tmp 17) rfl rfl ?_
            refine wpList_plain rfl fun _ hK => ?_
            go_simp
            go_at_call 17
            with_reducible refine (ror3 n b yn yb (zn, zb, ze) _ HXO.out hn64 (Fine.le HFY.out) (Fine.lt HFY.out)).mono ?_
            rintro e wI ⟨rfl, hB⟩
            have HT := Lib.hid (HT.out.step hB)
            clear hB
            go_simp
            refine hK _ _ ?_
            refine wpList_plain rfl fun _ hK => ?_
            go_simp
            refine hK _ _ ?_
            refine wpList_plain rfl fun _ hK => ?_
            go_simp
            refine hK _ _ ?_
            refine wpList_plain rfl fun _ hK => ?_
            go_simp
            refine hK _ _ ?_
            have HT := Lib.hid HT.out.tail.tail
            refine storeR (rf zn zb).toArray (show Blk _ _ _ rT from HT.out.hd) (by simp [rf]) (info65' zn zb) (ones_rf zn zb) rfl (.tmp 13) (.tmp 105) rfl rfl rfl ?_
            intro wJ hb hu
            have HT := Lib.hid ((HT.out.put hb hu))
            clear hb hu
            go_wp2_with fail
            go_meet
            exact ⟨(zn, zb, ze), rfl, rfl, HFX.out, HT.out⟩
    have p2 : (xk == 2) = false := by simpa using hk2
    clear hk2
    go_wp2_with fail
    go_meet
    exact ⟨(n, b, 0), rfl, rfl, HF.out, HT.out⟩
  case rest =>
  obtain ⟨x, rfl, rfl, hf, hs⟩ := hcut
  clear HT
  have HT := Lib.hid hs
  have HFX := Lib.hid hf
  clear hs hf
  obtain ⟨zn, zb, ze⟩ := x
  have HFX2 : Hid (zn ≤ 64 ∧ zb < 2 ^ zn ∧ (ze = 0 → zn = n) ∧ zb < 18446744073709551616) := Lib.hid ⟨HFX.out.le, HFX.out.lt, HFX.out.same, HFX.out.u64⟩
  have HT : Hid (Sep w wc [tBlk g13 (rf zn zb).toArray rT, tBlk g11 (rc zn zb) tBR, tBlk g10 #[.int .i64 xk, .int .i64 xi, .int .i64 xn] tBA, tBlk g7 (rc n b) tBR, tBlk g8 (rf n b).toArray rT]) := Lib.hid HT.out
  have HBU := Lib.hid HF.out.u64
  clear HFX HF
  simp only
  have e0 : (ze != ze) = false := by simp
  go_upto_region 23 with fail
  refine wp_region_lit (l := [_, _, _, _, _, _, _, _, _, _, _, _, _, _, _, _, _, _, _, _, _, _, _, _, _]) ?_
  refine wpList_plain rfl fun _ hK => ?_
  go_simp
  refine hK _ _ ?_
  refine wpList_plain rfl fun _ hK => ?_
  go_simp
  refine hK _ _ ?_
  refine wpList_plain rfl fun _ hK => ?_
  go_simp
  refine hK _ _ ?_
  refine wpList_plain rfl fun _ hK => ?_
  go_simp
  refine hK _ _ ?_
  refine loadOn (cs := rc zn zb) _ (HT.out.h2) Try.underlying26 rfl infoBR (by rfl) (.tmp 11) rfl rfl ?_
  refine loadOn (cs := (rf zn zb).toArray) _ (HT.out.hd) Try.underlying30 rfl (info65' zn zb) (by rfl) (.tmp 13) rfl rfl ?_
  refine wpList_on (by rfl) fun _ hK => ?_
  go_simp
  refine hK _ _ ?_
  refine wpList_on (by rfl) fun _ hK => ?_
  go_simp
  go_at_call 18
  with_reducible refine (same_any zn zb a2 _ HFX2.out.1 HFX2.out.2.2.2 HFX2.out.2.1 HB2.out).mono ?_
  rintro e wK ⟨rfl, hB⟩
  have HT := Lib.hid (HT.out.step hB)
  clear hB
  go_simp
  refine hK _ _ ?_
  refine wpList_on (by rfl) fun _ hK => ?_
  go_simp
  refine hK _ _ ?_
  refine wpList_plain rfl fun _ hK => ?_
  go_simp
  refine hK _ _ ?_
  refine wpList_plain rfl fun _ hK => ?_
  go_simp
  refine hK _ _ ?_
  refine loadOn (cs := rc zn zb) _ (HT.out.h2) Try.underlying26 rfl infoBR (by rfl) (.tmp 11) rfl rfl ?_
  refine loadOn (cs := (rf zn zb).toArray) _ (HT.out.hd) Try.underlying30 rfl (info65' zn zb) (by rfl) (.tmp 13) rfl rfl ?_
  have d1 : wK.cell? ⟨g10, 1, none⟩ = some (.int .i64 xi) := (show Blk wK g10 _ tBA from HT.out.h3).cell 1
  refine wpList_on (by rfl) fun _ hK => ?_
  go_simp
  refine hK _ _ ?_
  refine wpList_on (by rfl) fun _ hK => ?_
  go_simp
  refine hK _ _ ?_
  clear d1
  refine wpList_on (by rfl) fun _ hK => ?_
  go_simp
  go_at_call 18
  with_reducible refine (same_any zn zb xi _ HFX2.out.1 HFX2.out.2.2.2 HFX2.out.2.1 HOK.out).mono ?_
  rintro e wL ⟨rfl, hB⟩
  have HT := Lib.hid (HT.out.step hB)
  clear hB
  go_simp
  refine hK _ _ ?_
  refine wpList_on (by rfl) fun _ hK => ?_
  go_simp
  refine hK _ _ ?_
  refine wpList_plain rfl fun _ hK => ?_
  go_simp
  refine hK _ _ ?_
  refine wpList_plain rfl fun _ hK => ?_
  go_simp
  refine hK _ _ ?_
  refine loadOn (cs := rc n b) _ (HT.out.h4) Try.underlying26 rfl infoBR (by rfl) (.tmp 7) rfl rfl ?_
  refine loadOn (cs := (rf n b).toArray) _ (HT.out.h5) Try.underlying30 rfl (info65' n b) (by rfl) (.tmp 8) rfl rfl ?_
  refine wpList_on (by rfl) fun _ hK => ?_
  go_simp
  refine hK _ _ ?_
  refine wpList_on (by rfl) fun _ hK => ?_
  go_simp
  go_at_call 18
  with_reducible refine (same_any n b a2 _ hn64 HBU.out HB.out HB2.out).mono ?_
  rintro e wM ⟨rfl, hB⟩
  have HT := Lib.hid (HT.out.step hB)
  clear hB
  go_simp
  refine hK _ _ ?_
  refine wpList_on (by rfl) fun _ hK => ?_
  go_simp
  refine hK _ _ ?_
  refine wpList_plain rfl fun _ hK => ?_
  go_simp
  refine hK _ _ ?_
  clear e0
  have HZ := HT.out
  by_cases hz0 : ze = 0
  · subst hz0
    obtain rfl := HFX2.out.2.2.1 rfl
    have HT := Lib.hid HZ
    clear HZ
    go_upto_region 26 with fail
    have HT := Lib.hid HT.out.drew
    refine wp_region_L (fun w' => Blk w' g11 (rc zn zb) tBR ∧ Blk w' g13 (rf zn zb).toArray rT) 3 (by kernel_rfl) ⟨HT.out.h2, HT.out.hd⟩ (fun hHeld => ?_)
    refine reg_take (i := 0) (d := 134) (v := .agg (rc zn zb)) [] rfl rfl (by kernel_rfl) (by kernel_rfl) (fun _ _ _ h => h) (yields_row _ (by rfl) (.tmp 11) rfl rfl (fun w h => h.1) Try.underlying26 rfl infoBR) (by assumption) ?_
    try simp only [List.setIfInBounds_toArray, List.set_cons_zero, List.set_cons_succ]
    refine reg_take (i := 1) (d := 135) (v := .agg (rf zn zb).toArray) [] rfl rfl (by kernel_rfl) (by kernel_rfl) (fun _ _ _ h => h) (yields_row _ (by rfl) (.tmp 13) rfl rfl (fun w h => h.2) Try.underlying30 rfl (info65' zn zb)) (by assumption) ?_
    try simp only [List.setIfInBounds_toArray, List.set_cons_zero, List.set_cons_succ]
    refine wpAnyL_ready (rs := [2]) (by kernel_rfl) rfl ?_
    refine (AllL.cons rfl (fun K hK => ?_) AllL.nil)
    refine stepStoreR (rc zn zb) (show Blk _ g7 _ tBR from HT.out.h4) rfl infoBR (ones_rc _ _) rfl (.tmp 7) (.tmp 134) rfl rfl rfl ?_
    intro v1 hb hu
    have HT := Lib.hid ((HT.out.r4.put hb hu).r4')
    clear hb hu
    refine hK.out _ _ ⟨HT.out.h2, HT.out.hd⟩ (fun hHeld => ?_)
    try simp only [List.setIfInBounds_toArray, List.set_cons_zero, List.set_cons_succ]
    refine wpAnyL_ready (rs := [3]) (by kernel_rfl) rfl ?_
    refine (AllL.consJ rfl (by kernel_rfl) (fun K hK => ?_) AllL.nil)
    refine stepStoreR (rf zn zb).toArray (show Blk _ g8 _ rT from HT.out.h5) (by simp [rf]) (info65' zn zb) (ones_rf zn zb) rfl (.tmp 8) (.tmp 135) rfl rfl rfl ?_
    intro v2 hb hu
    have HT := Lib.hid (HT.out.r5.put hb hu)
    clear hb hu
    refine hK.out _ _ ?_
    try simp only [List.setIfInBounds_toArray, List.set_cons_zero, List.set_cons_succ]
    refine wpAnyL_done (by kernel_rfl) ?_ _
    go_wp2_with fail
    go_roundg (n1 - (k + 1))
    case measure => omega
    case rel => exact ⟨k + 1, zb, by push_cast; rfl, by omega, by omega, rfl, HFX2.out.2.1, HT.out.d2.d2.d2.sw⟩
  · have e1 : (ze == 0) = false := by simpa using hz0
    clear hz0
    go_wp2_with fail
    go_roundg (n1 - (k + 1))
    case measure => omega
    case rel => exact ⟨k + 1, b, by push_cast; rfl, by omega, by omega, rfl, HB.out, HT.out.tail.tail.tail⟩
end Go.Proofs.Ytlgmomjofhbggaa
