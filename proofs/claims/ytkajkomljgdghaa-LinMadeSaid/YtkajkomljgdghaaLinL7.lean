/- The walk of the law LinMade: it returns true. No condition but the row's own. -/
import Derived.Test.YtkajkomljgdghaaLinL6
import Derived.Test.YtkajkomljgdghaaLinL4
import Derived.Deep.CutBlock
set_option linter.unusedVariables false
set_option linter.unusedSimpArgs false
namespace Go.Proofs.Ytkajkomljgdghaa
open Go.RowKit Go.Maps
structure LCl where
  op : Int
  blk : Int
  data : ByteArray
abbrev tCa : TypeId := 40
def LCl.cells (x : LCl) : List Value := [.int .i64 x.op, .int .i64 x.blk, .string x.data]
def eCl : Enc LCl := ⟨LCl.cells, 3, fun _ => rfl, fun x u hu => by
  simp only [LCl.cells, List.mem_cons, List.not_mem_nil, or_false] at hu
  rcases hu with rfl | rfl | rfl <;> rfl⟩
structure LCl.ok (o : LCl) : Prop where
  op : -9223372036854775808 ≤ o.op ∧ o.op ≤ 9223372036854775807
  blk : -9223372036854775808 ≤ o.blk ∧ o.blk ≤ 9223372036854775807
  data : o.data.size ≤ 140737488351232
theorem infoCa : (Try.prog.info? tCa).map (·.size) = some 3 := by kernel_rfl
theorem is_lcall {w : World} {cs : List Value} (h : Sh.Is w (.pair (.int .i64) (.pair (.int .i64) (.pair .str .unit))) cs) : ∃ x : LCl, cs = eCl.f x ∧ x.ok := by
  obtain ⟨_, _, rfl, ⟨a, rfl, ha⟩, _, _, rfl, ⟨b, rfl, hb⟩, _, _, rfl, ⟨s, rfl, hs⟩, rfl⟩ := h
  exact ⟨⟨a, b, s⟩, rfl, bd_i64 ha, bd_i64 hb, hs⟩
theorem Rd.lcall {w : World} {A : Option Addr} {l : List LCl} (h : Rd w A (eCl.fl l)) (k : Nat) (x : LCl) (hx : l[k]? = some x) :
    ∃ b o, A = some ⟨b, o, none⟩ ∧ w.rangeAt b (o + k * 3) x.cells := by
  obtain ⟨hk, rfl⟩ := List.getElem?_eq_some_iff.1 hx
  obtain ⟨b, o, e, hc⟩ := h.elem k hk (by decide)
  refine ⟨b, o, e, fun j v hv => ?_⟩
  exact hc j v hv
theorem zeroStr (w : World) : (zeroValue 9).run Try.prog w = .ok (.string noB) w := by kernel_rfl
def SaysA (f : Value → Option Value) (A : Int → ByteArray) : Prop := ∀ b, (f (iV b)).getD (.string noB) = .string (A b)
theorem SaysA.start : SaysA (fun _ => none) (fun _ => noB) := fun _ => rfl
theorem SaysA.put {f : Value → Option Value} {A : Int → ByteArray} (h : SaysA f A) (b : Int) (s : ByteArray) : SaysA (putV f (iV b) (.string s)) (putA A b s) := by
  intro c
  by_cases e : c = b
  · subst e
    rw [putV_same]
    unfold putA
    rw [if_pos rfl]
    rfl
  · rw [putV_other _ _ (by intro h; exact e (by simpa [iV] using h))]
    unfold putA
    rw [if_neg e]
    exact h c
theorem madeOp_ok {A : Int → ByteArray} {k : Nat} (hk : k ≤ 9) {op blk : Int} {data : ByteArray} {bf bh : Int} {back : Bool} (hx : (LCl.mk op blk data).ok) (h1 : u8ok bf) (h2 : u8ok bh) (hA : ∀ b, (A b).size ≤ 140737488351232) : (madeOp A k op blk data bf bh back).ok := by
  obtain ⟨h1, h3⟩ := h1
  obtain ⟨h2, h4⟩ := h2
  refine ⟨hx.op, hx.blk, hx.data, ?_, ?_, ?_, ?_⟩
  · show _ ≤ ((k : Int) + 1) * 1000 - bf ∧ ((k : Int) + 1) * 1000 - bf ≤ _
    omega
  · show _ ≤ ((k : Int) + 1) * 1000 + bh * 9 ∧ ((k : Int) + 1) * 1000 + bh * 9 ≤ _
    omega
  · exact ⟨by show _ ≤ (0 : Int); decide, by show (0 : Int) ≤ _; decide⟩
  · show (if op = 1 then cur A blk else noB).size ≤ _
    split
    · unfold cur
      split
      · show (8 : Nat) ≤ _
        omega
      · exact hA _
    · exact Nat.zero_le _
theorem madeA_size {A : Int → ByteArray} (hA : ∀ b, (A b).size ≤ 140737488351232) {op blk : Int} {data : ByteArray} (hx : data.size ≤ 140737488351232) : ∀ b, (madeA A op blk data b).size ≤ 140737488351232 := by
  intro b
  unfold madeA putA
  split
  · dsimp only; split
    · exact hx
    · exact hA _
  · split
    · dsimp only; split
      · exact Nat.zero_le _
      · exact hA _
    · exact hA _
theorem tmod_at {k n : Nat} (h : n ≠ 0) : ((k : Int).tmod (n : Int)) = ((k % n : Nat) : Int) ∧ k % n < n := ⟨by rw [Int.tmod_eq_emod_of_nonneg (by omega)]; rfl, Nat.mod_lt _ (by omega)⟩
theorem Sep.d2' {w W : World} {l : List Th} {a b : Th} (h : Sep w W (a :: b :: l)) : Sep w W (a :: l) := h.d2
set_option maxRecDepth 100000 in
set_option maxHeartbeats 4000000 in
theorem w_LinMade (a0 : Option Addr) (n0 c0 : Nat) (a1 : Option Addr) (n1 c1 : Nat) (a2 : Option Addr) (n2 c2 : Nat) (a3 : Int) (w : World) (b0 : Sh.Is w (.slice 32 (.pair (.int .i64) (.pair (.int .i64) (.pair .str .unit)))) [.slice a0 n0 c0]) (b1 : Sh.Is w (.slice 1 (.int .u8)) [.slice a1 n1 c1]) (b2 : Sh.Is w (.slice 1 (.int .u8)) [.slice a2 n2 c2]) (b3 : 0 ≤ a3 ∧ a3 ≤ 65535) :
    Calls Try.prog 4 #[.slice a0 n0 c0, .slice a1 n1 c1, .slice a2 n2 c2, .int .u16 a3] w fun e w' => e = .returned (.bool true) ∧ Below w.heap.size w w' := by
  obtain ⟨C, hc1, _, _, _, hc2, hc3⟩ := Enc.of_slice (E := eCl) (p := LCl.ok) b0 (fun cs hc => is_lcall hc)
  obtain ⟨B, hb1, hb2, hb3⟩ := is_u8s b1
  obtain ⟨D, hd1, hd2, hd3⟩ := is_u8s b2
  have HCL := Lib.hid hc1; have HBL := Lib.hid hb1; have HDL := Lib.hid hd1
  have HCB := Lib.hid hc3; have HBB := Lib.hid hb3; have HDB := Lib.hid hd3
  have HCR : Hid (∀ W' (l : List Th), Sep w W' l → Rd W' a0 (eCl.fl C)) := Lib.hid (fun W' l h => hc2.below h.bel)
  have HBR : Hid (∀ W' (l : List Th), Sep w W' l → Rd W' a1 (eU8.fl B)) := Lib.hid (fun W' l h => hb2.below h.bel)
  have HDR : Hid (∀ W' (l : List Th), Sep w W' l → Rd W' a2 (eU8.fl D)) := Lib.hid (fun W' l h => hd2.below h.bel)
  clear b0 b1 b2 hc1 hc2 hc3 hb1 hb2 hb3 hd1 hd2 hd3
  go_enter Try.func4, Try.ntmps4
  go_wp2_with fail
  refine (awake_any _).mono ?_
  rintro e w1 ⟨rfl, hB1⟩
  have HS := Lib.hid ((Sep.nil w).step hB1)
  clear hB1
  have hmm := @run_makeMap Try.prog
  have HT := Lib.hid (HS.out.newMap tIn (b := w1.heap.size) rfl)
  go_upto_region 4 with fail
  clear hmm
  generalize w1.alloc (.map #[] 0) = w2 at *
  generalize w1.heap.size = bm at *
  have HT := Lib.hid (HT.out.newRow tOp 8 (g := w2.heap.size) rfl)
  go_upto_region 5 with fail
  generalize w2.alloc (.cells #[] tOp) = w3 at *
  generalize w2.heap.size = g2 at *
  go_wp2_with fail
  go_loopg [10, 11] n0 (fun gk s10 s11 wr => ∃ (k : Nat) (L : List LOp) (A : Int → ByteArray) (P : Option Addr) (c q : Nat) (f : Value → Option Value), s10 = .slice P k c ∧ s11 = .int .i64 (k : Int) ∧ k ≤ n0 ∧ k ≤ 9 ∧ q ≤ k ∧ gk = n0 - k ∧ Made L A k ∧ (∀ o ∈ L, o.ok) ∧ SaysA f A ∧ (∀ b, (A b).size ≤ 140737488351232) ∧ Sep w wr [tOwn tOp 8 (.slice P k c) k (eOp.fl L), tMapV tIn bm q f])
  case atStart => exact ⟨0, [], _, _, _, 0, _, rfl, rfl, by omega, by omega, by omega, by omega, Made.start, fun o h => (by cases h), SaysA.start, fun b => Nat.zero_le _, HT.out⟩
  case round =>
  clear HT
  obtain ⟨k, L, A, P, c, q, f, rfl, rfl, hk, hk9, hq, hgk, hmd, hok, hsa, hsz, hs⟩ := hrel
  have HT := Lib.hid hs; have HMD := Lib.hid hmd; have HOK := Lib.hid hok; have HSA := Lib.hid hsa; have HSZ := Lib.hid hsz
  clear hs hmd hok hsa hsz
  by_cases hgo : k < n0 ∧ k < 9
  · obtain ⟨hkn, hkl⟩ := hgo
    have j1 : decide ((k : Int) < (n0 : Int)) = true := by simp; omega
    have j2 : (k : Int) < (n0 : Int) := by omega
    have j3 : (0 : Int) ≤ (k : Int) := by omega
    have j4 : decide ((k : Int) < 9) = true := by simp; omega
    have j5 : (k : Int) < 9 := by omega
    have hwk : IntKind.i64.wrap ((k : Int) + 1) = (k : Int) + 1 := IntWalk.i64_in _ (by omega)
    have HBD := Lib.hid (show (k + 1) * 80 ≤ 140737488355328 by omega)
    have HX := Lib.hid (List.getElem?_eq_getElem (l := C) (i := k) (by rw [HCL.out]; exact hkn))
    generalize C[k]'(by rw [HCL.out]; exact hkn) = x at *
    have HXO := Lib.hid (HCB.out x (List.mem_of_getElem? HX.out))
    obtain ⟨gb, go, rfl, hu⟩ := (HCR.out wr _ HT.out).lcall k x HX.out
    obtain ⟨xo, xb, xd⟩ := x
    unfold LCl.cells at hu
    simp only at hu
    obtain ⟨gX, hgX⟩ : ∃ g, wr.heap.size = g := ⟨_, rfl⟩
    have HT := Lib.hid (HT.out.newBlk #[.int .i64 0, .int .i64 0, .string { data := #[] }] tCa hgX)
    have HGX := Lib.hid hgX
    clear hgX
    go_upto_region 8 with fail
    refine wp_region_lit (l := [_, _, _, _, _, _]) ?_
    iterate 3 (refine wpList_plain rfl fun _ hK => ?_; go_simp; refine hK _ _ ?_)
    refine loadMid (cs := #[.int .i64 xo, .int .i64 xb, .string xd]) _ rfl (.tmp 35) rfl rfl hu Try.underlying40 rfl infoCa ?_
    refine wpList_plain rfl fun _ hK => ?_
    go_simp
    rw [HGX.out]
    refine hK _ _ ?_
    refine storeR #[.int .i64 xo, .int .i64 xb, .string xd] (show Blk _ gX #[.int .i64 0, .int .i64 0, .string { data := #[] }] tCa from HT.out.hd) rfl infoCa (by simp [Value.oneCell']) rfl (.tmp 12) (.tmp 36) rfl rfl rfl ?_
    intro W3 hb8 hu8
    have HT := Lib.hid (HT.out.put hb8 hu8)
    clear hb8 hu8 hu HGX
    obtain ⟨tt, htt⟩ : ∃ t, ((k : Int) + 1) * 1000 = t := ⟨_, rfl⟩
    have ht1 : 1000 ≤ tt ∧ tt ≤ 9000 := by omega
    have hwt : IntKind.i64.wrap (((k : Int) + 1) * 1000) = tt := by rw [htt]; exact IntWalk.i64_in _ (by omega)
    have HTT := Lib.hid htt
    have hbO : ∀ (w : World) (bk : Bool), (Instr.build tOp #[(0, .agg #[.int .i64 xo, .int .i64 xb, .string xd]), (1, .int .i64 tt), (2, .int .i64 tt), (3, .bool bk)]).run Try.prog w = .ok (.agg #[.int .i64 xo, .int .i64 xb, .string xd, .int .i64 tt, .int .i64 tt, .bool bk, .int .i64 0, .string { data := #[] }]) w := fun w bk => run_build w tOp _ _ (by kernel_rfl)
    clear htt
    obtain ⟨r1, hr1⟩ : ∃ r, bits BinOp.and IntKind.u16 (a3 / 2 ^ k) 1 = r := ⟨_, rfl⟩
    obtain ⟨bk, hbk⟩ : ∃ b, (r1 == 0) = b := ⟨_, rfl⟩
    go_upto_region 10 with fail
    have HT := Lib.hid HT.out.drew
    refine wp_region_L (fun w' => Blk w' gX #[.int .i64 xo, .int .i64 xb, .string xd] tCa) 10 (by kernel_rfl) (show Blk _ gX _ tCa from HT.out.hd) (fun hHeld => ?_)
    refine reg_take (i := 0) (d := 40) (v := .agg #[.int .i64 xo, .int .i64 xb, .string xd]) [] rfl rfl (by kernel_rfl) (by kernel_rfl) (fun _ _ _ h => h) (yields_row _ (by rfl) (.tmp 12) rfl rfl (fun w h => h) Try.underlying40 rfl infoCa) (by assumption) ?_
    try simp only [List.setIfInBounds_toArray, List.set_cons_zero, List.set_cons_succ]
    refine reg_take (i := 1) (d := 41) (v := ?_) [] rfl rfl (by kernel_rfl) (by kernel_rfl) (fun _ _ _ h => h) (Or.inl ⟨by rfl, ?_⟩) (by assumption) ?_
    rotate_left
    · (intro w hSw; (try dsimp only at hSw); go_simp; first | done | with_reducible rfl)
    try simp only [List.setIfInBounds_toArray, List.set_cons_zero, List.set_cons_succ]
    refine reg_take (i := 2) (d := 42) (v := ?_) [] rfl rfl (by kernel_rfl) (by kernel_rfl) (fun _ _ _ h => h) (Or.inl ⟨by rfl, ?_⟩) (by assumption) ?_
    rotate_left
    · (intro w hSw; (try dsimp only at hSw); go_simp; first | done | with_reducible rfl)
    try simp only [List.setIfInBounds_toArray, List.set_cons_zero, List.set_cons_succ]
    refine reg_take (i := 3) (d := 43) (v := ?_) [] rfl rfl (by kernel_rfl) (by kernel_rfl) (fun _ _ _ h => h) (Or.inl ⟨by rfl, ?_⟩) (by assumption) ?_
    rotate_left
    · (intro w hSw; (try dsimp only at hSw); go_simp; first | done | with_reducible rfl)
    try simp only [List.setIfInBounds_toArray, List.set_cons_zero, List.set_cons_succ]
    refine reg_take (i := 4) (d := 44) (v := ?_) [] rfl rfl (by kernel_rfl) (by kernel_rfl) (fun _ _ _ h => h) (Or.inl ⟨by rfl, ?_⟩) (by assumption) ?_
    rotate_left
    · (intro w hSw; (try dsimp only at hSw); go_simp; first | done | with_reducible rfl)
    try simp only [List.setIfInBounds_toArray, List.set_cons_zero, List.set_cons_succ]
    refine reg_take (i := 5) (d := 45) (v := ?_) [] rfl rfl (by kernel_rfl) (by kernel_rfl) (fun _ _ _ h => h) (Or.inl ⟨by rfl, ?_⟩) (by assumption) ?_
    rotate_left
    · (intro w hSw; (try dsimp only at hSw); go_simp; first | done | with_reducible rfl)
    try simp only [List.setIfInBounds_toArray, List.set_cons_zero, List.set_cons_succ]
    refine reg_take (i := 6) (d := 46) (v := ?_) [] rfl rfl (by kernel_rfl) (by kernel_rfl) (fun _ _ _ h => h) (Or.inl ⟨by rfl, ?_⟩) (by assumption) ?_
    rotate_left
    · (intro w hSw; (try dsimp only at hSw); go_simp; first | done | with_reducible rfl)
    try simp only [List.setIfInBounds_toArray, List.set_cons_zero, List.set_cons_succ]
    refine reg_take (i := 7) (d := 47) (v := ?_) [] rfl rfl (by kernel_rfl) (by kernel_rfl) (fun _ _ _ h => h) (Or.inl ⟨by rfl, ?_⟩) (by assumption) ?_
    rotate_left
    · (intro w hSw; (try dsimp only at hSw); go_simp; first | done | with_reducible rfl)
    try simp only [List.setIfInBounds_toArray, List.set_cons_zero, List.set_cons_succ]
    refine reg_take (i := 8) (d := 48) (v := ?_) [] rfl rfl (by kernel_rfl) (by kernel_rfl) (fun _ _ _ h => h) (Or.inl ⟨by rfl, ?_⟩) (by assumption) ?_
    rotate_left
    · (intro w hSw; (try dsimp only at hSw); go_simp; first | done | with_reducible rfl)
    try simp only [List.setIfInBounds_toArray, List.set_cons_zero, List.set_cons_succ]
    refine wpAnyL_ready (rs := [9]) (by kernel_rfl) rfl ?_
    refine (AllL.cons rfl (fun K hK => ?_) AllL.nil)
    go_simp
    have HT := Lib.hid (HT.out.newBlk #[.int .i64 0, .int .i64 0, .string { data := #[] }, .int .i64 0, .int .i64 0, .bool false, .int .i64 0, .string { data := #[] }] tOp (g := W3.heap.size) (by simp))
    refine hK.out _ _ (show Blk _ gX _ tCa from HT.out.h2) (fun hHeld => ?_)
    try simp only [List.setIfInBounds_toArray, List.set_cons_zero, List.set_cons_succ]
    refine wpAnyL_ready (rs := [10]) (by kernel_rfl) rfl ?_
    refine (AllL.consJ rfl (by kernel_rfl) (fun K hK => ?_) AllL.nil)
    refine stepStoreR #[.int .i64 xo, .int .i64 xb, .string xd, .int .i64 tt, .int .i64 tt, .bool bk, .int .i64 0, .string { data := #[] }] (show Blk _ W3.heap.size #[.int .i64 0, .int .i64 0, .string { data := #[] }, .int .i64 0, .int .i64 0, .bool false, .int .i64 0, .string { data := #[] }] tOp from HT.out.hd) rfl infoOp (by simp [Value.oneCell']) rfl (.tmp 14) (.tmp 48) rfl rfl rfl ?_
    intro w5 hb2 hu2
    have HT := Lib.hid (HT.out.put hb2 hu2)
    clear hb2 hu2
    refine hK.out _ _ ?_
    try simp only [List.setIfInBounds_toArray, List.set_cons_zero, List.set_cons_succ]
    refine wpAnyL_done (by kernel_rfl) ?_ _
    clear hr1 hbk hbO hwt
    clear hHeld
    generalize W3.heap.size = gO at *
    go_upto_if 51 with fail
    go_cut [] (fun wx => ∃ bf : Int, u8ok bf ∧ Sep w wx [tBlk gO #[.int .i64 xo, .int .i64 xb, .string xd, .int .i64 (tt - bf), .int .i64 tt, .bool bk, .int .i64 0, .string { data := #[] }] tOp, tBlk gX #[.int .i64 xo, .int .i64 xb, .string xd] tCa, tOwn tOp 8 (.slice P k c) k (eOp.fl L), tMapV tIn bm q f])
    case first =>
      by_cases hn1 : 0 < n1
      · have q1 : decide ((0 : Int) < (n1 : Int)) = true := by simp; omega
        have q2 : (0 : Int) < (n1 : Int) := by omega
        have q3 : (n1 : Int) ≠ 0 := by omega
        have q6 : ¬ n1 = 0 := by omega
        obtain ⟨hm1, hm2⟩ := tmod_at (k := k) (n := n1) (by omega)
        obtain ⟨m, hm⟩ : ∃ m, k % n1 = m := ⟨_, rfl⟩
        rw [hm] at hm1 hm2
        have q4 : (m : Int) < (n1 : Int) := by omega
        have q5 : (0 : Int) ≤ (m : Int) := by omega
        obtain ⟨bv, hbv⟩ : ∃ v, B[m]? = some v := ⟨_, List.getElem?_eq_getElem (by rw [HBL.out]; omega)⟩
        have hb8 := HBB.out bv (List.mem_of_getElem? hbv)
        obtain ⟨gB, oB, rfl, hx⟩ := (HBR.out _ _ HT.out).u8 m bv hbv
        have h3 := (show Blk _ gO _ tOp from HT.out.hd).cell 3
        have fz := (show Blk _ gO _ tOp from HT.out.hd).frozen 3
        have HU := Lib.hid (show w5.drew.cell? ⟨gO, 3, none⟩ = some (.int .i64 tt) ∧ w5.drew.cell? ⟨gB, oB + m, none⟩ = some (.int .u8 bv) from ⟨h3, hx⟩)
        have HV8 := Lib.hid hb8
        obtain ⟨hb81, hb82⟩ := hb8
        have hwb : IntKind.i64.wrap (tt - bv) = tt - bv := IntWalk.i64_in _ (by omega)
        have hwc : IntKind.i64.wrap bv = bv := IntWalk.i64_in _ (by omega)
        go_upto_region 12 with fail
        have HT := Lib.hid HT.out.drew
        refine wp_region_L (fun w' => w'.cell? ⟨gO, 3, none⟩ = some (.int .i64 tt) ∧ w'.cell? ⟨gB, oB + m, none⟩ = some (.int .u8 bv)) 12 (by kernel_rfl) HU.out (fun hHeld => ?_)
        refine reg_take (i := 0) (d := 52) (v := ?_) [] rfl rfl (by kernel_rfl) (by kernel_rfl) (fun _ _ _ h => h) (Or.inl ⟨by rfl, ?_⟩) (by assumption) ?_
        rotate_left
        · (intro w hSw; (try dsimp only at hSw); go_simp; first | done | with_reducible rfl)
        try simp only [List.setIfInBounds_toArray, List.set_cons_zero, List.set_cons_succ]
        refine reg_take (i := 1) (d := 53) (v := ?_) [] rfl rfl (by kernel_rfl) (by kernel_rfl) (fun _ _ _ h => h) (Or.inl ⟨by rfl, ?_⟩) (by assumption) ?_
        rotate_left
        · (intro w hSw; (try dsimp only at hSw); go_simp; first | done | with_reducible rfl)
        try simp only [List.setIfInBounds_toArray, List.set_cons_zero, List.set_cons_succ]
        refine reg_take (i := 2) (d := 54) (v := ?_) [] rfl rfl (by kernel_rfl) (by kernel_rfl) (fun _ _ _ h => h) (Or.inl ⟨by rfl, ?_⟩) (by assumption) ?_
        rotate_left
        · (intro w hSw; (try dsimp only at hSw); go_simp; first | done | with_reducible rfl)
        try simp only [List.setIfInBounds_toArray, List.set_cons_zero, List.set_cons_succ]
        refine reg_take (i := 3) (d := 55) (v := ?_) [] rfl rfl (by kernel_rfl) (by kernel_rfl) (fun _ _ _ h => h) (Or.inl ⟨by rfl, ?_⟩) (by assumption) ?_
        rotate_left
        · (intro w hSw; (try dsimp only at hSw); go_simp; first | done | with_reducible rfl)
        try simp only [List.setIfInBounds_toArray, List.set_cons_zero, List.set_cons_succ]
        refine reg_take (i := 4) (d := 56) (v := ?_) [] rfl rfl (by kernel_rfl) (by kernel_rfl) (fun _ _ _ h => h) (Or.inl ⟨by rfl, ?_⟩) (by assumption) ?_
        rotate_left
        · (intro w hSw; (try dsimp only at hSw); go_simp; first | done | with_reducible rfl)
        try simp only [List.setIfInBounds_toArray, List.set_cons_zero, List.set_cons_succ]
        refine reg_take (i := 5) (d := 57) (v := ?_) [] rfl rfl (by kernel_rfl) (by kernel_rfl) (fun _ _ _ h => h) (Or.inl ⟨by rfl, ?_⟩) (by assumption) ?_
        rotate_left
        · (intro w hSw; (try dsimp only at hSw); go_simp; first | done | with_reducible rfl)
        try simp only [List.setIfInBounds_toArray, List.set_cons_zero, List.set_cons_succ]
        refine reg_take (i := 6) (d := 58) (v := ?_) [] rfl rfl (by kernel_rfl) (by kernel_rfl) (fun _ _ _ h => h) (Or.inl ⟨by rfl, ?_⟩) (by assumption) ?_
        rotate_left
        · (intro w hSw; (try dsimp only at hSw); go_simp; first | done | with_reducible rfl)
        try simp only [List.setIfInBounds_toArray, List.set_cons_zero, List.set_cons_succ]
        refine reg_take (i := 7) (d := 59) (v := ?_) [] rfl rfl (by kernel_rfl) (by kernel_rfl) (fun _ _ _ h => h) (Or.inl ⟨by rfl, ?_⟩) (by assumption) ?_
        rotate_left
        · (intro w hSw; (try dsimp only at hSw); go_simp; first | done | with_reducible rfl)
        try simp only [List.setIfInBounds_toArray, List.set_cons_zero, List.set_cons_succ]
        refine reg_take (i := 8) (d := 60) (v := ?_) [] rfl rfl (by kernel_rfl) (by kernel_rfl) (fun _ _ _ h => h) (Or.inl ⟨by rfl, ?_⟩) (by assumption) ?_
        rotate_left
        · (intro w hSw; (try dsimp only at hSw); go_simp; first | done | with_reducible rfl)
        try simp only [List.setIfInBounds_toArray, List.set_cons_zero, List.set_cons_succ]
        refine reg_take (i := 9) (d := 61) (v := ?_) [] rfl rfl (by kernel_rfl) (by kernel_rfl) (fun _ _ _ h => h) (Or.inl ⟨by rfl, ?_⟩) (by assumption) ?_
        rotate_left
        · (intro w hSw; (try dsimp only at hSw); go_simp; first | done | with_reducible rfl)
        try simp only [List.setIfInBounds_toArray, List.set_cons_zero, List.set_cons_succ]
        refine reg_take (i := 10) (d := 62) (v := ?_) [] rfl rfl (by kernel_rfl) (by kernel_rfl) (fun _ _ _ h => h) (Or.inl ⟨by rfl, ?_⟩) (by assumption) ?_
        rotate_left
        · (intro w hSw; (try dsimp only at hSw); go_simp; first | done | with_reducible rfl)
        try simp only [List.setIfInBounds_toArray, List.set_cons_zero, List.set_cons_succ]
        refine reg_take (i := 11) (d := 63) (v := ?_) [] rfl rfl (by kernel_rfl) (by kernel_rfl) (fun _ _ _ h => h) (Or.inl ⟨by rfl, ?_⟩) (by assumption) ?_
        rotate_left
        · (intro w hSw; (try dsimp only at hSw); go_simp; first | done | with_reducible rfl)
        try simp only [List.setIfInBounds_toArray, List.set_cons_zero, List.set_cons_succ]
        refine wpAnyL_ready (rs := [12]) (by kernel_rfl) rfl ?_
        refine (AllL.consJ rfl (by kernel_rfl) (fun K hK => ?_) AllL.nil)
        go_simp
        have HT := Lib.hid (HT.out.blkSet 3 (.int .i64 (tt - bv)))
        refine hK.out _ _ ?_
        try simp only [List.setIfInBounds_toArray, List.set_cons_zero, List.set_cons_succ]
        refine wpAnyL_done (by kernel_rfl) ?_ _
        go_wp2_with fail
        go_meet
        exact ⟨bv, HV8.out, HT.out⟩
      · have q1 : decide ((0 : Int) < (n1 : Int)) = false := by simp; omega
        have q2 : ¬ (0 : Int) < (n1 : Int) := by omega
        go_wp2_with fail
        go_meet
        exact ⟨0, ⟨by omega, by omega⟩, by rw [Int.sub_zero]; exact HT.out⟩
    case rest =>
    clear HT
    obtain ⟨bf, hbf, hs⟩ := hcut
    have HT := Lib.hid hs; have HBF := Lib.hid hbf
    clear hs
    obtain ⟨hbf1, hbf2⟩ := hbf
    go_upto_if 66 with fail
    go_cut [] (fun wx => ∃ bh : Int, u8ok bh ∧ Sep w wx [tBlk gO #[.int .i64 xo, .int .i64 xb, .string xd, .int .i64 (tt - bf), .int .i64 (tt + bh * 9), .bool bk, .int .i64 0, .string { data := #[] }] tOp, tBlk gX #[.int .i64 xo, .int .i64 xb, .string xd] tCa, tOwn tOp 8 (.slice P k c) k (eOp.fl L), tMapV tIn bm q f])
    case first =>
      by_cases hn2 : 0 < n2
      · have q1 : decide ((0 : Int) < (n2 : Int)) = true := by simp; omega
        have q2 : (0 : Int) < (n2 : Int) := by omega
        have q3 : (n2 : Int) ≠ 0 := by omega
        have q6 : ¬ n2 = 0 := by omega
        obtain ⟨hm1, hm2⟩ := tmod_at (k := k) (n := n2) (by omega)
        obtain ⟨m, hm⟩ : ∃ m, k % n2 = m := ⟨_, rfl⟩
        rw [hm] at hm1 hm2
        have q4 : (m : Int) < (n2 : Int) := by omega
        have q5 : (0 : Int) ≤ (m : Int) := by omega
        obtain ⟨bv, hbv⟩ : ∃ v, D[m]? = some v := ⟨_, List.getElem?_eq_getElem (by rw [HDL.out]; omega)⟩
        have hb8 := HDB.out bv (List.mem_of_getElem? hbv)
        obtain ⟨gD, oD, rfl, hx⟩ := (HDR.out _ _ HT.out).u8 m bv hbv
        have h3 := (show Blk _ gO _ tOp from HT.out.hd).cell 4
        have fz := (show Blk _ gO _ tOp from HT.out.hd).frozen 4
        have HU := Lib.hid (show wc.drew.cell? ⟨gO, 4, none⟩ = some (.int .i64 tt) ∧ wc.drew.cell? ⟨gD, oD + m, none⟩ = some (.int .u8 bv) from ⟨h3, hx⟩)
        have HV8 := Lib.hid hb8
        obtain ⟨hb81, hb82⟩ := hb8
        have hwb : IntKind.i64.wrap (tt + bv * 9) = tt + bv * 9 := IntWalk.i64_in _ (by omega)
        have hwe : IntKind.i64.wrap (bv * 9) = bv * 9 := IntWalk.i64_in _ (by omega)
        have hwc : IntKind.i64.wrap bv = bv := IntWalk.i64_in _ (by omega)
        go_upto_region 14 with fail
        have HT := Lib.hid HT.out.drew
        refine wp_region_L (fun w' => w'.cell? ⟨gO, 4, none⟩ = some (.int .i64 tt) ∧ w'.cell? ⟨gD, oD + m, none⟩ = some (.int .u8 bv)) 13 (by kernel_rfl) HU.out (fun hHeld => ?_)
        refine reg_take (i := 0) (d := 67) (v := ?_) [] rfl rfl (by kernel_rfl) (by kernel_rfl) (fun _ _ _ h => h) (Or.inl ⟨by rfl, ?_⟩) (by assumption) ?_
        rotate_left
        · (intro w hSw; (try dsimp only at hSw); go_simp; first | done | with_reducible rfl)
        try simp only [List.setIfInBounds_toArray, List.set_cons_zero, List.set_cons_succ]
        refine reg_take (i := 1) (d := 68) (v := ?_) [] rfl rfl (by kernel_rfl) (by kernel_rfl) (fun _ _ _ h => h) (Or.inl ⟨by rfl, ?_⟩) (by assumption) ?_
        rotate_left
        · (intro w hSw; (try dsimp only at hSw); go_simp; first | done | with_reducible rfl)
        try simp only [List.setIfInBounds_toArray, List.set_cons_zero, List.set_cons_succ]
        refine reg_take (i := 2) (d := 69) (v := ?_) [] rfl rfl (by kernel_rfl) (by kernel_rfl) (fun _ _ _ h => h) (Or.inl ⟨by rfl, ?_⟩) (by assumption) ?_
        rotate_left
        · (intro w hSw; (try dsimp only at hSw); go_simp; first | done | with_reducible rfl)
        try simp only [List.setIfInBounds_toArray, List.set_cons_zero, List.set_cons_succ]
        refine reg_take (i := 3) (d := 70) (v := ?_) [] rfl rfl (by kernel_rfl) (by kernel_rfl) (fun _ _ _ h => h) (Or.inl ⟨by rfl, ?_⟩) (by assumption) ?_
        rotate_left
        · (intro w hSw; (try dsimp only at hSw); go_simp; first | done | with_reducible rfl)
        try simp only [List.setIfInBounds_toArray, List.set_cons_zero, List.set_cons_succ]
        refine reg_take (i := 4) (d := 71) (v := ?_) [] rfl rfl (by kernel_rfl) (by kernel_rfl) (fun _ _ _ h => h) (Or.inl ⟨by rfl, ?_⟩) (by assumption) ?_
        rotate_left
        · (intro w hSw; (try dsimp only at hSw); go_simp; first | done | with_reducible rfl)
        try simp only [List.setIfInBounds_toArray, List.set_cons_zero, List.set_cons_succ]
        refine reg_take (i := 5) (d := 72) (v := ?_) [] rfl rfl (by kernel_rfl) (by kernel_rfl) (fun _ _ _ h => h) (Or.inl ⟨by rfl, ?_⟩) (by assumption) ?_
        rotate_left
        · (intro w hSw; (try dsimp only at hSw); go_simp; first | done | with_reducible rfl)
        try simp only [List.setIfInBounds_toArray, List.set_cons_zero, List.set_cons_succ]
        refine reg_take (i := 6) (d := 73) (v := ?_) [] rfl rfl (by kernel_rfl) (by kernel_rfl) (fun _ _ _ h => h) (Or.inl ⟨by rfl, ?_⟩) (by assumption) ?_
        rotate_left
        · (intro w hSw; (try dsimp only at hSw); go_simp; first | done | with_reducible rfl)
        try simp only [List.setIfInBounds_toArray, List.set_cons_zero, List.set_cons_succ]
        refine reg_take (i := 7) (d := 74) (v := ?_) [] rfl rfl (by kernel_rfl) (by kernel_rfl) (fun _ _ _ h => h) (Or.inl ⟨by rfl, ?_⟩) (by assumption) ?_
        rotate_left
        · (intro w hSw; (try dsimp only at hSw); go_simp; first | done | with_reducible rfl)
        try simp only [List.setIfInBounds_toArray, List.set_cons_zero, List.set_cons_succ]
        refine reg_take (i := 8) (d := 75) (v := ?_) [] rfl rfl (by kernel_rfl) (by kernel_rfl) (fun _ _ _ h => h) (Or.inl ⟨by rfl, ?_⟩) (by assumption) ?_
        rotate_left
        · (intro w hSw; (try dsimp only at hSw); go_simp; first | done | with_reducible rfl)
        try simp only [List.setIfInBounds_toArray, List.set_cons_zero, List.set_cons_succ]
        refine reg_take (i := 9) (d := 76) (v := ?_) [] rfl rfl (by kernel_rfl) (by kernel_rfl) (fun _ _ _ h => h) (Or.inl ⟨by rfl, ?_⟩) (by assumption) ?_
        rotate_left
        · (intro w hSw; (try dsimp only at hSw); go_simp; first | done | with_reducible rfl)
        try simp only [List.setIfInBounds_toArray, List.set_cons_zero, List.set_cons_succ]
        refine reg_take (i := 10) (d := 77) (v := ?_) [] rfl rfl (by kernel_rfl) (by kernel_rfl) (fun _ _ _ h => h) (Or.inl ⟨by rfl, ?_⟩) (by assumption) ?_
        rotate_left
        · (intro w hSw; (try dsimp only at hSw); go_simp; first | done | with_reducible rfl)
        try simp only [List.setIfInBounds_toArray, List.set_cons_zero, List.set_cons_succ]
        refine reg_take (i := 11) (d := 78) (v := ?_) [] rfl rfl (by kernel_rfl) (by kernel_rfl) (fun _ _ _ h => h) (Or.inl ⟨by rfl, ?_⟩) (by assumption) ?_
        rotate_left
        · (intro w hSw; (try dsimp only at hSw); go_simp; first | done | with_reducible rfl)
        try simp only [List.setIfInBounds_toArray, List.set_cons_zero, List.set_cons_succ]
        refine reg_take (i := 12) (d := 79) (v := ?_) [] rfl rfl (by kernel_rfl) (by kernel_rfl) (fun _ _ _ h => h) (Or.inl ⟨by rfl, ?_⟩) (by assumption) ?_
        rotate_left
        · (intro w hSw; (try dsimp only at hSw); go_simp; first | done | with_reducible rfl)
        try simp only [List.setIfInBounds_toArray, List.set_cons_zero, List.set_cons_succ]
        refine wpAnyL_ready (rs := [13]) (by kernel_rfl) rfl ?_
        refine (AllL.consJ rfl (by kernel_rfl) (fun K hK => ?_) AllL.nil)
        go_simp
        have HT := Lib.hid (HT.out.blkSet 4 (.int .i64 (tt + bv * 9)))
        refine hK.out _ _ ?_
        try simp only [List.setIfInBounds_toArray, List.set_cons_zero, List.set_cons_succ]
        refine wpAnyL_done (by kernel_rfl) ?_ _
        go_wp2_with fail
        go_meet
        exact ⟨bv, HV8.out, HT.out⟩
      · have q1 : decide ((0 : Int) < (n2 : Int)) = false := by simp; omega
        have q2 : ¬ (0 : Int) < (n2 : Int) := by omega
        go_wp2_with fail
        go_meet
        exact ⟨0, ⟨by omega, by omega⟩, by rw [Int.zero_mul, Int.add_zero]; exact HT.out⟩
    case rest =>
    clear HT
    obtain ⟨bh, hbh, hs⟩ := hcut
    have HT := Lib.hid hs; have HBH := Lib.hid hbh
    clear hs
    obtain ⟨fr, hfr⟩ : ∃ f, tt - bf = f := ⟨_, rfl⟩
    obtain ⟨t9, hto⟩ : ∃ f, tt + bh * 9 = f := ⟨_, rfl⟩
    have HFR := Lib.hid hfr; have HTO := Lib.hid hto
    rw [hfr, hto] at HT
    clear hfr hto hbh hbf1 hbf2 ht1
    have HKEY := Lib.hid (keyI HXO.out.blk)
    have HQ := Lib.hid (show q < maxLen by unfold maxLen; omega)
    have x0 : wc.cell? ⟨gX, 0, none⟩ = some (.int .i64 xo) := (show Blk _ gX _ tCa from HT.out.h2).cell 0
    have x1 : wc.cell? ⟨gX, 1, none⟩ = some (.int .i64 xb) := (show Blk _ gX _ tCa from HT.out.h2).cell 1
    have x2 : wc.cell? ⟨gX, 2, none⟩ = some (.string xd) := (show Blk _ gX _ tCa from HT.out.h2).cell 2
    have o7 : wc.cell? ⟨gO, 7, none⟩ = some (.string { data := #[] }) := (show Blk _ gO _ tOp from HT.out.hd).cell 7
    have o8 : wc.frozen? ⟨gO, 7, none⟩ = false := (show Blk _ gO _ tOp from HT.out.hd).frozen 7
    go_upto_block 2 with fail
    go_cut [] (fun wx => ∃ (q' : Nat) (f' : Value → Option Value), q' ≤ k + 1 ∧ SaysA f' (madeA A xo xb xd) ∧ (xo = 2 → xd ≠ noB) ∧ Sep w wx [tBlk gO #[.int .i64 xo, .int .i64 xb, .string xd, .int .i64 fr, .int .i64 t9, .bool bk, .int .i64 0, .string (if xo = 1 then cur A xb else noB)] tOp, tOwn tOp 8 (.slice P k c) k (eOp.fl L), tMapV tIn bm q' f'])
    case first =>
      by_cases hx1 : xo = 1
      · have p1 : (xo == 1) = true := by simpa using hx1
        have HM1 := Lib.hid (show madeA A xo xb xd = A by unfold madeA; rw [if_neg (by omega), if_neg (by omega)])
        have HX1 := Lib.hid hx1
        clear hx1
        have hm8 := make8
        have hc8 := conv8
        obtain ⟨nn, hnn⟩ : ∃ x, none8 = x := ⟨_, rfl⟩
        have HNN := Lib.hid hnn
        rw [hnn] at hc8
        clear hnn
        obtain ⟨s, hs⟩ : ∃ s, A xb = s := ⟨_, rfl⟩
        have HAS := Lib.hid hs
        clear hs
        go_upto_region 17 with fail
        refine wp_region_lit (l := [_, _, _, _, _, _, _]) ?_
        iterate 3 (refine wpList_plain rfl fun _ hK => ?_; go_simp; refine hK _ _ ?_)
        refine mapv_look (HT.out.h4) lawI Try.underlying38 rfl (.tmp 84) (.tmp 86) rfl (zeroStr _) (iV xb) HKEY.out rfl rfl (.string s) (by rw [HSA.out xb, HAS.out]) ?_
        iterate 3 (refine wpList_plain rfl fun _ hK => ?_; go_simp; refine hK _ _ ?_)
        have HT := Lib.hid (HT.out.blkSet 7 (.string s))
        clear o7 o8
        generalize wc.setCell ⟨gO, 7, none⟩ (.string s) = W7 at *
        have o7 : W7.cell? ⟨gO, 7, none⟩ = some (.string s) := (show Blk _ gO _ tOp from HT.out.hd).cell 7
        have o8 : W7.frozen? ⟨gO, 7, none⟩ = false := (show Blk _ gO _ tOp from HT.out.hd).frozen 7
        clear x0 x1 x2
        by_cases hse : s = { data := #[] }
        · subst hse
          have HT8 := Lib.hid (HT.out.step ((Below.refl _ _).alloc (Nat.le_refl _) (.cells Z8 5)))
          have o9 : ∀ o, (W7.alloc o).cell? ⟨gO, 7, none⟩ = some (.string { data := #[] }) := fun o => (((Below.refl W7.heap.size W7).alloc (Nat.le_refl _) o).cell (World.block_lt_of_cell? W7 _ o7)).trans o7
          have o10 : ∀ o, (W7.alloc o).frozen? ⟨gO, 7, none⟩ = false := fun o => (show Blk _ gO _ tOp from (HT.out.step ((Below.refl _ _).alloc (Nat.le_refl _) o)).hd).frozen 7
          go_wp2_with fail
          go_meet
          refine ⟨q, f, by omega, by rw [HM1.out]; exact HSA.out, fun h => absurd (HX1.out.symm.trans h) (by decide), ?_⟩
          have hq := (HT8.out.blkSet 7 (.string nn)).d2'
          rw [if_pos HX1.out, show cur A xb = nn from (by unfold cur; rw [if_pos HAS.out]; exact HNN.out)]
          exact hq
        · have g1 := str_ne hse
          have g2 : ¬ s.toList = ByteArray.toList { data := #[] } := by simpa using g1
          have g3 : s.toList.isEmpty = false := by
            rw [ByteArray.toList_eq, List.isEmpty_eq_false_iff]
            intro e
            exact g2 (by rw [ByteArray.toList_eq, e]; simp [ByteArray.toList_eq])
          go_wp2_with fail
          go_meet
          refine ⟨q, f, by omega, by rw [HM1.out]; exact HSA.out, fun h => absurd (HX1.out.symm.trans h) (by decide), ?_⟩
          have hq := HT.out.d2'
          rw [if_pos HX1.out, show cur A xb = s from (by unfold cur; rw [if_neg (by rw [HAS.out]; exact hse)]; exact HAS.out)]
          exact hq
      have p1 : (xo == 1) = false := by simpa using hx1
      have HX1 := Lib.hid hx1
      clear hx1
      by_cases hx2 : xo = 2
      · have p2 : (xo == 2) = true := by simpa using hx2
        have HM1 := Lib.hid (show madeA A xo xb xd = putA A xb xd by unfold madeA; rw [if_pos hx2])
        clear hx2
        by_cases hse : xd = { data := #[] }
        · subst hse
          go_wp2_with fail
          go_ret
          exact ⟨rfl, HT.out.bel⟩
        · have HSE := Lib.hid hse
          have g1 := str_ne hse
          have g2 : ¬ xd.toList = ByteArray.toList { data := #[] } := by simpa using g1
          have g3 : xd.toList.isEmpty = false := by
            rw [ByteArray.toList_eq, List.isEmpty_eq_false_iff]
            intro e
            exact g2 (by rw [ByteArray.toList_eq, e]; simp [ByteArray.toList_eq])
          go_upto_region 23 with fail
          refine wp_region_lit (l := [_, _, _, _, _, _]) ?_
          iterate 5 (refine wpList_plain rfl fun _ hK => ?_; go_simp; refine hK _ _ ?_)
          refine mapv_put (HT.out.h4) lawI Try.underlying38 rfl (.tmp 103) (.tmp 105) (.tmp 107) rfl HQ.out (iV xb) (.string xd) HKEY.out rfl rfl rfl ?_
          intro w9 hm9 hu9
          have HT := Lib.hid ((HT.out.r4.mapPut hm9 hu9).r4')
          clear hm9 hu9
          go_wp2_with fail
          go_meet
          refine ⟨q + 1, _, by omega, by rw [HM1.out]; exact HSA.out.put xb xd, fun _ => HSE.out, ?_⟩
          rw [if_neg HX1.out]
          exact HT.out.d2'
      have p2 : (xo == 2) = false := by simpa using hx2
      have HX2 := Lib.hid hx2
      clear hx2
      by_cases hx3 : xo = 3
      · have p3 : (xo == 3) = true := by simpa using hx3
        have HM1 := Lib.hid (show madeA A xo xb xd = putA A xb noB by unfold madeA; rw [if_neg HX2.out, if_pos hx3])
        clear hx3
        go_upto_region 25 with fail
        refine wp_region_lit (l := [_, _, _, _]) ?_
        iterate 3 (refine wpList_plain rfl fun _ hK => ?_; go_simp; refine hK _ _ ?_)
        refine mapv_put (HT.out.h4) lawI Try.underlying38 rfl (.tmp 110) (.tmp 112) (.const (.string { data := #[] })) rfl HQ.out (iV xb) (.string { data := #[] }) HKEY.out rfl rfl rfl ?_
        intro w9 hm9 hu9
        have HT := Lib.hid ((HT.out.r4.mapPut hm9 hu9).r4')
        clear hm9 hu9
        go_wp2_with fail
        go_meet
        refine ⟨q + 1, _, by omega, by rw [HM1.out]; exact HSA.out.put xb noB, fun h => absurd h HX2.out, ?_⟩
        rw [if_neg HX1.out]
        exact HT.out.d2'
      · have p3 : (xo == 3) = false := by simpa using hx3
        have HM1 := Lib.hid (show madeA A xo xb xd = A by unfold madeA; rw [if_neg HX2.out, if_neg hx3])
        clear hx3
        go_wp2_with fail
        go_meet
        refine ⟨q, f, by omega, by rw [HM1.out]; exact HSA.out, fun h => absurd h HX2.out, ?_⟩
        rw [if_neg HX1.out]
        exact HT.out.d2'
    case rest =>
    clear HT x0 x1 x2 o7 o8
    obtain ⟨q', f', hq', hsa, hne, hs⟩ := hcut
    have HT := Lib.hid hs; have HSA2 := Lib.hid hsa
    have HMD2 := Lib.hid (HMD.out.step xo xb xd bf bh bk HBF.out HBH.out.1 hne)
    have HOKN := Lib.hid (madeOp_ok (A := A) (k := k) (by omega) (back := bk) HXO.out HBF.out HBH.out HSZ.out)
    have HSZ2 := Lib.hid (madeA_size HSZ.out (op := xo) (blk := xb) HXO.out.data)
    have HEQ := Lib.hid (show madeOp A k xo xb xd bf bh bk = ⟨xo, xb, xd, fr, t9, bk, 0, if xo = 1 then cur A xb else noB⟩ by unfold madeOp; rw [HTT.out, HFR.out, HTO.out])
    clear hs hsa hne
    obtain ⟨rd, hrd⟩ : ∃ r, (if xo = 1 then cur A xb else noB) = r := ⟨_, rfl⟩
    rw [hrd] at HEQ HT
    clear hrd
    go_upto_region 26 with fail
    refine wp_region_lit (l := [_, _, _, _, _]) ?_
    refine wpList_plain rfl fun _ hK => ?_
    go_simp
    refine hK _ _ ?_
    refine loadR _ (show Blk wc gO _ tOp from HT.out.hd) Try.underlying44 rfl infoOp rfl (.tmp 14) rfl rfl ?_
    have HT := Lib.hid HT.out.tail
    go_wp2_with (at_builtin; refine app1O 22 tOp (.agg #[.int .i64 0, .int .i64 0, .string ByteArray.empty, .int .i64 0, .int .i64 0, .bool false, .int .i64 0, .string ByteArray.empty]) 8 80 [.int .i64 xo, .int .i64 xb, .string xd, .int .i64 fr, .int .i64 t9, .bool bk, .int .i64 0, .string rd] HT.out.own HBD.out Try.underlying22 Try.infoO rfl (by decide) (by decide) rfl (eOp.one (LOp.mk xo xb xd fr t9 bk 0 rd)) (.tmp 113) (.tmp 115) rfl rfl rfl rfl ?_; intro v1 w5 ho1 hg1 hat1; obtain ⟨A1, c1, rfl, _⟩ := ho1.form; have HT := Lib.hid (HT.out.appG ho1 hg1 hat1); clear ho1 hg1 hat1)
    go_roundg (n0 - (k + 1))
    case measure => omega
    case rel =>
      refine ⟨k + 1, L ++ [LOp.mk xo xb xd fr t9 bk 0 rd], madeA A xo xb xd, A1, c1, q', f', rfl, by push_cast; rfl, by omega, by omega, hq', rfl, by rw [← HEQ.out]; exact HMD2.out, fun o ho => ?_, HSA2.out, HSZ2.out, by rw [Enc.snoc]; exact HT.out⟩
      rcases List.mem_append.1 ho with ho | ho
      · exact HOK.out o ho
      · obtain rfl := List.mem_singleton.1 ho
        rw [← HEQ.out]
        exact HOKN.out
  · have HK9 := Lib.hid hk9
    have HML := Lib.hid HMD.out.len
    have HC1 := Lib.hid (HMD.out.right HK9.out)
    have HC2 := Lib.hid (chkB_iff.1 HC1.out)
    have HER := Lib.hid (show errs L = 0 from HC2.out.1)
    have HWR := Lib.hid (show (wrong L).2 = false from by have := chk_wrong HER.out; rw [HC1.out] at this; simpa using this.symm)
    have m1 : ∀ (W : World), Sep w W [tOwn tOp 8 (.slice P k c) k (eOp.fl L), tMapV tIn bm q f] → Rd W P (eOp.fl L) := fun W h => h.own.rd
    have HRD := Lib.hid m1
    clear m1
    by_cases hkn : k < n0
    all_goals (
      first
      | (have j1 : decide ((k : Int) < (n0 : Int)) = true := by simp; omega
         have j2 : (k : Int) < (n0 : Int) := by omega
         have j4 : decide ((k : Int) < 9) = false := by simp; omega
         have j5 : ¬ (k : Int) < 9 := by omega
         skip)
      | (have j1 : decide ((k : Int) < (n0 : Int)) = false := by simp; omega
         have j2 : ¬ (k : Int) < (n0 : Int) := by omega
         skip)
      go_wp2_with first
        | (go_at_call 15; refine (check_any L P k c HML.out (by have := HK9.out; omega) HOK.out (fun W' h => HRD.out W' h) HT.out).mono ?_; rw [HC1.out, HER.out]; rintro e w11 ⟨rfl, hS⟩; have HT2 := Lib.hid hS; clear hS)
        | (go_at_call 16; refine (wrong_any L P k c HML.out (by have := HK9.out; omega) HOK.out (fun W' h => HRD.out W' h) HT2.out).mono ?_; rw [HWR.out]; rintro e w12 ⟨rfl, hS⟩; have HT3 := Lib.hid hS; clear hS)
      go_ret
      exact ⟨rfl, HT3.out.bel⟩)
end Go.Proofs.Ytkajkomljgdghaa
