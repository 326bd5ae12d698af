/- The walks of package code and of the document's: a record's bytes. Conditions: a record that may be, of numbers of 64 bits. -/
import Derived.Test.YtodjmeodcmbdoaaCodR
set_option linter.unusedVariables false
set_option linter.unusedSimpArgs false
namespace Go.Proofs.Ytodjmeodcmbdoaa
open Go.RowKit
theorem fm_step {α β : Type} (f : α → List β) (l : List α) (k : Nat) (x : α) (hx : l[k]? = some x) : (l.take (k + 1)).flatMap f = (l.take k).flatMap f ++ f x := by
  obtain ⟨hk, rfl⟩ := List.getElem?_eq_some_iff.1 hx
  rw [List.take_succ_eq_append_getElem hk, List.flatMap_append]
  simp
theorem fm_len {α β : Type} (f : α → List β) (m : Nat) : ∀ l : List α, (∀ x ∈ l, (f x).length ≤ m) → (l.flatMap f).length ≤ l.length * m
  | [], _ => by simp
  | x :: l, h => by
    rw [List.flatMap_cons, List.length_append, List.length_cons, Nat.add_mul]
    have := fm_len f m l (fun y hy => h y (List.mem_cons_of_mem _ hy))
    have := h x (List.mem_cons_self ..)
    omega
theorem strCells_fl (s : ByteArray) : Lib.strCells s = eB.fl s.data.toList := by
  unfold Lib.strCells Enc.fl
  generalize s.data.toList = l
  induction l with
  | nil => rfl
  | cons x l ih => simp only [List.map_cons, List.flatten_cons, ih]; rfl
theorem txt_len (s : ByteArray) : (txtB s).length = 1 + s.size := by
  unfold txtB
  rw [List.length_cons, Array.length_toList]
  show s.size + 1 = _
  omega
def hd2 (r : Rec) : List UInt8 := [b8 r.kind.toNat, headB r.nums.length r.texts.length]
theorem encB_hd (r : Rec) : encB r = hd2 r ++ r.nums.flatMap numB ++ r.texts.flatMap txtB := by
  unfold encB bodB hd2
  simp
theorem NewRow.form {w W : World} {v : Value} {ys : List UInt8} (h : NewRow w W v ys) : ∃ A c, v = .slice A ys.length c ∧ ys.length ≤ c ∧ (A = none → ys.length = 0 ∧ c = 0) ∧ Rd W A (eB.fl ys) := h.1.form
theorem Sep.newRowOf {w W : World} {l : List Th} {v : Value} {ys : List UInt8} {n : Nat} (h : Sep w W (tOwn tB 1 v n (eB.fl ys) :: l)) (hn : n = ys.length) : NewRow w W v ys :=
  ⟨by rw [← hn]; exact h.own, h.bel, fun g hg => h.ge _ (List.mem_cons_self ..) g hg⟩
theorem Sep.withRow {w W W1 : World} {l : List Th} {v : Value} {ys : List UInt8} {n : Nat} (h : Sep w W l) (r : NewRow W W1 v ys) (hn : ys.length = n) : Sep w W1 (tOwn tB 1 v n (eB.fl ys) :: l) :=
  h.new (t := tOwn tB 1 v n (eB.fl ys)) r.2.1 (by rw [← hn]; exact r.1) (fun k hk => r.2.2 k hk)
theorem Sep.madeRow {w W : World} {l : List Th} (h : Sep w W l) (cs : Array Value) (ys : List UInt8) (n : Nat) (hn : ys.length = n) (hm : n ≤ maxLen) (hc : cs.toList = eB.fl ys) {g : Nat} (hg : W.heap.size = g) : Sep w (W.alloc (.cells cs tB)) (tOwn tB 1 (.slice (some ⟨g, 0, none⟩) n n) n (eB.fl ys) :: l) :=
  h.new (t := tOwn tB 1 (.slice (some ⟨g, 0, none⟩) n n) n (eB.fl ys)) ((Below.refl _ _).alloc (Nat.le_refl _) _) (Own.made W cs tB 1 n (eB.fl ys) hg hm hc (by rw [Enc.length, hn]; rfl)) (fun k hk => by
    have hk : some g = some k := hk
    cases hk; omega)
set_option maxRecDepth 100000 in
set_option maxHeartbeats 4000000 in
theorem encode_yes (kind : Int) (ns : List Int) (ts : List ByteArray) (An At : Option Addr) (n t cn ct : Nat) (w : World) (h : RecAt w ⟨kind, ns, ts⟩ An At n t cn ct) (hm : mayB ⟨kind, ns, ts⟩ = true) (hi : ∀ x ∈ ns, i64 x) :
    Calls Try.prog 40 #[recV kind An At n t cn ct] w fun e w' => ∃ v, e = .returned (.tuple #[v, .int .i64 0]) ∧ NewRow w w' v (encB ⟨kind, ns, ts⟩) := by
  obtain ⟨g, hg⟩ : ∃ g, w.heap.size = g := ⟨_, rfl⟩
  have HS := Lib.hid ((Sep.nil w).newBlk #[.int .i64 kind, .slice An n cn, .slice At t ct] 72 hg)
  have HRW := Lib.hid h
  have HM := Lib.hid hm; have HI := Lib.hid hi
  obtain ⟨⟨m1, m2, m3, m4⟩, m5⟩ := (mayB_iff _).1 hm
  simp only at m1 m2 m3 m4 m5
  have HT5 := Lib.hid m5
  have HN := Lib.hid (show ns.length = n from h.hn); have HTT := Lib.hid (show ts.length = t from h.ht)
  have HE := Lib.hid (encB_hd ⟨kind, ns, ts⟩)
  simp only at HE
  have n16 : n ≤ 16 := by rw [← HN.out]; exact m3
  have t4 : t ≤ 4 := by rw [← HTT.out]; exact m4
  obtain ⟨H2, hH2⟩ : ∃ l, hd2 ⟨kind, ns, ts⟩ = l := ⟨_, rfl⟩
  have HL2 := Lib.hid (show H2.length = 2 by rw [← hH2]; rfl)
  have HH := Lib.hid (show [Value.int .u8 kind, Value.int .u8 ((headB n t).toNat : Int)] = eB.fl H2 by
    rw [← hH2]
    unfold hd2
    simp only
    rw [HN.out, HTT.out]
    simp [eB, Enc.fl, b8_toNat (show kind.toNat < 256 by omega)]
    omega)
  rw [hH2] at HE
  have HLN := Lib.hid (fun k : Nat => show ((ns.take k).flatMap numB).length ≤ 160 by
    refine Nat.le_trans (fm_len numB 10 _ (fun x hx => numB_len (HI.out x (List.mem_of_mem_take hx)))) ?_
    rw [List.length_take, HN.out]; omega)
  have HLT := Lib.hid (fun k : Nat => show ((ts.take k).flatMap txtB).length ≤ 1000 by
    refine Nat.le_trans (fm_len txtB 201 _ (fun x hx => by rw [txt_len]; have := HT5.out x (List.mem_of_mem_take hx); omega)) ?_
    rw [List.length_take, HTT.out]; omega)
  clear h hm hi m3 m4 m5 hH2
  have HWG := Lib.hid hg
  clear hg
  go_enter Try.func40, Try.ntmps40
  go_upto_region 3 with (go_at_call 47; refine (may_any ⟨kind, ns, ts⟩ An At n t cn ct _ (HRW.out.below ((Below.refl _ _).alloc (Nat.le_refl _) _))).mono ?_; rw [HM.out]; rintro e w1 ⟨rfl, hB1⟩; have HS1 := Lib.hid (HS.out.step hB1); clear hB1)
  rw [HWG.out]
  have HGG := Lib.hid (show Blk w1 g #[.int .i64 kind, .slice An n cn, .slice At t ct] 72 from HS1.out.hd)
  clear HS
  have HS : Hid (∀ w', Blk w' g #[.int .i64 kind, .slice An n cn, .slice At t ct] 72 → w'.cell? ⟨g, 0, none⟩ = some (.int .i64 kind) ∧ w'.cell? ⟨g, 1, none⟩ = some (.slice An n cn) ∧ w'.cell? ⟨g, 2, none⟩ = some (.slice At t ct)) := Lib.hid (fun w' h => ⟨h.cell 0, h.cell 1, h.cell 2⟩)
  have k8 : IntKind.u8.wrap kind = kind := IntWalk.u8_in _ (by omega)
  refine wp_region_L (fun w' => w'.cell? ⟨g, 0, none⟩ = some (.int .i64 kind) ∧ w'.cell? ⟨g, 1, none⟩ = some (.slice An n cn) ∧ w'.cell? ⟨g, 2, none⟩ = some (.slice At t ct)) 12 (by kernel_rfl) (HS.out _ HGG.out.drew) (fun hHeld => ?_)
  refine reg_take (i := 0) (d := 12) (v := ?_) [] rfl rfl (by kernel_rfl) (by kernel_rfl) (fun _ _ _ h => h) (Or.inl ⟨by rfl, ?_⟩) (by assumption) ?_
  rotate_left
  · (intro w hSw; (try dsimp only at hSw); go_simp; first | done | with_reducible rfl)
  try simp only [List.setIfInBounds_toArray, List.set_cons_zero, List.set_cons_succ]
  refine reg_take (i := 1) (d := 13) (v := ?_) [] rfl rfl (by kernel_rfl) (by kernel_rfl) (fun _ _ _ h => h) (Or.inl ⟨by rfl, ?_⟩) (by assumption) ?_
  rotate_left
  · (intro w hSw; (try dsimp only at hSw); go_simp; first | done | with_reducible rfl)
  try simp only [List.setIfInBounds_toArray, List.set_cons_zero, List.set_cons_succ]
  refine reg_take (i := 2) (d := 14) (v := ?_) [] rfl rfl (by kernel_rfl) (by kernel_rfl) (fun _ _ _ h => h) (Or.inl ⟨by rfl, ?_⟩) (by assumption) ?_
  rotate_left
  · (intro w hSw; (try dsimp only at hSw); go_simp; first | done | with_reducible rfl)
  try simp only [List.setIfInBounds_toArray, List.set_cons_zero, List.set_cons_succ]
  refine reg_take (i := 3) (d := 15) (v := ?_) [] rfl rfl (by kernel_rfl) (by kernel_rfl) (fun _ _ _ h => h) (Or.inl ⟨by rfl, ?_⟩) (by assumption) ?_
  rotate_left
  · (intro w hSw; (try dsimp only at hSw); go_simp; first | done | with_reducible rfl)
  try simp only [List.setIfInBounds_toArray, List.set_cons_zero, List.set_cons_succ]
  refine reg_take (i := 4) (d := 16) (v := ?_) [] rfl rfl (by kernel_rfl) (by kernel_rfl) (fun _ _ _ h => h) (Or.inl ⟨by rfl, ?_⟩) (by assumption) ?_
  rotate_left
  · (intro w hSw; (try dsimp only at hSw); go_simp; first | done | with_reducible rfl)
  try simp only [List.setIfInBounds_toArray, List.set_cons_zero, List.set_cons_succ]
  refine reg_take (i := 5) (d := 17) (v := ?_) [] rfl rfl (by kernel_rfl) (by kernel_rfl) (fun _ _ _ h => h) (Or.inl ⟨by rfl, ?_⟩) (by assumption) ?_
  rotate_left
  · (intro w hSw; (try dsimp only at hSw); go_simp; first | done | with_reducible rfl)
  try simp only [List.setIfInBounds_toArray, List.set_cons_zero, List.set_cons_succ]
  refine reg_take (i := 6) (d := 18) (v := ?_) [] rfl rfl (by kernel_rfl) (by kernel_rfl) (fun _ _ _ h => h) (Or.inl ⟨by rfl, ?_⟩) (by assumption) ?_
  rotate_left
  · (intro w hSw; (try dsimp only at hSw); go_simp; first | done | with_reducible rfl)
  try simp only [List.setIfInBounds_toArray, List.set_cons_zero, List.set_cons_succ]
  refine reg_take (i := 7) (d := 19) (v := ?_) [] rfl rfl (by kernel_rfl) (by kernel_rfl) (fun _ _ _ h => h) (Or.inl ⟨by rfl, ?_⟩) (by assumption) ?_
  rotate_left
  · (intro w hSw; (try dsimp only at hSw); go_simp; first | done | with_reducible rfl)
  try simp only [List.setIfInBounds_toArray, List.set_cons_zero, List.set_cons_succ]
  refine reg_take (i := 8) (d := 20) (v := ?_) [] rfl rfl (by kernel_rfl) (by kernel_rfl) (fun _ _ _ h => h) (Or.inl ⟨by rfl, ?_⟩) (by assumption) ?_
  rotate_left
  · (intro w hSw; (try dsimp only at hSw); go_simp; first | done | with_reducible rfl)
  try simp only [List.setIfInBounds_toArray, List.set_cons_zero, List.set_cons_succ]
  refine wpAnyL_ready (rs := [9]) (by kernel_rfl) rfl ?_
  refine (AllL.cons rfl (fun K hK => ?_) AllL.nil)
  go_simp
  go_wp2_with (go_at_call 48; with_reducible refine (head_any n t _ n16 t4).mono ?_; rintro e1 w2 ⟨rfl, rfl⟩)
  refine hK.out _ _ (HS.out _ HGG.out.drew) (fun hHeld => ?_)
  try simp only [List.setIfInBounds_toArray, List.set_cons_zero, List.set_cons_succ]
  refine wpAnyL_ready (rs := [10]) (by kernel_rfl) rfl ?_
  refine (AllL.cons rfl (fun K hK => ?_) AllL.nil)
  go_simp
  refine hK.out _ _ (HS.out _ (HGG.out.drew.alloc _)) (fun hHeld => ?_)
  try simp only [List.setIfInBounds_toArray, List.set_cons_zero, List.set_cons_succ]
  refine reg_take (i := 11) (d := 4) (v := ?_) [] rfl rfl (by kernel_rfl) (by kernel_rfl) (fun _ _ _ h => h) (Or.inl ⟨by rfl, ?_⟩) (by assumption) ?_
  rotate_left
  · (intro w hSw; (try dsimp only at hSw); go_simp; first | done | with_reducible rfl)
  try simp only [List.setIfInBounds_toArray, List.set_cons_zero, List.set_cons_succ]
  refine wpAnyL_done (by kernel_rfl) ?_ _
  skip
  go_upto_region 4 with fail
  have HS2 := Lib.hid (HS1.out.madeRow #[.int .u8 kind, .int .u8 ((headB n t).toNat : Int)] H2 2 HL2.out (by decide) HH.out (g := w1.heap.size) rfl).drew
  generalize (w1.alloc (.cells #[.int .u8 kind, .int .u8 ((headB n t).toNat : Int)] tB)).drew = w2 at *
  generalize (Value.slice (some ⟨w1.heap.size, 0, none⟩) 2 2) = v2 at *
  have hg2 : Blk w2 g #[.int .i64 kind, .slice An n cn, .slice At t ct] 72 := HS2.out.h2
  have y1 := hg2.cell 1
  simp at y1
  clear HGG HS HS1 k8 hg2
  go_wp2_with fail
  clear y1
  go_loopg [4, 26] n (fun gk s4 s26 wr => ∃ (k : Nat) (v : Value), v = s4 ∧ s26 = .int .i64 (k : Int) ∧ k ≤ n ∧ gk = n - k ∧ Sep w wr [tOwn tB 1 v (H2 ++ (ns.take k).flatMap numB).length (eB.fl (H2 ++ (ns.take k).flatMap numB)), tBlk g #[.int .i64 kind, .slice An n cn, .slice At t ct] 72])
  case atStart => exact ⟨0, _, rfl, rfl, by omega, by omega, by rw [List.take_zero, List.flatMap_nil, List.append_nil, HL2.out]; exact HS2.out⟩
  case round =>
  clear HS2
  obtain ⟨k, v, rfl, rfl, hk, hgk, hs⟩ := hrel
  obtain ⟨A4, c4, rfl, _⟩ := hs.own.form
  have HS := Lib.hid hs
  clear hs
  by_cases hkn : k < n
  · have k1 : (k : Int) < (n : Int) := by omega
    have k0 : (0 : Int) ≤ (k : Int) := by omega
    have HX := Lib.hid (List.getElem?_eq_getElem (l := ns) (i := k) (by rw [HN.out]; exact hkn))
    have HXI := Lib.hid (HI.out _ (List.mem_of_getElem? HX.out))
    generalize ns[k]'(by rw [HN.out]; exact hkn) = x at *
    obtain ⟨q, o, rfl, u0⟩ := (HRW.out.below HS.out.bel).rn.num k x HX.out
    have HST := Lib.hid (fm_step numB ns k x HX.out)
    obtain ⟨Y, hY⟩ : ∃ Y, H2 ++ (ns.take k).flatMap numB = Y := ⟨_, rfl⟩
    have HYL := Lib.hid (show Y.length ≤ 162 by rw [← hY, List.length_append, HL2.out]; have := HLN.out k; omega)
    have HY := Lib.hid hY
    rw [hY] at HS ⊢
    obtain ⟨m, hm⟩ : ∃ m, (numB x).length = m := ⟨_, rfl⟩
    have HML := Lib.hid hm
    have HMB := Lib.hid (show (Y.length + m) * 1 ≤ 140737488355328 by have := numB_len HXI.out; have := HYL.out; omega)
    clear hY hm
    go_upto_region 7 with fail
    go_wp2_with fail
    refine (number_any x wr HXI.out).mono ?_
    rintro e w3 ⟨v3, rfl, hr3⟩
    have hs3 := (HS.out.withRow hr3 HML.out).sw
    obtain ⟨A3, c3, rfl, _, hA3, hR3⟩ := hr3.1.form
    rw [HML.out] at hs3 hA3 ⊢
    have HS3 := Lib.hid hs3
    have HA3 := Lib.hid hA3; have HR3 := Lib.hid hR3
    clear hs3 hr3 hA3 hR3 u0
    go_wp2_with (at_builtin; go_loud (refine appendO 75 tB (.int .u8 0) 1 1 (eB.fl (numB x)) m HS3.out.own HMB.out Try.underlying75 Try.infoB rfl (by decide) (by decide) (by rw [Enc.length, HML.out]; rfl) (Enc.ones _) A3 c3 HR3.out HA3.out (.tmp 30) (.tmp 32) rfl rfl rfl rfl ?_); intro v5 w5 ho hg hat; have HS5 := Lib.hid (HS3.out.app ho hg hat); clear ho hg hat)
    go_roundg (n - (k + 1))
    case measure => omega
    case rel =>
      refine ⟨k + 1, _, rfl, by push_cast; rfl, by omega, rfl, ?_⟩
      rw [HST.out, ← List.append_assoc, HY.out, List.length_append, HML.out, Enc.app]
      exact HS5.out.d2
  · have k1 : ¬ (k : Int) < (n : Int) := by omega
    have k2 : decide ((k : Int) < (n : Int)) = false := by simp; omega
    have hs := HS.out
    rw [show ns.take k = ns from List.take_of_length_le (by rw [HN.out]; omega)] at hs
    obtain ⟨Y, hY⟩ : ∃ Y, H2 ++ ns.flatMap numB = Y := ⟨_, rfl⟩
    have HYL := Lib.hid (show Y.length ≤ 162 by rw [← hY, List.length_append, HL2.out]; have := HLN.out n; rw [show ns.take n = ns from List.take_of_length_le (by rw [HN.out]; omega)] at this; omega)
    rw [hY] at hs
    have HEN := Lib.hid (show encB ⟨kind, ns, ts⟩ = Y ++ ts.flatMap txtB by rw [HE.out, hY])
    have y2 := (show Blk wr g #[.int .i64 kind, .slice An n cn, .slice At t ct] 72 from hs.h2).cell 2
    simp at y2
    rw [show ns.take k = ns from List.take_of_length_le (by rw [HN.out]; omega), hY]
    have HS2 := Lib.hid hs
    clear hs HS hY
    go_wp2_with fail
    clear y2
    go_loopg [4, 38] t (fun gk s4 s38 wr => ∃ (k : Nat) (v : Value), v = s4 ∧ s38 = .int .i64 (k : Int) ∧ k ≤ t ∧ gk = t - k ∧ Sep w wr [tOwn tB 1 v (Y ++ (ts.take k).flatMap txtB).length (eB.fl (Y ++ (ts.take k).flatMap txtB)), tBlk g #[.int .i64 kind, .slice An n cn, .slice At t ct] 72])
    case atStart => exact ⟨0, _, rfl, rfl, by omega, by omega, by rw [List.take_zero, List.flatMap_nil, List.append_nil]; exact HS2.out⟩
    case round =>
    clear HS2
    obtain ⟨j, v, rfl, rfl, hj, hgj, hs⟩ := hrel
    obtain ⟨A5, c5, rfl, _⟩ := hs.own.form
    have HS := Lib.hid hs
    clear hs
    by_cases hjt : j < t
    · have j1 : (j : Int) < (t : Int) := by omega
      have j0 : (0 : Int) ≤ (j : Int) := by omega
      have HX := Lib.hid (List.getElem?_eq_getElem (l := ts) (i := j) (by rw [HTT.out]; exact hjt))
      have hx2 := HT5.out _ (List.mem_of_getElem? HX.out)
      generalize ts[j]'(by rw [HTT.out]; exact hjt) = x at *
      obtain ⟨q, o, rfl, u0⟩ := (HRW.out.below HS.out.bel).rt.str j x HX.out
      have HST := Lib.hid (fm_step txtB ts j x HX.out)
      obtain ⟨Z, hZ⟩ : ∃ Z, Y ++ (ts.take j).flatMap txtB = Z := ⟨_, rfl⟩
      have HZL := Lib.hid (show Z.length ≤ 1162 by rw [← hZ, List.length_append]; have := HLT.out j; have := HYL.out; omega)
      have HZ := Lib.hid hZ
      rw [hZ] at HS ⊢
      have x1 : (x.size : Int) ≤ 255 := by omega
      have HE1 := Lib.hid (show [Value.int .u8 (x.size : Int)] = eB.fl [b8 x.size] by simp [eB, Enc.fl, b8_toNat (show x.size < 256 by omega)])
      have HB1 := Lib.hid (show (Z.length + 1) * 1 ≤ 140737488355328 by have := HZL.out; omega)
      have HB2 := Lib.hid (show Z.length + 1 + x.size ≤ 140737488355328 by have := HZL.out; omega)
      have HTX := Lib.hid (show (txtB x).length = 1 + x.size from txt_len x)
      clear hZ hx2
      go_wp2_with (first
        | (at_builtin; refine app1O 75 tB (.int .u8 0) 1 1 [.int .u8 (x.size : Int)] HS.out.own HB1.out Try.underlying75 Try.infoB rfl (by decide) (by decide) rfl (by intro u hu; simp only [List.mem_singleton] at hu; subst hu; rfl) (.tmp 42) (.tmp 46) rfl rfl rfl rfl ?_; intro v6 w6 ho hg hat; have HS6 := Lib.hid (HS.out.appG ho hg hat); clear ho hg hat)
        | (at_builtin; refine appendS 75 9 tB HS6.out.own x HB2.out Try.underlying75 Try.underlying9 Try.infoB (.tmp 47) (.tmp 48) rfl rfl rfl rfl ?_; intro v7 w7 ho hg hat; have HS7 := Lib.hid (HS6.out.app ho hg hat); clear ho hg hat))
      go_roundg (t - (j + 1))
      case measure => omega
      case rel =>
        refine ⟨j + 1, _, rfl, by push_cast; rfl, by omega, rfl, ?_⟩
        have h := HS7.out
        rw [HE1.out, strCells_fl, ← Enc.app, ← Enc.app, List.append_assoc, show [b8 x.size] ++ x.data.toList = txtB x from rfl] at h
        rw [HST.out, ← List.append_assoc, HZ.out, List.length_append, HTX.out, ← Nat.add_assoc]
        exact h
    · have j1 : ¬ (j : Int) < (t : Int) := by omega
      have j2 : decide ((j : Int) < (t : Int)) = false := by simp; omega
      have hs := HS.out
      rw [show ts.take j = ts from List.take_of_length_le (by rw [HTT.out]; omega), ← HEN.out] at hs ⊢
      have HS2 := Lib.hid (hs.newRowOf rfl)
      generalize (encB ⟨kind, ns, ts⟩).length = m at *
      clear hs HS
      go_wp2_with fail
      go_ret2
      exact ⟨_, rfl, HS2.out⟩
end Go.Proofs.Ytodjmeodcmbdoaa
