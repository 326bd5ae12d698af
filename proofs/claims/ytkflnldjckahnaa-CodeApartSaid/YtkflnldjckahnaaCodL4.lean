/- The walk of the law CodeApart: it returns true. No condition but the row's own. -/
import Derived.Test.YtkflnldjckahnaaCodK
set_option linter.unusedVariables false
set_option linter.unusedSimpArgs false
namespace Go.Proofs.Ytkflnldjckahnaa
open Go.RowKit
theorem encode_one (kind : Int) (ns : List Int) (ts : List ByteArray) (An At : Option Addr) (n t cn ct : Nat) (w : World) (h : RecAt w ⟨kind, ns, ts⟩ An At n t cn ct) (hi : ∀ x ∈ ns, i64 x) :
    Calls Try.prog 14 #[recV kind An At n t cn ct] w fun e w' => ∃ v er, e = .returned (.tuple #[v, .int .i64 er]) ∧ Below w.heap.size w w' := by
  cases hm : mayB ⟨kind, ns, ts⟩
  · exact (encode_no kind ns ts An At n t cn ct w h hm).mono fun e w' k => ⟨_, _, k.1, k.2⟩
  · exact (encode_yes kind ns ts An At n t cn ct w h hm hi).mono fun e w' ⟨v, k1, k2⟩ => ⟨v, 0, k1, k2.2.1⟩
set_option maxRecDepth 100000 in
set_option maxHeartbeats 4000000 in
theorem w_CodeApart (a0 : Array Value) (a1 : Array Value) (w : World) (b0 : Sh.Is w (.pair (.int .i64) (.pair (.slice 8 (.int .i64)) (.pair (.slice 16 .str) .unit))) a0.toList) (b1 : Sh.Is w (.pair (.int .i64) (.pair (.slice 8 (.int .i64)) (.pair (.slice 16 .str) .unit))) a1.toList) :
    Calls Try.prog 6 #[.agg a0, .agg a1] w fun e w' => e = .returned (.bool true) ∧ Below w.heap.size w w' := by
  obtain ⟨k', ns', ts', An', At', n', t', cn', ct', hx', hR', _, hi', _⟩ := is_rec b1
  obtain rfl : a1 = #[.int .i64 k', .slice An' n' cn', .slice At' t' ct'] := by rw [← Array.toList_inj]; exact hx'
  clear hx' b1
  obtain ⟨k, ns, ts, An, At, n, t, cn, ct, hx, hR, _, hi, _⟩ := is_rec b0
  obtain rfl : a0 = #[.int .i64 k, .slice An n cn, .slice At t ct] := by rw [← Array.toList_inj]; exact hx
  clear hx b0
  obtain ⟨g, hg⟩ : ∃ g, w.heap.size = g := ⟨_, rfl⟩
  have HS := Lib.hid (((Sep.nil w).newBlk #[.int .i64 k, .slice An n cn, .slice At t ct] tRec hg).newBlk #[.int .i64 k', .slice An' n' cn', .slice At' t' ct'] tRec (g := g + 1) (by simp [hg]))
  have HR0 := Lib.hid (And.intro hR hR')
  have HG := Lib.hid hg
  have HN := Lib.hid (And.intro (show ns.length = n from hR.hn) (show ts.length = t from hR.ht))
  have HI := Lib.hid hi; have HI' := Lib.hid hi'
  clear hR hR' hg hi hi'
  have HC : Hid (∀ w', Blk w' g #[.int .i64 k, .slice An n cn, .slice At t ct] tRec → w'.cell? ⟨g, 0, none⟩ = some (.int .i64 k) ∧ w'.cell? ⟨g, 1, none⟩ = some (.slice An n cn) ∧ w'.cell? ⟨g, 2, none⟩ = some (.slice At t ct)) := Lib.hid (fun w' h => ⟨h.cell 0, h.cell 1, h.cell 2⟩)
  have HC' : Hid (∀ w', Blk w' (g + 1) #[.int .i64 k', .slice An' n' cn', .slice At' t' ct'] tRec → w'.cell? ⟨g + 1, 0, none⟩ = some (.int .i64 k') ∧ w'.cell? ⟨g + 1, 1, none⟩ = some (.slice An' n' cn') ∧ w'.cell? ⟨g + 1, 2, none⟩ = some (.slice At' t' ct')) := Lib.hid (fun w' h => ⟨h.cell 0, h.cell 1, h.cell 2⟩)
  go_enter Try.func6, Try.ntmps6
  go_wp2_with fail
  rw [HG.out]
  refine (awake_any _).mono ?_
  rintro e w1 ⟨rfl, hB⟩
  have HS := Lib.hid (HS.out.step hB)
  clear hB HG
  obtain ⟨y0, y1, y2⟩ := HC.out _ HS.out.h2
  go_wp2_with fail
  refine (largeB_any ⟨k, ns, ts⟩ An At n t cn ct _ (HR0.out.1.below HS.out.bel)).mono ?_
  rintro e w2 ⟨rfl, hw2⟩
  have hB : Below w1.heap.size w1 w2 := by rw [hw2]; exact (Below.refl _ _).alloc (Nat.le_refl _) _
  have HS := Lib.hid (HS.out.step hB)
  clear hB hw2 y0 y1 y2
  by_cases hl : 1000 < n ∨ 1000 < t
  · rw [decide_eq_true hl]
    clear hl
    go_wp2_with fail
    go_ret
    exact ⟨rfl, HS.out.bel⟩
  rw [decide_eq_false hl]
  clear hl
  obtain ⟨y0, y1, y2⟩ := HC'.out _ HS.out.hd
  go_wp2_with fail
  refine (largeB_any ⟨k', ns', ts'⟩ An' At' n' t' cn' ct' _ (HR0.out.2.below HS.out.bel)).mono ?_
  rintro e w3 ⟨rfl, hw2⟩
  have hB : Below w2.heap.size w2 w3 := by rw [hw2]; exact (Below.refl _ _).alloc (Nat.le_refl _) _
  have HS := Lib.hid (HS.out.step hB)
  clear hB hw2 y0 y1 y2
  by_cases hl : 1000 < n' ∨ 1000 < t'
  · rw [decide_eq_true hl]
    clear hl
    go_wp2_with fail
    go_ret
    exact ⟨rfl, HS.out.bel⟩
  rw [decide_eq_false hl]
  clear hl
  obtain ⟨y0, y1, y2⟩ := HC.out _ HS.out.h2
  cases hm : mayB ⟨k, ns, ts⟩
  · have HM := Lib.hid hm
    clear hm
    go_wp2_with fail
    refine (encode_no k ns ts An At n t cn ct _ (HR0.out.1.below HS.out.bel) HM.out).mono ?_
    rintro e w4 ⟨rfl, hB⟩
    have HS := Lib.hid (HS.out.step hB)
    clear hB y0 y1 y2
    obtain ⟨y0, y1, y2⟩ := HC'.out _ HS.out.hd
    go_wp2_with fail
    refine (encode_one k' ns' ts' An' At' n' t' cn' ct' _ (HR0.out.2.below HS.out.bel) HI'.out).mono ?_
    rintro e w5 ⟨v5, er, rfl, hB⟩
    have HB := Lib.hid (HS.out.step hB).bel
    clear hB y0 y1 y2
    go_wp2_with fail
    go_ret
    exact ⟨rfl, HB.out⟩
  have HM := Lib.hid hm
  clear hm
  go_wp2_with fail
  refine (encode_yes k ns ts An At n t cn ct _ (HR0.out.1.below HS.out.bel) HM.out HI.out).mono ?_
  rintro e w4 ⟨v4, rfl, hr⟩
  clear y0 y1 y2
  obtain ⟨l, hl⟩ : ∃ l, encB ⟨k, ns, ts⟩ = l := ⟨_, rfl⟩
  obtain ⟨m, hml⟩ : ∃ m, (encB ⟨k, ns, ts⟩).length = m := ⟨_, rfl⟩
  have hm0 : 2 ≤ m := by rw [← hml, encB_hd, List.length_append, List.length_append]; show 2 ≤ 2 + _ + _; omega
  have hlen : m ≤ 1162 := by rw [← hml]; exact enc_bound HM.out HI.out
  have HL := Lib.hid (And.intro hl hml)
  have HS := Lib.hid (HS.out.withRow hr hml)
  obtain ⟨A4, c4, rfl, _⟩ := hr.form
  rw [hml] at HS ⊢
  rw [hl] at HS
  clear hr hl hml
  obtain ⟨y0, y1, y2⟩ := HC'.out _ HS.out.h2
  cases hm : mayB ⟨k', ns', ts'⟩
  · have HM' := Lib.hid hm
    clear hm
    go_wp2_with fail
    refine (encode_no k' ns' ts' An' At' n' t' cn' ct' _ (HR0.out.2.below HS.out.bel) HM'.out).mono ?_
    rintro e w5 ⟨rfl, hB⟩
    have HB := Lib.hid (HS.out.step hB).bel
    clear hB y0 y1 y2
    go_wp2_with fail
    go_ret
    exact ⟨rfl, HB.out⟩
  have HM' := Lib.hid hm
  clear hm
  go_wp2_with fail
  refine (encode_yes k' ns' ts' An' At' n' t' cn' ct' _ (HR0.out.2.below HS.out.bel) HM'.out HI'.out).mono ?_
  rintro e w5 ⟨v5, rfl, hr⟩
  clear y0 y1 y2
  obtain ⟨l', hl⟩ : ∃ l, encB ⟨k', ns', ts'⟩ = l := ⟨_, rfl⟩
  obtain ⟨m', hml⟩ : ∃ m, (encB ⟨k', ns', ts'⟩).length = m := ⟨_, rfl⟩
  have hm0' : 2 ≤ m' := by rw [← hml, encB_hd, List.length_append, List.length_append]; show 2 ≤ 2 + _ + _; omega
  have hlen' : m' ≤ 1162 := by rw [← hml]; exact enc_bound HM'.out HI'.out
  have HL' := Lib.hid (And.intro hl hml)
  have HS := Lib.hid (HS.out.withRow hr hml)
  obtain ⟨A5, c5, rfl, _⟩ := hr.form
  rw [hml] at HS ⊢
  rw [hl] at HS
  clear hr hl hml
  obtain ⟨p, hp⟩ : ∃ p, min m m' = p := ⟨_, rfl⟩
  have HQ := Lib.hid (show ((⟨(l.take p).toArray⟩ : ByteArray) = ⟨(l'.take p).toArray⟩) ↔ (⟨k, ns, ts⟩ : Rec) = ⟨k', ns', ts'⟩ from
    str_inj.trans (by rw [← HL.out.1, ← HL'.out.1]; exact enc_apart HM.out HI.out HM'.out HI'.out (by rw [HL.out.2, HL'.out.2]; exact hp.symm)))
  have p1 : (1 : Int) < (p : Int) := by omega
  have hpm : p ≤ m := by omega
  have hpm' : p ≤ m' := by omega
  have hmin : (if m' < m then (m' : Int) else (m : Int)) = (p : Int) := by split <;> omega
  have hc4 := (Own.cap HS.out.h2).1
  have hc5 := (Own.cap HS.out.hd).1
  have q0 : (0 : Int) ≤ (p : Int) := by omega
  have q1 : (p : Int) ≤ (c4 : Int) := by omega
  have q2 : (p : Int) ≤ (c5 : Int) := by omega
  have HCV := Lib.hid (fun (w' : World) (hB : Below w5.heap.size w5 w') => And.intro
    (conv_str w' A4 c4 (l.take p) (by rw [Enc.take]; exact ((Own.rd HS.out.h2).take _).below hB) p (by rw [List.length_take, ← HL.out.1, HL.out.2]; omega))
    (conv_str w' A5 c5 (l'.take p) (by rw [Enc.take]; exact ((Own.rd HS.out.hd).take _).below hB) p (by rw [List.length_take, ← HL'.out.1, HL'.out.2]; omega)))
  generalize (⟨(l.take p).toArray⟩ : ByteArray) = s1 at *
  generalize (⟨(l'.take p).toArray⟩ : ByteArray) = s2 at *
  have HCS : Hid (∀ w', Below w5.heap.size w5 w' → w'.cell? ⟨g, 0, none⟩ = some (.int .i64 k) ∧ w'.cell? ⟨g, 1, none⟩ = some (.slice An n cn) ∧ w'.cell? ⟨g, 2, none⟩ = some (.slice At t ct) ∧ w'.cell? ⟨g + 1, 0, none⟩ = some (.int .i64 k') ∧ w'.cell? ⟨g + 1, 1, none⟩ = some (.slice An' n' cn') ∧ w'.cell? ⟨g + 1, 2, none⟩ = some (.slice At' t' ct') ∧ (convert 28 9 (.slice A4 p c4)).run Try.prog w' = .ok (.string s1) w' ∧ (convert 28 9 (.slice A5 p c5)).run Try.prog w' = .ok (.string s2) w') := Lib.hid (fun w' h => by
    obtain ⟨a, b, c⟩ := HC.out _ (HS.out.step h).h4
    obtain ⟨a', b', c'⟩ := HC'.out _ (HS.out.step h).h3
    exact ⟨a, b, c, a', b', c', (HCV.out w' h).1, (HCV.out w' h).2⟩)
  clear HCV HC HC' HL HL' HM HM' hp
  go_upto_region 10 with fail
  (try rw [hmin])
  clear hmin
  have p2 : IntKind.i64.wrap (p : Int) = (p : Int) := IntWalk.i64_in _ (by omega)
  refine wp_region_L (fun w' => w'.cell? ⟨g, 0, none⟩ = some (.int .i64 k) ∧ w'.cell? ⟨g, 1, none⟩ = some (.slice An n cn) ∧ w'.cell? ⟨g, 2, none⟩ = some (.slice At t ct) ∧ w'.cell? ⟨g + 1, 0, none⟩ = some (.int .i64 k') ∧ w'.cell? ⟨g + 1, 1, none⟩ = some (.slice An' n' cn') ∧ w'.cell? ⟨g + 1, 2, none⟩ = some (.slice At' t' ct') ∧ (convert 28 9 (.slice A4 p c4)).run Try.prog w' = .ok (.string s1) w' ∧ (convert 28 9 (.slice A5 p c5)).run Try.prog w' = .ok (.string s2) w') 18 (by kernel_rfl) (HCS.out _ (Below.drew (Below.refl _ _))) (fun hHeld => ?_)
  refine reg_take (i := 0) (d := 39) (v := ?_) [] rfl rfl (by kernel_rfl) (by kernel_rfl) (fun _ _ _ h => h) (Or.inl ⟨by rfl, ?_⟩) (by assumption) ?_
  rotate_left
  · (intro w hSw; (try dsimp only at hSw); go_simp; first | done | with_reducible rfl)
  try simp only [List.setIfInBounds_toArray, List.set_cons_zero, List.set_cons_succ]
  refine reg_take (i := 1) (d := 40) (v := ?_) [] rfl rfl (by kernel_rfl) (by kernel_rfl) (fun _ _ _ h => h) (Or.inl ⟨by rfl, ?_⟩) (by assumption) ?_
  rotate_left
  · (intro w hSw; (try dsimp only at hSw); go_simp; first | done | with_reducible rfl)
  try simp only [List.setIfInBounds_toArray, List.set_cons_zero, List.set_cons_succ]
  refine reg_take (i := 2) (d := 41) (v := ?_) [] rfl rfl (by kernel_rfl) (by kernel_rfl) (fun _ _ _ h => h) (Or.inl ⟨by rfl, ?_⟩) (by assumption) ?_
  rotate_left
  · (intro w hSw; (try dsimp only at hSw); go_simp; first | done | with_reducible rfl)
  try simp only [List.setIfInBounds_toArray, List.set_cons_zero, List.set_cons_succ]
  refine reg_take (i := 3) (d := 42) (v := ?_) [] rfl rfl (by kernel_rfl) (by kernel_rfl) (fun _ _ _ h => h) (Or.inl ⟨by rfl, ?_⟩) (by assumption) ?_
  rotate_left
  · (intro w hSw; (try dsimp only at hSw); go_simp; first | done | with_reducible rfl)
  try simp only [List.setIfInBounds_toArray, List.set_cons_zero, List.set_cons_succ]
  refine reg_take (i := 4) (d := 43) (v := ?_) [] rfl rfl (by kernel_rfl) (by kernel_rfl) (fun _ _ _ h => h) (Or.inl ⟨by rfl, ?_⟩) (by assumption) ?_
  rotate_left
  · (intro w hSw; (try dsimp only at hSw); go_simp; first | done | with_reducible rfl)
  try simp only [List.setIfInBounds_toArray, List.set_cons_zero, List.set_cons_succ]
  refine reg_take (i := 5) (d := 44) (v := ?_) [] rfl rfl (by kernel_rfl) (by kernel_rfl) (fun _ _ _ h => h) (Or.inl ⟨by rfl, ?_⟩) (by assumption) ?_
  rotate_left
  · (intro w hSw; (try dsimp only at hSw); go_simp; first | done | with_reducible rfl)
  try simp only [List.setIfInBounds_toArray, List.set_cons_zero, List.set_cons_succ]
  refine reg_take (i := 6) (d := 45) (v := ?_) [] rfl rfl (by kernel_rfl) (by kernel_rfl) (fun _ _ _ h => h) (Or.inl ⟨by rfl, ?_⟩) (by assumption) ?_
  rotate_left
  · (intro w hSw; (try dsimp only at hSw); go_simp; first | done | with_reducible rfl)
  try simp only [List.setIfInBounds_toArray, List.set_cons_zero, List.set_cons_succ]
  refine reg_take (i := 7) (d := 46) (v := ?_) [] rfl rfl (by kernel_rfl) (by kernel_rfl) (fun _ _ _ h => h) (Or.inl ⟨by rfl, ?_⟩) (by assumption) ?_
  rotate_left
  · (intro w hSw; (try dsimp only at hSw); go_simp; first | done | with_reducible rfl)
  try simp only [List.setIfInBounds_toArray, List.set_cons_zero, List.set_cons_succ]
  refine reg_take (i := 8) (d := 47) (v := ?_) [] rfl rfl (by kernel_rfl) (by kernel_rfl) (fun _ _ _ h => h) (Or.inl ⟨by rfl, ?_⟩) (by assumption) ?_
  rotate_left
  · (intro w hSw; (try dsimp only at hSw); go_simp; first | done | with_reducible rfl)
  try simp only [List.setIfInBounds_toArray, List.set_cons_zero, List.set_cons_succ]
  refine reg_take (i := 9) (d := 48) (v := ?_) [] rfl rfl (by kernel_rfl) (by kernel_rfl) (fun _ _ _ h => h) (Or.inl ⟨by rfl, ?_⟩) (by assumption) ?_
  rotate_left
  · (intro w hSw; (try dsimp only at hSw); go_simp; first | done | with_reducible rfl)
  try simp only [List.setIfInBounds_toArray, List.set_cons_zero, List.set_cons_succ]
  refine reg_take (i := 10) (d := 49) (v := ?_) [] rfl rfl (by kernel_rfl) (by kernel_rfl) (fun _ _ _ h => h) (Or.inl ⟨by rfl, ?_⟩) (by assumption) ?_
  rotate_left
  · (intro w hSw; (try dsimp only at hSw); go_simp; first | done | with_reducible rfl)
  try simp only [List.setIfInBounds_toArray, List.set_cons_zero, List.set_cons_succ]
  refine reg_take (i := 11) (d := 50) (v := ?_) [] rfl rfl (by kernel_rfl) (by kernel_rfl) (fun _ _ _ h => h) (Or.inl ⟨by rfl, ?_⟩) (by assumption) ?_
  rotate_left
  · (intro w hSw; (try dsimp only at hSw); go_simp; first | done | with_reducible rfl)
  try simp only [List.setIfInBounds_toArray, List.set_cons_zero, List.set_cons_succ]
  refine reg_take (i := 12) (d := 51) (v := ?_) [] rfl rfl (by kernel_rfl) (by kernel_rfl) (fun _ _ _ h => h) (Or.inl ⟨by rfl, ?_⟩) (by assumption) ?_
  rotate_left
  · (intro w hSw; (try dsimp only at hSw); go_simp; first | done | with_reducible rfl)
  try simp only [List.setIfInBounds_toArray, List.set_cons_zero, List.set_cons_succ]
  refine reg_take (i := 13) (d := 52) (v := ?_) [] rfl rfl (by kernel_rfl) (by kernel_rfl) (fun _ _ _ h => h) (Or.inl ⟨by rfl, ?_⟩) (by assumption) ?_
  rotate_left
  · (intro w hSw; (try dsimp only at hSw); go_simp; first | done | with_reducible rfl)
  try simp only [List.setIfInBounds_toArray, List.set_cons_zero, List.set_cons_succ]
  refine wpAnyL_ready (rs := [14]) (by kernel_rfl) rfl ?_
  refine (AllL.cons rfl (fun K hK => ?_) AllL.nil)
  go_simp
  go_at_call 21
  refine (same_any k k' ns ns' ts ts' An At An' At' n t cn ct n' t' cn' ct' _ (HR0.out.1.below HS.out.drew.bel) (HR0.out.2.below HS.out.drew.bel)).mono ?_
  rintro e4 w6 ⟨rfl, hB4⟩
  have HB4 := Lib.hid hB4
  clear hB4
  go_simp
  refine hK.out _ _ (HCS.out _ ((Below.drew (Below.refl _ _)).trans HB4.out)) (fun hHeld => ?_)
  try simp only [List.setIfInBounds_toArray, List.set_cons_zero, List.set_cons_succ]
  refine reg_take (i := 15) (d := 54) (v := ?_) [] rfl rfl (by kernel_rfl) (by kernel_rfl) (fun _ _ _ h => h) (Or.inl ⟨by rfl, ?_⟩) (by assumption) ?_
  rotate_left
  · (intro w hSw; (try dsimp only at hSw); go_simp; first | done | with_reducible rfl)
  try simp only [List.setIfInBounds_toArray, List.set_cons_zero, List.set_cons_succ]
  refine reg_take (i := 16) (d := 55) (v := ?_) [] rfl rfl (by kernel_rfl) (by kernel_rfl) (fun _ _ _ h => h) (Or.inl ⟨by rfl, ?_⟩) (by assumption) ?_
  rotate_left
  · (intro w hSw; (try dsimp only at hSw); go_simp; first | done | with_reducible rfl)
  try simp only [List.setIfInBounds_toArray, List.set_cons_zero, List.set_cons_succ]
  refine reg_take (i := 17) (d := 4) (v := ?_) [] rfl rfl (by kernel_rfl) (by kernel_rfl) (fun _ _ _ h => h) (Or.inl ⟨by rfl, ?_⟩) (by assumption) ?_
  rotate_left
  · (intro w hSw; (try dsimp only at hSw); go_simp; first | done | with_reducible rfl)
  try simp only [List.setIfInBounds_toArray, List.set_cons_zero, List.set_cons_succ]
  refine wpAnyL_done (by kernel_rfl) ?_ _
  go_wp2_with fail
  go_ret
  refine ⟨ret_bool ?_, (HS.out.drew.step HB4.out).bel⟩
  rw [str_beq]
  by_cases hq : (⟨k, ns, ts⟩ : Rec) = ⟨k', ns', ts'⟩
  · rw [decide_eq_true (HQ.out.2 hq), sameB_iff.2 hq]; rfl
  · rw [decide_eq_false (fun h => hq (HQ.out.1 h)), sameB_no hq]; rfl
end Go.Proofs.Ytkflnldjckahnaa
