/- The walk of package code's reader: a record. Conditions: sizes. -/
import Derived.Test.YtodjmeodcmbdoaaCodT
set_option linter.unusedVariables false
set_option linter.unusedSimpArgs false
namespace Go.Proofs.Ytodjmeodcmbdoaa
open Go.RowKit
abbrev tRec : TypeId := 72
abbrev tI : TypeId := 2
theorem Try.infoI : (Try.prog.info? tI).map (fun i => (i.zero, i.size, i.bytes)) = some (some (.int .i64 0), 1, 8) := by kernel_rfl
theorem Try.infoS : (Try.prog.info? tS).map (fun i => (i.zero, i.size, i.bytes)) = some (some (.string ByteArray.empty), 1, 16) := by kernel_rfl
section
variable {w W W0 W1 : World} {r : List Th} {e : TypeId} {sz n m g g4 B c : Nat} {v v1 : Value} {xs ys : List Value} {cs ds : Array Value} {l : List UInt8} {A : Option Addr}
theorem Rdr.sep (h : Rdr W g B l A c) (u : Below W.heap.size W W1) : Rdr W1 g B l A c ∨ l = [] := by
  by_cases hl : l = []
  · exact .inr hl
  · obtain ⟨o, rfl⟩ := h.at_ hl
    refine .inl ⟨h.blk.upd (Upd.of_below (S := fun _ => False) u) (fun h => h), h.rd.below u, h.cap, h.nil, h.at_, h.ne, h.big⟩
theorem Rdr.below (h : Rdr W g B l A c) (u : Below W.heap.size W W1) : Rdr W1 g B l A c :=
  h.upd (Upd.of_below (S := fun _ => False) u) (fun h => h) (fun h => h)
theorem Rdr.drewN (h : Rdr W g B l A c) (q : Nat) : Rdr (W.drewN q) g B l A c := h.below ⟨rfl, rfl, rfl, Nat.le_refl _, fun _ _ => rfl⟩
/-- The row has been appended to. -/
theorem out_app (h : Sep w W0 (tOwn e sz v n xs :: tBlk g cs tRd :: tBlk g4 ds tRec :: r)) (hR : Rdr W0 g B l A c) (hB : B < w.heap.size) (ho : Own W1 e sz v1 m ys) (hg : W0.grownBy W1 v.ownBlock) (hat : v1.ownBlock = v.ownBlock ∨ v1.ownBlock = some W0.heap.size) :
    Sep w W1 (tBlk g4 ds tRec :: tOwn e sz v1 m ys :: tBlk g cs tRd :: r) ∧ Rdr W1 g B l A c := by
  refine ⟨(h.app ho hg hat).r3, hR.upd (Upd.of_grown hg) (fun e => ?_) (fun e => ?_)⟩
  · exact h.ne (k := g) (show v.ownBlock = some g from e.symm) rfl
  · have := h.ge _ (List.mem_cons_self ..) B (show v.ownBlock = some B from e.symm)
    omega
/-- A cell of the record is written. -/
theorem out_set (h : Sep w W (tBlk g4 ds tRec :: tOwn e sz v n xs :: tBlk g cs tRd :: r)) (hR : Rdr W g B l A c) (hB : B < w.heap.size) (j : Nat) (u : Value) :
    Sep w (W.setCell ⟨g4, j, none⟩ u) (tBlk g cs tRd :: tBlk g4 (ds.setIfInBounds j u) tRec :: tOwn e sz v n xs :: r) ∧ Rdr (W.setCell ⟨g4, j, none⟩ u) g B l A c := by
  have hb : Blk W g4 ds tRec := h.hd
  have hu : Upd (fun k => k = g4) W (W.setCell ⟨g4, j, none⟩ u) := Upd.setCell (S := fun k => k = g4) (p := ⟨g4, j, none⟩) (Upd.refl _ W) (.inr rfl) _
  refine ⟨(h.opc (t' := tBlk g4 (ds.setIfInBounds j u) tRec) (hb.set j u) hu (fun k _ hk => hk) (fun k hk => .inl hk)).r3, hR.upd hu (fun e => ?_) (fun e => ?_)⟩
  · exact h.r3.sw.ne (k := g4) rfl e.symm
  · have := h.ge _ (List.mem_cons_self ..) g4 rfl
    omega
/-- The reader has taken something. -/
theorem Sep.reader {cs' : Array Value} (h : Sep w W (tBlk g cs tRd :: r)) (hb : Blk W1 g cs' tRd) (u : Upd (fun k => k = g) W W1) : Sep w W1 (tBlk g cs' tRd :: r) :=
  h.opc (t' := tBlk g cs' tRd) hb u (fun k _ hk => hk) (fun k hk => .inl hk)
end
theorem conv_str (w : World) (A : Option Addr) (c : Nat) (l : List UInt8) (h : Rd w A (eB.fl l)) (n : Nat) (hn : l.length = n) :
    (convert 75 9 (.slice A n c)).run Try.prog w = .ok (.string ⟨l.toArray⟩) w := by
  subst hn
  cases l with
  | nil =>
    show (convert 75 9 (.slice A 0 c)).run Try.prog w = .ok (.string ⟨#[]⟩) w
    rw [run_convert_bytes_string (P := Try.prog) w 75 9 5 A 0 c Try.underlying75 Try.underlying5 Try.underlying9]
    cases A <;> simp [Conv.bytesToString, loadCells]
    all_goals rfl
  | cons x l =>
    obtain ⟨b, o, e, hc⟩ := h (by simp [Enc.fl, eB])
    subst e
    exact run_convert_bytes_back (P := Try.prog) w 75 9 5 ⟨b, o, none⟩ c (x :: l) Try.underlying75 Try.underlying5 Try.underlying9 (fun j hj => by
      obtain ⟨b', o', e, u⟩ := h.byt j ((x :: l)[j]) (List.getElem?_eq_getElem hj)
      simp only [Option.some.injEq, Addr.mk.injEq, and_true] at e
      obtain ⟨rfl, rfl⟩ := e
      rw [show (⟨b, o, none⟩ : Addr).add j = ⟨b, o + j, none⟩ by unfold Addr.add; split <;> simp_all]
      exact u)
theorem rd_pre {W W1 : World} {g B c : Nat} {l : List UInt8} {A : Option Addr} (h : Rdr W g B l A c) (u : Upd (fun k => k = g) W W1) (n : Nat) : Rd W1 A (eB.fl (l.take n)) := by
  by_cases hl : l = []
  · subst hl; rw [List.take_nil]; exact Rd.nil _ _
  · obtain ⟨o, rfl⟩ := h.at_ hl
    rw [Enc.take]
    exact (h.rd.take _).upd u (fun a e => by cases e; exact h.ne)
theorem Sep.emptyRow {w W : World} {r : List Th} (h : Sep w W r) (e : TypeId) (sz : Nat) : Sep w W (tOwn e sz (.slice none 0 0) 0 [] :: r) :=
  h.new (t := tOwn e sz (.slice none 0 0) 0 []) (Below.refl _ _) (Own.nil _ _ _) (fun k hk => by
    have hk : (Value.slice none 0 0).ownBlock = some k := hk
    simp [Value.ownBlock] at hk)
theorem Sep.lost {w W W1 : World} {t : Th} {l : List Th} (h : Sep w W (t :: l)) (u : Upd t.fp W W1) : Sep w W1 l :=
  h.tail.other u (fun k _ hs => ⟨h.ge t (List.mem_cons_self ..) k hs, fun t' ht' => (List.pairwise_cons.1 h.ap).1 t' ht' k hs⟩)
theorem rdNs_none {l : List UInt8} (h : rdN 0 0 l = none) (n : Nat) : rdNs (n + 1) l = none := by simp only [rdNs, h]
theorem rdNs_some' {l l1 : List UInt8} {u : Nat} (h : rdN 0 0 l = some (u, l1)) (n : Nat) : rdNs (n + 1) l = (rdNs n l1).map (fun p => (unzig u :: p.1, p.2)) := by
  simp only [rdNs, h]
  cases rdNs n l1 <;> rfl
theorem rdTs_none {l : List UInt8} (h : rdT l = none) (n : Nat) : rdTs (n + 1) l = none := by simp only [rdTs, h]
theorem rdTs_some' {l l1 : List UInt8} {u : ByteArray} (h : rdT l = some (u, l1)) (n : Nat) : rdTs (n + 1) l = (rdTs n l1).map (fun p => (u :: p.1, p.2)) := by
  simp only [rdTs, h]
  cases rdTs n l1 <;> rfl
def RecPost (r : Option Rec) (w : World) (rr : List Th) (e : Ending) (W' : World) : Prop := match r with
  | some r => ∃ An At cn ct, e = .returned (recV r.kind An At r.nums.length r.texts.length cn ct) ∧ Sep w W' (tOwn tI 1 (.slice An r.nums.length cn) r.nums.length (eI64.fl r.nums) :: tOwn tS 1 (.slice At r.texts.length ct) r.texts.length (eStr.fl r.texts) :: rr)
  | none => e = .panicked badC ∧ Sep w W' rr
theorem rec_short {w W : World} {rr : List Th} {g B : Nat} {l : List UInt8} {A : Option Addr} {c : Nat} (h : Sep w W (tBlk g #[.slice A l.length c] tRd :: rr)) (hR : Rdr W g B l A c) (hl : l.length < 2) :
    Calls Try.prog 42 #[.pointer (some ⟨g, 0, none⟩)] W (RecPost (decB l) w rr) := by
  have HS := Lib.hid (h.tail.newBlk #[.int .i64 0, .slice none 0 0, .slice none 0 0] tRec (g := W.heap.size) rfl)
  have HR := Lib.hid (hR.below ((Below.refl _ _).alloc (Nat.le_refl _) (.cells #[.int .i64 0, .slice none 0 0, .slice none 0 0] tRec)))
  have HD := Lib.hid (show decB l = none by rcases l with _ | ⟨a, _ | ⟨b, l⟩⟩ <;> first | rfl | (simp at hl; omega))
  have HL := Lib.hid hl
  clear h hR hl
  go_enter Try.func42, Try.ntmps42
  go_wp2_with (go_at_call 50; refine (take_no g B l A c 2 _ HR.out HL.out).mono ?_; rintro e w2 ⟨rfl, rfl⟩)
  refine ⟨rfl, ?_⟩
  rw [HD.out]
  exact ⟨rfl, HS.out.tail⟩
theorem or_cases {p q : Prop} (h : p ∨ q) {r : Prop} (a : p → r) (b : q → r) : r := h.elim a b
set_option maxRecDepth 100000 in
set_option maxHeartbeats 4000000 in
theorem rec_long {w W : World} {rr : List Th} {g B : Nat} {x h : UInt8} {l : List UInt8} {A : Option Addr} {c : Nat} (hs : Sep w W (tBlk g #[.slice A (l.length + 2) c] tRd :: rr)) (hR : Rdr W g B (x :: h :: l) A c) (hB : B < w.heap.size) :
    Calls Try.prog 42 #[.pointer (some ⟨g, 0, none⟩)] W (RecPost (decB (x :: h :: l)) w rr) := by
  obtain ⟨g2, hg2⟩ : ∃ k, W.heap.size = k := ⟨_, rfl⟩
  have HW := Lib.hid hg2
  have HS := Lib.hid (hs.newBlk #[.int .i64 0, .slice none 0 0, .slice none 0 0] tRec (g := g2) hg2)
  have HR := Lib.hid (hR.below ((Below.refl _ _).alloc (Nat.le_refl _) (.cells #[.int .i64 0, .slice none 0 0, .slice none 0 0] tRec)))
  obtain ⟨o0, hA0⟩ := hR.at_ (by simp)
  subst hA0
  obtain ⟨b, o, hA, u0⟩ := HR.out.rd.byt 0 x rfl
  simp only [Option.some.injEq, Addr.mk.injEq, and_true] at hA
  obtain ⟨rfl, rfl⟩ := hA
  obtain ⟨b, o, hA, u1⟩ := HR.out.rd.byt 1 h rfl
  simp only [Option.some.injEq, Addr.mk.injEq, and_true] at hA
  obtain ⟨rfl, rfl⟩ := hA
  simp only [Nat.add_zero] at u0
  have hx := x.toNat_lt
  have hh := h.toNat_lt
  have hne := hR.ne
  obtain ⟨X, hX⟩ : ∃ X, x.toNat = X := ⟨_, rfl⟩
  obtain ⟨H, hH⟩ : ∃ X, h.toNat = X := ⟨_, rfl⟩
  have HX := Lib.hid hX; have HH := Lib.hid hH; have HB := Lib.hid hB; have HNE := Lib.hid hne
  have HD := Lib.hid (show decB (x :: h :: l) = (if 4 < hT H then none else match rdNs (hN H) l with
    | none => none
    | some (ns, l1) => match rdTs (hT H) l1 with
      | none => none
      | some (ts, l2) => if l2 = [] then some ⟨X, ns, ts⟩ else none) by rw [← hH, ← hX]; rfl)
  rw [hX] at u0 hx
  rw [hH] at u1 hh
  clear hX hH hs hR hB hg2
  generalize hy : (x :: h :: l) = y at *
  have HY := Lib.hid hy
  have v0 : ∀ w2, Upd (fun k => k = g) (W.alloc (.cells #[.int .i64 0, .slice none 0 0, .slice none 0 0] tRec)) w2 → w2.cell? ⟨B, o0, none⟩ = some (.int .u8 (X : Int)) ∧ w2.cell? ⟨B, o0 + 1, none⟩ = some (.int .u8 (H : Int)) := fun w2 h2 => ⟨h2.cell u0 hne, h2.cell u1 hne⟩
  have HV := Lib.hid v0
  clear v0 u0 u1 hne hy
  go_enter Try.func42, Try.ntmps42
  go_upto_region 2 with (go_at_call 50; refine (take_yes g B y _ c 2 _ HR.out (by rw [← HY.out]; simp)).mono ?_; rintro e w2 ⟨rfl, A2, c2, hr2, hu2⟩; have HR2 := Lib.hid hr2; have HU2 := Lib.hid hu2; clear hr2 hu2)
  rw [HW.out]
  have HR3 := Lib.hid (show Rdr w2 g B l A2 c2 by have h := HR2.out; rw [← HY.out] at h; exact h)
  have HS2 := Lib.hid (HS.out.sw.reader HR3.out.blk HU2.out)
  obtain ⟨u0, u1⟩ := HV.out w2 HU2.out
  obtain ⟨g4, hg4⟩ : ∃ k, w2.heap.size = k := ⟨_, rfl⟩
  have HS4 := Lib.hid (HS2.out.newBlk #[.int .i64 (X : Int), .slice none 0 0, .slice none 0 0] tRec hg4)
  have HR4 := Lib.hid (HR3.out.below ((Below.refl _ _).alloc (Nat.le_refl _) (.cells #[.int .i64 (X : Int), .slice none 0 0, .slice none 0 0] tRec)))
  have HU := Lib.hid (show (w2.alloc (.cells #[.int .i64 (X : Int), .slice none 0 0, .slice none 0 0] tRec)).cell? ⟨B, o0 + 1, none⟩ = some (.int .u8 (H : Int)) from (Upd.alloc (Upd.refl (fun _ => False) w2) _).cell u1 (fun h => h))
  clear HV HR HR2 HU2 HS HY HR3 HS2 u1
  have HW2 := Lib.hid hg4
  clear hg4
  go_upto_region 3 with fail
  rw [HW2.out]
  generalize (w2.alloc (.cells #[.int .i64 (X : Int), .slice none 0 0, .slice none 0 0] tRec)) = w3 at *
  have HM := Lib.hid (show hN H = if 240 ≤ H then 16 else H % 16 from rfl); have HN := Lib.hid (show hT H = if 240 ≤ H then H - 240 else H / 16 from rfl)
  have u1 := HU.out
  go_quiet (fail)
  generalize hq : w3.drewN nq = w4 at *
  replace u1 : w4.cell? ⟨B, o0 + 1, none⟩ = some (.int .u8 (H : Int)) := by rw [← hq]; exact HU.out
  have HS5 := Lib.hid (show Sep w w4 _ by rw [← hq]; exact HS4.out.drewN _)
  have HR5 := Lib.hid (show Rdr w4 g B l A2 c2 by rw [← hq]; exact HR4.out.upd (Upd.of_below (S := fun _ => False) ⟨rfl, rfl, rfl, Nat.le_refl _, fun _ _ => rfl⟩) (fun h => h) (fun h => h))
  clear hq HU HS4 HR4
  go_upto_if 28 with fail
  go_cut [5, 6] from 29 to 33 (fun s5 s6 wx => s5 = .int .i64 (hN H : Nat) ∧ s6 = .int .i64 (hT H : Nat) ∧ Sep w wx (tBlk g4 #[.int .i64 (X : Int), .slice none 0 0, .slice none 0 0] tRec :: tBlk g #[.slice A2 l.length c2] tRd :: tBlk g2 #[.int .i64 0, .slice none 0 0, .slice none 0 0] tRec :: rr) ∧ Rdr wx g B l A2 c2)
  case first =>
    by_cases h240 : 240 ≤ H
    · have k1 : (240 : Int) ≤ (H : Int) := by omega
      have k3 : (H : Int) - 240 < 256 := by omega
      have k4 : IntKind.u8.wrap ((H : Int) - 240) = (H : Int) - 240 := IntWalk.u8_in _ (by omega)
      have HK := Lib.hid h240
      clear h240
      go_wp2_with fail
      go_quiet (fail)
      go_wp2_with fail
      go_meet
      exact ⟨congrArg (Value.int .i64) (by rw [HM.out, if_pos HK.out]; rfl), congrArg (Value.int .i64) (by rw [HN.out, if_pos HK.out]; have := HK.out; omega), HS5.out.drewN _, HR5.out.drewN _⟩
    · have k1 : ¬ (240 : Int) ≤ (H : Int) := by omega
      have HK := Lib.hid h240
      clear h240
      go_wp2_with fail
      go_meet
      exact ⟨congrArg (Value.int .i64) (by rw [HM.out, if_neg HK.out]; omega), congrArg (Value.int .i64) (by rw [HN.out, if_neg HK.out]; omega), HS5.out, HR5.out⟩
  case rest =>
  obtain ⟨rfl, rfl, hS, hR⟩ := hcut
  have hn16 : hN H ≤ 16 := by rw [HM.out]; split <;> omega
  clear HM HN HS5 HR5 u0 u1
  have HS := Lib.hid hS; have HR := Lib.hid hR
  clear hS hR
  generalize hN H = N at *
  generalize hT H = T at *
  by_cases h4 : 4 < T
  · have k1 : (4 : Int) < (T : Int) := by omega
    have HP := Lib.hid (show decB y = none by rw [HD.out, if_pos h4])
    clear h4
    go_wp2
    refine ⟨rfl, ?_⟩
    rw [HP.out]
    exact ⟨rfl, HS.out.tail.tail.tail⟩
  have k1 : ¬ (4 : Int) < (T : Int) := by omega
  have k2 : decide ((4 : Int) < (T : Int)) = false := by simp; omega
  have h := HD.out
  rw [if_neg h4] at h
  have HD := Lib.hid h
  clear h
  go_wp2_with fail
  go_loopg [39] N (fun gk s39 wr => ∃ (k : Nat) (ns : List Int) (l' : List UInt8) (A' Av : Option Addr) (c' cv : Nat), s39 = .int .i64 (k : Int) ∧ k ≤ N ∧ gk = N - k ∧ rdNs N l = (rdNs (N - k) l').map (fun p => (ns ++ p.1, p.2)) ∧ Sep w wr (tBlk g #[.slice A' l'.length c'] tRd :: tBlk g4 #[.int .i64 (X : Int), .slice Av k cv, .slice none 0 0] tRec :: tOwn tI 1 (.slice Av k cv) k (eI64.fl ns) :: tBlk g2 #[.int .i64 0, .slice none 0 0, .slice none 0 0] tRec :: rr) ∧ Rdr wr g B l' A' c' ∧ ns.length = k)
  case atStart => exact ⟨0, [], l, A2, none, c2, 0, rfl, by omega, rfl, by rw [Nat.sub_zero]; cases rdNs N l <;> rfl, (HS.out.emptyRow tI 1).sw.r3, HR.out, rfl⟩
  case round =>
  clear HS HR
  obtain ⟨k, ns, l', A', Av, c', cv, rfl, hk, hgk, hrd, hs, hr, hns⟩ := hrel
  have HS := Lib.hid hs; have HR := Lib.hid (hr.drewN 1); have HR0 := Lib.hid hr; have HRD := Lib.hid hrd; have HNS := Lib.hid hns
  clear hs hr hrd hns
  by_cases hkn : k < N
  · have e1 : (k : Int) < (N : Int) := by omega
    have HC : Hid (∀ w', Blk w' g4 #[.int .i64 (X : Int), .slice Av k cv, .slice none 0 0] tRec → w'.cell? ⟨g4, 1, none⟩ = some (.slice Av k cv)) := Lib.hid (fun w' h => h.cell 1)
    obtain ⟨m, hm⟩ : ∃ m, N - k = m + 1 := ⟨N - k - 1, by omega⟩
    rw [hm] at HRD
    have HMM := Lib.hid hm
    clear hm
    cases hrn : rdN 0 0 l' with
    | none =>
      have HP := Lib.hid (show decB y = none by rw [HD.out, HRD.out, rdNs_none hrn]; rfl)
      have HRN := Lib.hid hrn
      clear hrn
      go_upto_region 10 with fail
      refine wp_region_L (fun w' => w'.cell? ⟨g4, 1, none⟩ = some (.slice Av k cv)) 7 (by kernel_rfl) (HC.out _ (HS.out.drewN 1).h2) (fun hHeld => ?_)
      refine reg_take (i := 0) (d := 41) (v := ?_) [] rfl rfl (by kernel_rfl) (by kernel_rfl) (fun _ _ _ h => h) (Or.inl ⟨by rfl, ?_⟩) (by assumption) ?_
      rotate_left
      · (intro w hSw; (try dsimp only at hSw); go_simp; first | done | with_reducible rfl)
      try simp only [List.setIfInBounds_toArray, List.set_cons_zero, List.set_cons_succ]
      refine reg_take (i := 1) (d := 42) (v := ?_) [] rfl rfl (by kernel_rfl) (by kernel_rfl) (fun _ _ _ h => h) (Or.inl ⟨by rfl, ?_⟩) (by assumption) ?_
      rotate_left
      · (intro w hSw; (try dsimp only at hSw); go_simp; first | done | with_reducible rfl)
      try simp only [List.setIfInBounds_toArray, List.set_cons_zero, List.set_cons_succ]
      refine reg_take (i := 2) (d := 43) (v := ?_) [] rfl rfl (by kernel_rfl) (by kernel_rfl) (fun _ _ _ h => h) (Or.inl ⟨by rfl, ?_⟩) (by assumption) ?_
      rotate_left
      · (intro w hSw; (try dsimp only at hSw); go_simp; first | done | with_reducible rfl)
      try simp only [List.setIfInBounds_toArray, List.set_cons_zero, List.set_cons_succ]
      refine wpAnyL_ready (rs := [3]) (by kernel_rfl) rfl ?_
      refine (AllL.cons rfl (fun K hK => ?_) AllL.nil)
      go_simp
      go_at_call 51
      refine (rnum_any g B l' A' c' _ HR.out).mono ?_
      rw [HRN.out]
      rintro e1 w2 ⟨rfl, hu2⟩
      go_wp2
      refine ⟨rfl, ?_⟩
      rw [HP.out]
      exact ⟨rfl, ((HS.out.drewN 1).lost hu2).tail.tail.tail⟩
    | some ul =>
      obtain ⟨u, l1⟩ := ul
      have HRN := Lib.hid hrn
      have hbn : (k + 1) * 8 ≤ 140737488355328 := by omega
      have HBN := Lib.hid hbn
      clear hrn hbn
      go_upto_region 10 with fail
      refine wp_region_L (fun w' => w'.cell? ⟨g4, 1, none⟩ = some (.slice Av k cv)) 7 (by kernel_rfl) (HC.out _ (HS.out.drewN 1).h2) (fun hHeld => ?_)
      refine reg_take (i := 0) (d := 41) (v := ?_) [] rfl rfl (by kernel_rfl) (by kernel_rfl) (fun _ _ _ h => h) (Or.inl ⟨by rfl, ?_⟩) (by assumption) ?_
      rotate_left
      · (intro w hSw; (try dsimp only at hSw); go_simp; first | done | with_reducible rfl)
      try simp only [List.setIfInBounds_toArray, List.set_cons_zero, List.set_cons_succ]
      refine reg_take (i := 1) (d := 42) (v := ?_) [] rfl rfl (by kernel_rfl) (by kernel_rfl) (fun _ _ _ h => h) (Or.inl ⟨by rfl, ?_⟩) (by assumption) ?_
      rotate_left
      · (intro w hSw; (try dsimp only at hSw); go_simp; first | done | with_reducible rfl)
      try simp only [List.setIfInBounds_toArray, List.set_cons_zero, List.set_cons_succ]
      refine reg_take (i := 2) (d := 43) (v := ?_) [] rfl rfl (by kernel_rfl) (by kernel_rfl) (fun _ _ _ h => h) (Or.inl ⟨by rfl, ?_⟩) (by assumption) ?_
      rotate_left
      · (intro w hSw; (try dsimp only at hSw); go_simp; first | done | with_reducible rfl)
      try simp only [List.setIfInBounds_toArray, List.set_cons_zero, List.set_cons_succ]
      refine wpAnyL_ready (rs := [3]) (by kernel_rfl) rfl ?_
      refine (AllL.cons rfl (fun K hK => ?_) AllL.nil)
      go_simp
      go_at_call 51
      refine (rnum_any g B l' A' c' _ HR.out).mono ?_
      rw [HRN.out]
      rintro e1 w2 ⟨rfl, A3, c3, hr3, hu3⟩
      have HQ := Lib.hid (((HS.out.drewN 1).reader hr3.blk hu3).r3)
      have HR3 := Lib.hid hr3
      clear hr3 hu3
      go_simp
      refine hK.out _ _ (HC.out _ HQ.out.h3) (fun hHeld => ?_)
      try simp only [List.setIfInBounds_toArray, List.set_cons_zero, List.set_cons_succ]
      refine wpAnyL_ready (rs := [4]) (by kernel_rfl) rfl ?_
      refine (AllL.cons rfl (fun K hK => ?_) AllL.nil)
      go_simp
      have HX := Lib.hid (Blk.new w2 #[.int .i64 (unzig u)] tI)
      have HQ := Lib.hid (HQ.out.alloc (.cells #[.int .i64 (unzig u)] tI))
      have HR4 := Lib.hid (HR3.out.below ((Below.refl _ _).alloc (Nat.le_refl _) (.cells #[.int .i64 (unzig u)] tI)))
      refine hK.out _ _ (HC.out _ HQ.out.h3) (fun hHeld => ?_)
      try simp only [List.setIfInBounds_toArray, List.set_cons_zero, List.set_cons_succ]
      refine wpAnyL_ready (rs := [5]) (by kernel_rfl) rfl ?_
      refine (AllL.cons rfl (fun K hK => ?_) AllL.nil)
      refine stepA 70 tI (.int .i64 0) 1 8 [.int .i64 (unzig u)] 1 HQ.out.own HBN.out Try.underlying70 Try.infoI rfl (by decide) (by decide) rfl (by intro u hu; simp only [List.mem_singleton] at hu; subst hu; rfl) _ _ (show Rd _ (some ⟨_, 0, none⟩) _ from HX.out.rd) (fun e => nomatch e) (.tmp 42) (.tmp 45) rfl rfl rfl rfl ?_
      intro v1 w1 ho1 hg1 hat1
      obtain ⟨A5, c5, rfl, _⟩ := ho1.form
      have HO := Lib.hid (out_app HQ.out HR4.out HB.out ho1 hg1 hat1)
      clear ho1 hg1 hat1
      refine hK.out _ _ (HC.out _ HO.out.1.hd) (fun hHeld => ?_)
      try simp only [List.setIfInBounds_toArray, List.set_cons_zero, List.set_cons_succ]
      refine reg_take (i := 6) (d := 47) (v := ?_) [] rfl rfl (by kernel_rfl) (by kernel_rfl) (fun _ _ _ h => h) (Or.inl ⟨by rfl, ?_⟩) (by assumption) ?_
      rotate_left
      · (intro w hSw; (try dsimp only at hSw); go_simp; first | done | with_reducible rfl)
      try simp only [List.setIfInBounds_toArray, List.set_cons_zero, List.set_cons_succ]
      refine wpAnyL_ready (rs := [7]) (by kernel_rfl) rfl ?_
      refine (AllL.consJ rfl (by kernel_rfl) (fun K hK => ?_) AllL.nil)
      have z9 := (show Blk _ g4 _ _ from HO.out.1.hd).cell 1
      have fz := (show Blk _ g4 _ _ from HO.out.1.hd).frozen 1
      simp at z9
      go_simp
      refine hK.out _ _ ?_
      try simp only [List.setIfInBounds_toArray, List.set_cons_zero, List.set_cons_succ]
      refine wpAnyL_done (by kernel_rfl) ?_ _
      go_wp2_with fail
      go_roundg (N - (k + 1))
      case measure => have := HMM.out; omega
      case rel =>
        have HF := out_set HO.out.1 HO.out.2 HB.out 1 (.slice A5 (k + 1) c5)
        rw [show [Value.int .i64 (unzig u)] = eI64.f (unzig u) from rfl, ← Enc.snoc] at HF
        refine ⟨k + 1, ns ++ [unzig u], l1, A3, A5, c3, c5, by push_cast; rfl, by have := HMM.out; omega, rfl, ?_, HF.1, HF.2, by rw [List.length_append, HNS.out]; rfl⟩
        rw [HRD.out, rdNs_some' HRN.out, show N - (k + 1) = m by have := HMM.out; omega]
        cases rdNs m l1 <;> simp
  · have e1 : ¬ (k : Int) < (N : Int) := by omega
    have e2 : decide ((k : Int) < (N : Int)) = false := by simp; omega
    have h := HRD.out
    rw [show N - k = 0 by omega] at h
    simp only [rdNs, Option.map_some, List.append_nil] at h
    have hd := HD.out
    rw [h] at hd
    simp only at hd
    have HD := Lib.hid hd
    have HNK := Lib.hid (show k = N by omega)
    clear h hd HRD
    have ht4 : T ≤ 4 := by omega
    have HT4 := Lib.hid ht4
    go_wp2_with fail
    go_loopg [7, 50] T (fun gk s7 s50 wr => ∃ (k' : Nat) (ts : List ByteArray) (l'' : List UInt8) (A'' At : Option Addr) (c'' ct : Nat) (v7 : Value), v7 = s7 ∧ s50 = .int .i64 (k' : Int) ∧ k' ≤ T ∧ gk = T - k' ∧ rdTs T l' = (rdTs (T - k') l'').map (fun p => (ts ++ p.1, p.2)) ∧ Sep w wr (tBlk g #[.slice A'' l''.length c''] tRd :: tBlk g4 #[.int .i64 (X : Int), .slice Av k cv, .slice At k' ct] tRec :: tOwn tS 1 (.slice At k' ct) k' (eStr.fl ts) :: tOwn tI 1 (.slice Av k cv) k (eI64.fl ns) :: tBlk g2 #[.int .i64 0, .slice none 0 0, .slice none 0 0] tRec :: rr) ∧ Rdr wr g B l'' A'' c'' ∧ ts.length = k')
    case atStart => exact ⟨0, [], l', A', none, c', 0, _, rfl, rfl, by omega, rfl, by rw [Nat.sub_zero]; cases rdTs T l' <;> rfl, (HS.out.emptyRow tS 1).r3', HR0.out, rfl⟩
    case round =>
    clear HS HR HR0 ht4
    obtain ⟨k', ts, l'', A'', At, c'', ct, v7, rfl, rfl, hk, hgk, hrd, hs, hr, hts⟩ := hrel
    have HS := Lib.hid hs; have HR := Lib.hid hr; have HRD := Lib.hid hrd; have HTS := Lib.hid hts
    clear hs hr hrd hts
    by_cases hkn : k' < T
    · have j1 : (k' : Int) < (T : Int) := by omega
      obtain ⟨m, hm⟩ : ∃ m, T - k' = m + 1 := ⟨T - k' - 1, by omega⟩
      rw [hm] at HRD
      have HMM := Lib.hid hm
      clear hm
      rcases l'' with _ | ⟨y1, l2⟩
      · have HP := Lib.hid (show decB y = none by rw [HD.out, HRD.out, rdTs_none rfl]; rfl)
        go_wp2_with fail
        refine (take_no g B [] A'' c'' 1 wr HR.out (by decide)).mono ?_
        rintro e w2 ⟨rfl, rfl⟩
        go_wp2
        refine ⟨rfl, ?_⟩
        rw [HP.out]
        exact ⟨rfl, HS.out.tail.tail.tail.tail.tail⟩
      · obtain ⟨o9, hA9⟩ := HR.out.at_ (by simp)
        subst hA9
        obtain ⟨b, o, hA, u0⟩ := HR.out.rd.byt 0 y1 rfl
        simp only [Option.some.injEq, Addr.mk.injEq, and_true] at hA
        obtain ⟨rfl, rfl⟩ := hA
        simp only [Nat.add_zero] at u0
        have hy := y1.toNat_lt
        have HYT := Lib.hid (show rdT (y1 :: l2) = if 200 < y1.toNat ∨ l2.length < y1.toNat then none else some (⟨(l2.take y1.toNat).toArray⟩, l2.drop y1.toNat) from rfl)
        generalize y1.toNat = Y at *
        go_wp2_with fail
        refine (take_yes g B (y1 :: l2) _ c'' 1 wr HR.out (by simp)).mono ?_
        rintro e w2 ⟨rfl, A2, c2, hr2, hu2⟩
        have u1 := hu2.cell u0 HNE.out
        have HS2 := Lib.hid (HS.out.reader hr2.blk hu2)
        have HR2 := Lib.hid (show Rdr w2 g B l2 A2 c2 from hr2)
        clear hr2 hu2 u0 HS HR
        by_cases h200 : 200 < Y
        · have j2 : (200 : Int) < (Y : Int) := by omega
          have HP := Lib.hid (show decB y = none by rw [HD.out, HRD.out, rdTs_none (by rw [HYT.out, if_pos (.inl h200)])]; rfl)
          clear h200
          go_wp2
          refine ⟨rfl, ?_⟩
          rw [HP.out]
          exact ⟨rfl, HS2.out.tail.tail.tail.tail.tail⟩
        have j2 : ¬ (200 : Int) < (Y : Int) := by omega
        have j3 : decide ((200 : Int) < (Y : Int)) = false := by simp; omega
        have HC : Hid (∀ w', Blk w' g4 #[.int .i64 (X : Int), .slice Av k cv, .slice At k' ct] tRec → w'.cell? ⟨g4, 2, none⟩ = some (.slice At k' ct)) := Lib.hid (fun w' h => h.cell 2)
        by_cases hle : l2.length < Y
        · have HP := Lib.hid (show decB y = none by rw [HD.out, HRD.out, rdTs_none (by rw [HYT.out, if_pos (.inr hle)])]; rfl)
          have HLE := Lib.hid hle
          clear h200 hle
          go_upto_region 17 with fail
          refine wp_region_L (fun w' => w'.cell? ⟨g4, 2, none⟩ = some (.slice At k' ct)) 9 (by kernel_rfl) (HC.out _ (HS2.out.drewN 1).h2) (fun hHeld => ?_)
          refine reg_take (i := 0) (d := 61) (v := ?_) [] rfl rfl (by kernel_rfl) (by kernel_rfl) (fun _ _ _ h => h) (Or.inl ⟨by rfl, ?_⟩) (by assumption) ?_
          rotate_left
          · (intro w hSw; (try dsimp only at hSw); go_simp; first | done | with_reducible rfl)
          try simp only [List.setIfInBounds_toArray, List.set_cons_zero, List.set_cons_succ]
          refine reg_take (i := 1) (d := 62) (v := ?_) [] rfl rfl (by kernel_rfl) (by kernel_rfl) (fun _ _ _ h => h) (Or.inl ⟨by rfl, ?_⟩) (by assumption) ?_
          rotate_left
          · (intro w hSw; (try dsimp only at hSw); go_simp; first | done | with_reducible rfl)
          try simp only [List.setIfInBounds_toArray, List.set_cons_zero, List.set_cons_succ]
          refine reg_take (i := 2) (d := 63) (v := ?_) [] rfl rfl (by kernel_rfl) (by kernel_rfl) (fun _ _ _ h => h) (Or.inl ⟨by rfl, ?_⟩) (by assumption) ?_
          rotate_left
          · (intro w hSw; (try dsimp only at hSw); go_simp; first | done | with_reducible rfl)
          try simp only [List.setIfInBounds_toArray, List.set_cons_zero, List.set_cons_succ]
          refine reg_take (i := 3) (d := 64) (v := ?_) [] rfl rfl (by kernel_rfl) (by kernel_rfl) (fun _ _ _ h => h) (Or.inl ⟨by rfl, ?_⟩) (by assumption) ?_
          rotate_left
          · (intro w hSw; (try dsimp only at hSw); go_simp; first | done | with_reducible rfl)
          try simp only [List.setIfInBounds_toArray, List.set_cons_zero, List.set_cons_succ]
          refine wpAnyL_ready (rs := [4]) (by kernel_rfl) rfl ?_
          refine (AllL.cons rfl (fun K hK => ?_) AllL.nil)
          go_simp
          go_at_call 50
          refine (take_no g B l2 A2 c2 Y _ (HR2.out.drewN 1) HLE.out).mono ?_
          rintro e1 w3 ⟨rfl, rfl⟩
          go_wp2
          refine ⟨rfl, ?_⟩
          rw [HP.out]
          exact ⟨rfl, (HS2.out.drewN 1).tail.tail.tail.tail.tail⟩
        · have HST := Lib.hid (rdTs_some' (show rdT (y1 :: l2) = some _ by rw [HYT.out, if_neg (by omega)]))
          have HLE := Lib.hid (show Y ≤ l2.length by omega)
          have HBN := Lib.hid (show (k' + 1) * 16 ≤ 140737488355328 by omega)
          obtain ⟨z, hz⟩ : ∃ z : ByteArray, ⟨(l2.take Y).toArray⟩ = z := ⟨_, rfl⟩
          have HZ := Lib.hid hz
          clear h200 hle hz
          go_upto_region 17 with fail
          refine wp_region_L (fun w' => w'.cell? ⟨g4, 2, none⟩ = some (.slice At k' ct)) 9 (by kernel_rfl) (HC.out _ (HS2.out.drewN 1).h2) (fun hHeld => ?_)
          refine reg_take (i := 0) (d := 61) (v := ?_) [] rfl rfl (by kernel_rfl) (by kernel_rfl) (fun _ _ _ h => h) (Or.inl ⟨by rfl, ?_⟩) (by assumption) ?_
          rotate_left
          · (intro w hSw; (try dsimp only at hSw); go_simp; first | done | with_reducible rfl)
          try simp only [List.setIfInBounds_toArray, List.set_cons_zero, List.set_cons_succ]
          refine reg_take (i := 1) (d := 62) (v := ?_) [] rfl rfl (by kernel_rfl) (by kernel_rfl) (fun _ _ _ h => h) (Or.inl ⟨by rfl, ?_⟩) (by assumption) ?_
          rotate_left
          · (intro w hSw; (try dsimp only at hSw); go_simp; first | done | with_reducible rfl)
          try simp only [List.setIfInBounds_toArray, List.set_cons_zero, List.set_cons_succ]
          refine reg_take (i := 2) (d := 63) (v := ?_) [] rfl rfl (by kernel_rfl) (by kernel_rfl) (fun _ _ _ h => h) (Or.inl ⟨by rfl, ?_⟩) (by assumption) ?_
          rotate_left
          · (intro w hSw; (try dsimp only at hSw); go_simp; first | done | with_reducible rfl)
          try simp only [List.setIfInBounds_toArray, List.set_cons_zero, List.set_cons_succ]
          refine reg_take (i := 3) (d := 64) (v := ?_) [] rfl rfl (by kernel_rfl) (by kernel_rfl) (fun _ _ _ h => h) (Or.inl ⟨by rfl, ?_⟩) (by assumption) ?_
          rotate_left
          · (intro w hSw; (try dsimp only at hSw); go_simp; first | done | with_reducible rfl)
          try simp only [List.setIfInBounds_toArray, List.set_cons_zero, List.set_cons_succ]
          refine wpAnyL_ready (rs := [4]) (by kernel_rfl) rfl ?_
          refine (AllL.cons rfl (fun K hK => ?_) AllL.nil)
          go_simp
          go_at_call 50
          refine (take_yes g B l2 A2 c2 Y _ (HR2.out.drewN 1) HLE.out).mono ?_
          rintro e1 w3 ⟨rfl, A3, c3, hr3, hu3⟩
          have HQ := Lib.hid (((HS2.out.drewN 1).reader hr3.blk hu3).r3)
          have HR3 := Lib.hid hr3
          have hcv := conv_str w3 A2 c2 (l2.take Y) (rd_pre (HR2.out.drewN 1) hu3 Y) Y (by rw [List.length_take]; have := HLE.out; omega)
          rw [HZ.out] at hcv
          clear hr3 hu3
          go_simp
          refine hK.out _ _ (HC.out _ HQ.out.h3) (fun hHeld => ?_)
          try simp only [List.setIfInBounds_toArray, List.set_cons_zero, List.set_cons_succ]
          refine wpAnyL_ready (rs := [5]) (by kernel_rfl) rfl ?_
          refine (AllL.cons rfl (fun K hK => ?_) AllL.nil)
          go_simp
          refine hK.out _ _ (HC.out _ HQ.out.h3) (fun hHeld => ?_)
          try simp only [List.setIfInBounds_toArray, List.set_cons_zero, List.set_cons_succ]
          refine wpAnyL_ready (rs := [6]) (by kernel_rfl) rfl ?_
          refine (AllL.cons rfl (fun K hK => ?_) AllL.nil)
          go_simp
          have HX := Lib.hid (Blk.new w3 #[.string z] tS)
          have HQ := Lib.hid (HQ.out.alloc (.cells #[.string z] tS))
          have HR4 := Lib.hid (HR3.out.below ((Below.refl _ _).alloc (Nat.le_refl _) (.cells #[.string z] tS)))
          refine hK.out _ _ (HC.out _ HQ.out.h3) (fun hHeld => ?_)
          try simp only [List.setIfInBounds_toArray, List.set_cons_zero, List.set_cons_succ]
          refine wpAnyL_ready (rs := [7]) (by kernel_rfl) rfl ?_
          refine (AllL.cons rfl (fun K hK => ?_) AllL.nil)
          refine stepA 61 tS (.string ByteArray.empty) 1 16 [.string z] 1 HQ.out.own HBN.out Try.underlying61 Try.infoS rfl (by decide) (by decide) rfl (by intro u hu; simp only [List.mem_singleton] at hu; subst hu; rfl) _ _ (show Rd _ (some ⟨_, 0, none⟩) _ from HX.out.rd) (fun e => nomatch e) (.tmp 62) (.tmp 67) rfl rfl rfl rfl ?_
          intro v1 w1 ho1 hg1 hat1
          obtain ⟨A5, c5, rfl, _⟩ := ho1.form
          have HO := Lib.hid (out_app HQ.out HR4.out HB.out ho1 hg1 hat1)
          clear ho1 hg1 hat1
          refine hK.out _ _ (HC.out _ HO.out.1.hd) (fun hHeld => ?_)
          try simp only [List.setIfInBounds_toArray, List.set_cons_zero, List.set_cons_succ]
          refine reg_take (i := 8) (d := 69) (v := ?_) [] rfl rfl (by kernel_rfl) (by kernel_rfl) (fun _ _ _ h => h) (Or.inl ⟨by rfl, ?_⟩) (by assumption) ?_
          rotate_left
          · (intro w hSw; (try dsimp only at hSw); go_simp; first | done | with_reducible rfl)
          try simp only [List.setIfInBounds_toArray, List.set_cons_zero, List.set_cons_succ]
          refine wpAnyL_ready (rs := [9]) (by kernel_rfl) rfl ?_
          refine (AllL.consJ rfl (by kernel_rfl) (fun K hK => ?_) AllL.nil)
          have z9 := (show Blk _ g4 _ _ from HO.out.1.hd).cell 2
          have fz := (show Blk _ g4 _ _ from HO.out.1.hd).frozen 2
          simp at z9
          go_simp
          refine hK.out _ _ ?_
          try simp only [List.setIfInBounds_toArray, List.set_cons_zero, List.set_cons_succ]
          refine wpAnyL_done (by kernel_rfl) ?_ _
          go_wp2_with fail
          go_roundg (T - (k' + 1))
          case measure => have := HMM.out; omega
          case rel =>
            have HF := out_set HO.out.1 HO.out.2 HB.out 2 (.slice A5 (k' + 1) c5)
            rw [show [Value.string z] = eStr.f z from rfl, ← Enc.snoc] at HF
            refine ⟨k' + 1, ts ++ [z], l2.drop Y, A3, A5, c3, c5, _, rfl, by push_cast; rfl, by have := HMM.out; omega, rfl, ?_, HF.1, HF.2, by rw [List.length_append, HTS.out]; rfl⟩
            rw [HRD.out, HST.out, HZ.out, show T - (k' + 1) = m by have := HMM.out; omega]
            cases rdTs m (l2.drop Y) <;> simp
    · have j1 : ¬ (k' : Int) < (T : Int) := by omega
      have j2 : decide ((k' : Int) < (T : Int)) = false := by simp; omega
      have h := HRD.out
      rw [show T - k' = 0 by omega] at h
      simp only [rdTs, Option.map_some, List.append_nil] at h
      have hd := HD.out
      rw [h] at hd
      simp only at hd
      have HD := Lib.hid hd
      clear h hd
      have z0 : wr.cell? ⟨g, 0, none⟩ = some (.slice A'' l''.length c'') := HR.out.blk.cell 0
      by_cases hl : l'' = []
      · subst hl
        simp only [if_true] at HD
        have HG4 := Lib.hid (show Blk wr g4 #[.int .i64 (X : Int), .slice Av k cv, .slice At k' ct] tRec from HS.out.h2)
        have HZ := Lib.hid (show Blk wr g2 #[.int .i64 0, .slice none 0 0, .slice none 0 0] tRec from HS.out.h5)
        have y0 := HG4.out.cell 0; have y1 := HG4.out.cell 1; have y2 := HG4.out.cell 2
        have x0 := HZ.out.cell 0; have x1 := (HZ.out.set 0 (.int .i64 (X : Int))).cell 1; have x2 := ((HZ.out.set 0 (.int .i64 (X : Int))).set 1 (.slice Av k cv)).cell 2
        have f0 := HZ.out.frozen 0; have f1 := (HZ.out.set 0 (.int .i64 (X : Int))).frozen 1; have f2 := ((HZ.out.set 0 (.int .i64 (X : Int))).set 1 (.slice Av k cv)).frozen 2
        simp at y0 y1 y2 x0 x1 x2 z0
        go_wp2_with fail
        have HQ := ((HZ.out.set 0 (.int .i64 (X : Int))).set 1 (.slice Av k cv)).set 2 (.slice At k' ct)
        refine ret_cell (k := 2) (by kernel_rfl) rfl rfl HQ (by kernel_rfl) (by kernel_rfl) ?_
        rw [HD.out]
        refine ⟨Av, At, cv, ct, ?_, ?_⟩
        · simp only [HNS.out, HTS.out]; rfl
        · simp only [HNS.out, HTS.out]
          exact (HS.out.r5.opc (t' := tBlk g2 _ tRec) (S := fun k => k = g2) HQ (Upd.setCell (S := fun k => k = g2) (p := ⟨g2, 2, none⟩) (Upd.setCell (S := fun k => k = g2) (p := ⟨g2, 1, none⟩) (Upd.setCell (S := fun k => k = g2) (p := ⟨g2, 0, none⟩) (Upd.refl _ wr) (.inr rfl) _) (.inr rfl) _) (.inr rfl) _) (fun _ _ h => h) (fun k hk => .inl hk)).tail.tail.tail.sw
      · have h0 : 0 < l''.length := List.length_pos_iff.2 hl
        have j3 : (0 : Int) < (l''.length : Int) := by omega
        have HP := Lib.hid (show decB y = none by rw [HD.out, if_neg hl])
        generalize l''.length = n'' at *
        clear hl
        go_wp2
        refine ⟨rfl, ?_⟩
        rw [HP.out]
        exact ⟨rfl, HS.out.tail.tail.tail.tail.tail⟩
theorem rec_any {w W : World} {rr : List Th} {g B : Nat} {l : List UInt8} {A : Option Addr} {c : Nat} (hs : Sep w W (tBlk g #[.slice A l.length c] tRd :: rr)) (hR : Rdr W g B l A c) (hB : 2 ≤ l.length → B < w.heap.size) :
    Calls Try.prog 42 #[.pointer (some ⟨g, 0, none⟩)] W (RecPost (decB l) w rr) := by
  rcases Nat.lt_or_ge l.length 2 with h | h
  · exact rec_short hs hR h
  · rcases l with _ | ⟨x, _ | ⟨y, l⟩⟩
    · simp at h
    · simp at h
    · exact rec_long hs hR (hB h)
end Go.Proofs.Ytodjmeodcmbdoaa
