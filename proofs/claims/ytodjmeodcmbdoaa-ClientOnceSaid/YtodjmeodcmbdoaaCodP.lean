/- The walk of the document's Decode. Conditions: at most 65536 bytes. -/
import Derived.Test.YtodjmeodcmbdoaaCodN
set_option linter.unusedVariables false
set_option linter.unusedSimpArgs false
namespace Go.Proofs.Ytodjmeodcmbdoaa
open Go.RowKit
theorem addr_add (b o j : Nat) : (⟨b, o, none⟩ : Addr).add j = ⟨b, o + j, none⟩ := by unfold Addr.add; split <;> simp_all
theorem drop_suffix {l p r : List UInt8} {i : Nat} (h : l.drop i = p ++ r) (hi : i ≤ l.length) : l.drop (l.length - r.length) = r ∧ r.length ≤ l.length := by
  have e : l = l.take i ++ p ++ r := by rw [List.append_assoc, ← h, List.take_append_drop]
  have hl : l.length = (l.take i ++ p).length + r.length := by rw [← List.length_append, ← e]
  refine ⟨?_, by omega⟩
  rw [show l.length - r.length = (l.take i ++ p).length by omega]
  generalize (l.take i ++ p) = q at *
  rw [e, List.drop_left]
theorem rdN_rest {l r : List UInt8} {i v : Nat} (h : rdN 0 0 (l.drop i) = some (v, r)) (hi : i ≤ l.length) : l.drop (l.length - r.length) = r ∧ r.length ≤ l.length := by
  obtain ⟨w, _, hl, _, _⟩ := rdN_some _ 0 0 v r h (by decide) (by decide)
  exact drop_suffix hl hi
section
variable {w W : World} {r : List Th} {g : Nat} {a b c : Value}
theorem put_rec (h : Blk W g zRec tRec) : W.cell? ⟨g, 0, none⟩ = some (.int .i64 0) ∧ (W.setCell ⟨g, 0, none⟩ a).cell? ⟨g, 1, none⟩ = some (.slice none 0 0) ∧ ((W.setCell ⟨g, 0, none⟩ a).setCell ⟨g, 1, none⟩ b).cell? ⟨g, 2, none⟩ = some (.slice none 0 0) ∧
    W.frozen? ⟨g, 0, none⟩ = false ∧ (W.setCell ⟨g, 0, none⟩ a).frozen? ⟨g, 1, none⟩ = false ∧ ((W.setCell ⟨g, 0, none⟩ a).setCell ⟨g, 1, none⟩ b).frozen? ⟨g, 2, none⟩ = false := by
  refine ⟨h.cell 0, ?_, ?_, h.frozen 0, (h.set 0 a).frozen 1, ((h.set 0 a).set 1 b).frozen 2⟩
  · rw [(h.set 0 a).cell 1]; rfl
  · rw [((h.set 0 a).set 1 b).cell 2]; rfl
theorem put_blk (h : Blk W g zRec tRec) : Blk (((W.setCell ⟨g, 0, none⟩ a).setCell ⟨g, 1, none⟩ b).setCell ⟨g, 2, none⟩ c) g #[a, b, c] tRec := ((h.set 0 a).set 1 b).set 2 c
theorem Sep.put3 {cs : Array Value} (h : Sep w W (tBlk g cs tRec :: r)) : Sep w (((W.setCell ⟨g, 0, none⟩ a).setCell ⟨g, 1, none⟩ b).setCell ⟨g, 2, none⟩ c) r :=
  h.lost (Upd.setCell (S := fun k => k = g) (p := ⟨g, 2, none⟩) (Upd.setCell (S := fun k => k = g) (p := ⟨g, 1, none⟩) (Upd.setCell (S := fun k => k = g) (p := ⟨g, 0, none⟩) (Upd.refl _ W) (.inr rfl) _) (.inr rfl) _) (.inr rfl) _)
theorem Sep.put1 {cs : Array Value} (h : Sep w W (tBlk g cs tRec :: r)) (j : Nat) (u : Value) : Sep w (W.setCell ⟨g, j, none⟩ u) (tBlk g (cs.setIfInBounds j u) tRec :: r) :=
  h.opc (t' := tBlk g (cs.setIfInBounds j u) tRec) (S := fun k => k = g) ((show Blk W g cs tRec from h.hd).set j u) (Upd.setCell (S := fun k => k = g) (p := ⟨g, j, none⟩) (Upd.refl _ W) (.inr rfl) _) (fun k _ hk => hk) (fun k hk => .inl hk)
end
set_option maxRecDepth 100000 in
set_option maxHeartbeats 4000000 in
theorem rdecode_short (A : Option Addr) (l : List UInt8) (n c : Nat) (w : World) (hl : l.length = n) (hs : n < 2) :
    Calls Try.prog 37 #[.slice A n c] w (DecPost (decB l) w) := by
  have HP := Lib.hid (show decB l = none by rcases l with _ | ⟨a, _ | ⟨b, l⟩⟩ <;> first | rfl | (simp at hl; omega))
  have k1 : (n : Int) < 2 := by omega
  obtain ⟨g2, hg2⟩ : ∃ k, w.heap.size = k := ⟨_, rfl⟩
  have HG := Lib.hid hg2
  have HS := Lib.hid (((Sep.nil w).newBlk zRec tRec hg2).newBlk zRec tRec (g := g2 + 1) (by simp [hg2]))
  obtain ⟨W, hW⟩ : ∃ W, (w.alloc (.cells #[.int .i64 0, .slice none 0 0, .slice none 0 0] tRec)).alloc (.cells #[.int .i64 0, .slice none 0 0, .slice none 0 0] tRec) = W := ⟨_, rfl⟩
  rw [hW] at HS
  have HW := Lib.hid hW
  clear hl hs hg2 hW
  go_enter Try.func37, Try.ntmps37
  go_upto_region 2 with fail
  rw [HG.out, HW.out]
  have hz4 := (show Blk _ (g2 + 1) zRec tRec from HS.out.hd)
  have n0 := hz4.cell 0; have n1 := hz4.cell 1; have n2 := hz4.cell 2
  simp at n0 n1 n2
  obtain ⟨x0, x1, x2, f0, f1, f2⟩ := put_rec (a := .int .i64 0) (b := .slice none 0 0) (show Blk _ g2 zRec tRec from HS.out.h2)
  have HQ0 := Lib.hid (put_blk (a := .int .i64 0) (b := .slice none 0 0) (c := .slice none 0 0) (show Blk _ g2 zRec tRec from HS.out.h2))
  have HB0 := Lib.hid ((HS.out.sw).put3 (a := .int .i64 0) (b := .slice none 0 0) (c := .slice none 0 0)).bel
  clear hz4
  go_wp2_with fail
  refine ret_cell_tmp (k := 2) (u := 3) (by kernel_rfl) rfl rfl HQ0.out (by kernel_rfl) (by kernel_rfl) ?_
  rw [HP.out]
  exact ⟨rfl, HB0.out⟩
set_option maxRecDepth 100000 in
set_option maxHeartbeats 8000000 in
theorem rdecode_long (A : Option Addr) (x h : UInt8) (l0 : List UInt8) (n c : Nat) (w : World) (hl : l0.length + 2 = n) (hr : Rd w A (eB.fl (x :: h :: l0))) (hn : n ≤ 65536) (hc : n ≤ c) (hbig : c ≤ 9223372036854775807) :
    Calls Try.prog 37 #[.slice A n c] w (DecPost (decB (x :: h :: l0)) w) := by
  obtain ⟨b, o, rfl, u0⟩ := hr.byt 0 x rfl
  obtain ⟨b', o', he, u1⟩ := hr.byt 1 h rfl
  simp only [Option.some.injEq, Addr.mk.injEq, and_true] at he
  obtain ⟨rfl, rfl⟩ := he
  simp only [Nat.add_zero] at u0
  have hx := x.toNat_lt
  have hh := h.toNat_lt
  obtain ⟨X, hX⟩ : ∃ X, x.toNat = X := ⟨_, rfl⟩
  obtain ⟨H, hH⟩ : ∃ X, h.toNat = X := ⟨_, rfl⟩
  have HD := Lib.hid (show decB (x :: h :: l0) = (if 4 < hT H then none else match rdNs (hN H) l0 with
    | none => none
    | some (ns, l1) => match rdTs (hT H) l1 with
      | none => none
      | some (ts, l2) => if l2 = [] then some ⟨X, ns, ts⟩ else none) by rw [← hH, ← hX]; rfl)
  rw [hX] at u0 hx
  rw [hH] at u1 hh
  obtain ⟨y, hy⟩ : ∃ y, (x :: h :: l0) = y := ⟨_, rfl⟩
  have HYL := Lib.hid (show y.length = n by rw [← hy, ← hl]; simp)
  have HY2 := Lib.hid (show y.drop 2 = l0 by rw [← hy]; rfl)
  rw [hy] at HD hr ⊢
  have HR := Lib.hid hr
  have hn2 : 2 ≤ n := by omega
  obtain ⟨g2, hg2⟩ : ∃ k, w.heap.size = k := ⟨_, rfl⟩
  have HG := Lib.hid hg2
  have HS := Lib.hid (((Sep.nil w).newBlk zRec tRec hg2).newBlk zRec tRec (g := g2 + 1) (by simp [hg2]))
  obtain ⟨W, hW⟩ : ∃ W, (w.alloc (.cells #[.int .i64 0, .slice none 0 0, .slice none 0 0] tRec)).alloc (.cells #[.int .i64 0, .slice none 0 0, .slice none 0 0] tRec) = W := ⟨_, rfl⟩
  have hB : Below w.heap.size w W := by rw [← hW]; exact ((Below.refl _ _).alloc (Nat.le_refl _) _).alloc (by simp) _
  rw [hW] at HS
  have v0 := (Upd.of_below (S := fun _ => False) hB).cell u0 (fun h => h)
  have v1 := (Upd.of_below (S := fun _ => False) hB).cell u1 (fun h => h)
  have HW := Lib.hid hW
  clear hl hg2 hW hX hH hy hr u0 u1 hB
  have k2 : ¬ (n : Int) < 2 := by omega
  have k3 : decide ((n : Int) < 2) = false := by simp; omega
  have HM := Lib.hid (show hN H = if 240 ≤ H then 16 else H % 16 from rfl); have HN := Lib.hid (show hT H = if 240 ≤ H then H - 240 else H / 16 from rfl)
  go_enter Try.func37, Try.ntmps37
  go_upto_region 2 with fail
  rw [HG.out, HW.out]
  obtain ⟨g4, hg4⟩ : ∃ k, g2 + 1 = k := ⟨_, rfl⟩
  rw [hg4] at HS ⊢
  clear HG HW hg4
  have q1 : (1 : Int) < (n : Int) := by omega
  have q0 : (0 : Int) < (n : Int) := by omega
  go_upto_if 33 with fail
  generalize hbb : decide ((240 : Int) ≤ (H : Int)) = bb
  go_cut [5, 6] from 34 to 38 (fun s5 s6 wx => s5 = .int .i64 (hN H : Nat) ∧ s6 = .int .i64 (hT H : Nat) ∧ wx = W)
  case first =>
    cases bb
    · have HK := Lib.hid (show ¬ 240 ≤ H by simp at hbb; omega)
      clear hbb
      go_wp2_with fail
      go_meet
      exact ⟨congrArg (Value.int .i64) (by rw [HM.out, if_neg HK.out]; omega), congrArg (Value.int .i64) (by rw [HN.out, if_neg HK.out]; omega), rfl⟩
    · have k1 : 240 ≤ H := by simp at hbb; omega
      have k4 : IntKind.i64.wrap ((H : Int) - 240) = (H : Int) - 240 := IntWalk.i64_in _ (by omega)
      have HK := Lib.hid k1
      clear hbb k1
      go_wp2_with fail
      go_meet
      exact ⟨congrArg (Value.int .i64) (by rw [HM.out, if_pos HK.out]; rfl), congrArg (Value.int .i64) (by rw [HN.out, if_pos HK.out]; have := HK.out; omega), rfl⟩
  case rest =>
  obtain ⟨rfl, rfl, rfl⟩ := hcut
  clear hbb
  have hn16 : hN H ≤ 16 := by rw [HM.out]; split <;> omega
  clear HM HN
  generalize hN H = N at *
  generalize hT H = T at *
  by_cases h4 : 4 < T
  · have k1 : (4 : Int) < (T : Int) := by omega
    have HP := Lib.hid (show decB y = none by rw [HD.out, if_pos h4])
    clear h4
    have hz4 := (show Blk _ g4 zRec tRec from HS.out.hd)
    have n0 := hz4.cell 0; have n1 := hz4.cell 1; have n2 := hz4.cell 2
    simp at n0 n1 n2
    obtain ⟨x0, x1, x2, f0, f1, f2⟩ := put_rec (a := .int .i64 0) (b := .slice none 0 0) (show Blk _ g2 zRec tRec from HS.out.h2)
    have HQ0 := Lib.hid (put_blk (a := .int .i64 0) (b := .slice none 0 0) (c := .slice none 0 0) (show Blk _ g2 zRec tRec from HS.out.h2))
    have HB0 := Lib.hid ((HS.out.sw).put3 (a := .int .i64 0) (b := .slice none 0 0) (c := .slice none 0 0)).bel
    clear hz4
    go_wp2_with fail
    refine ret_cell_tmp (k := 2) (u := 3) (by kernel_rfl) rfl rfl HQ0.out (by kernel_rfl) (by kernel_rfl) ?_
    rw [HP.out]
    exact ⟨rfl, HB0.out⟩
  have k1 : ¬ (4 : Int) < (T : Int) := by omega
  have k5 : decide ((4 : Int) < (T : Int)) = false := by simp; omega
  have h := HD.out
  rw [if_neg h4] at h
  have HD := Lib.hid h
  clear h
  rw [← HY2.out] at HD
  clear HY2
  obtain ⟨g7, hg7⟩ : ∃ k, wc.heap.size = k := ⟨_, rfl⟩
  have HS := Lib.hid (HS.out.newBlk #[.int .i64 (X : Int), .slice none 0 0, .slice none 0 0] tRec hg7)
  have HG := Lib.hid hg7
  clear hg7
  go_upto_region 12 with fail
  rw [HG.out]
  generalize wc.alloc (.cells #[.int .i64 (X : Int), .slice none 0 0, .slice none 0 0] tRec) = w7 at *
  clear HG v0 v1 k2 k3 q0 q1 h4
  go_wp2_with fail
  go_loopg [8, 9, 10, 11, 12] N (fun gk s8 s9 s10 s11 s12 wr => ∃ (k i : Nat) (ns : List Int) (Av : Option Addr) (cv : Nat) (t10 t11 t12 : Value), t10 = s10 ∧ t11 = s11 ∧ t12 = s12 ∧ s8 = .int .i64 (i : Int) ∧ s9 = .int .i64 (k : Int) ∧ k ≤ N ∧ gk = N - k ∧ i ≤ n ∧ rdNs N (y.drop 2) = (rdNs (N - k) (y.drop i)).map (fun p => (ns ++ p.1, p.2)) ∧ Sep w wr [tBlk g7 #[.int .i64 (X : Int), .slice Av k cv, .slice none 0 0] tRec, tOwn tI 1 (.slice Av k cv) k (eI64.fl ns), tBlk g4 zRec tRec, tBlk g2 zRec tRec] ∧ ns.length = k)
  case atStart => exact ⟨0, 2, [], none, 0, _, _, _, rfl, rfl, rfl, rfl, rfl, by omega, rfl, hn2, by rw [Nat.sub_zero]; cases rdNs N (y.drop 2) <;> rfl, (HS.out.emptyRow tI 1).sw, rfl⟩
  case round =>
  clear HS
  obtain ⟨k, i, ns, Av, cv, t10, t11, t12, rfl, rfl, rfl, rfl, rfl, hk, hgk, hin, hrd, hs, hns⟩ := hrel
  have HS := Lib.hid hs; have HRD := Lib.hid hrd; have HNS := Lib.hid hns
  clear hs hrd hns
  by_cases hkn : k < N
  · have e1 : (k : Int) < (N : Int) := by omega
    have e2 : decide ((k : Int) < (N : Int)) = true := by simp; omega
    obtain ⟨m, hm⟩ : ∃ m, N - k = m + 1 := ⟨N - k - 1, by omega⟩
    rw [hm] at HRD
    have HMM := Lib.hid hm
    have HRR := Lib.hid (HR.out.below HS.out.bel)
    clear hm
    cases hrn : rdN 0 0 (y.drop i) with
    | none =>
      have HP := Lib.hid (show decB y = none by rw [HD.out, HRD.out, rdNs_none hrn]; rfl)
      have HRN := Lib.hid hrn
      clear hrn
      go_wp2_with fail
      refine (refnum_any y _ n c i wr HYL.out HRR.out hn hin).mono ?_
      rw [HRN.out]
      rintro e w3 ⟨rfl, rfl⟩
      unfold numV
      simp only
      have hz4 := (show Blk _ g4 zRec tRec from HS.out.h3)
      have n0 := hz4.cell 0; have n1 := hz4.cell 1; have n2 := hz4.cell 2
      simp at n0 n1 n2
      obtain ⟨x0, x1, x2, f0, f1, f2⟩ := put_rec (a := .int .i64 0) (b := .slice none 0 0) (show Blk _ g2 zRec tRec from HS.out.h4)
      have HQ0 := Lib.hid (put_blk (a := .int .i64 0) (b := .slice none 0 0) (c := .slice none 0 0) (show Blk _ g2 zRec tRec from HS.out.h4))
      have HB0 := Lib.hid ((HS.out.r4).put3 (a := .int .i64 0) (b := .slice none 0 0) (c := .slice none 0 0)).bel
      clear hz4
      go_wp2_with fail
      refine ret_cell_tmp (k := 2) (u := 3) (by kernel_rfl) rfl rfl HQ0.out (by kernel_rfl) (by kernel_rfl) ?_
      rw [HP.out]
      exact ⟨rfl, HB0.out⟩
    | some ul =>
      obtain ⟨u, l1⟩ := ul
      have HRN := Lib.hid hrn
      obtain ⟨hsx, hle⟩ := rdN_rest hrn (by rw [HYL.out]; exact hin)
      rw [HYL.out] at hsx hle
      obtain ⟨i', hi'⟩ : ∃ i', n - l1.length = i' := ⟨_, rfl⟩
      rw [hi'] at hsx
      have HI' := Lib.hid hi'; have HSX := Lib.hid hsx
      have hin' : i' ≤ n := by omega
      have HBN := Lib.hid (show (k + 1) * 8 ≤ 140737488355328 by omega)
      clear hrn hsx hi' hle
      go_wp2_with fail
      refine (refnum_any y _ n c i wr HYL.out HRR.out hn hin).mono ?_
      rw [HRN.out]
      rintro e w3 ⟨rfl, rfl⟩
      unfold numV
      simp only
      rw [HI'.out]
      have z1 := (show Blk wr g7 #[.int .i64 (X : Int), .slice Av k cv, .slice none 0 0] tRec from HS.out.hd).cell 1
      simp at z1
      obtain ⟨zz, hzz⟩ : ∃ zz, unzig u = zz := ⟨_, rfl⟩
      have HZZ := Lib.hid hzz
      rw [hzz]
      clear hzz
      go_wp2_with (at_builtin; refine app1O 70 tI (.int .i64 0) 1 8 [.int .i64 zz] HS.out.sw.own HBN.out Try.underlying70 Try.infoI rfl (by decide) (by decide) rfl (by intro u hu; simp only [List.mem_singleton] at hu; subst hu; rfl) (.tmp 63) (.tmp 65) rfl rfl rfl rfl ?_; intro v5 w5 ho hg hat; obtain ⟨A5, c5, rfl, _⟩ := ho.form; have HO := Lib.hid (HS.out.sw.appG ho hg hat).sw; clear ho hg hat z1; have z9 := (show Blk w5 g7 _ tRec from HO.out.hd).cell 1; have fz := (show Blk w5 g7 _ tRec from HO.out.hd).frozen 1; simp at z9)
      go_roundg (N - (k + 1))
      case measure => have := HMM.out; omega
      case rel =>
        have HF := HO.out.put1 1 (.slice A5 (k + 1) c5)
        rw [show [Value.int .i64 zz] = eI64.f zz from rfl, ← Enc.snoc] at HF
        refine ⟨k + 1, i', ns ++ [zz], A5, c5, _, _, _, rfl, rfl, rfl, rfl, by push_cast; rfl, by have := HMM.out; omega, rfl, hin', ?_, HF, by rw [List.length_append, HNS.out]; rfl⟩
        rw [HRD.out, rdNs_some' HRN.out, HSX.out, HZZ.out, show N - (k + 1) = m by have := HMM.out; omega]
        cases rdNs m l1 <;> simp
  · have e1 : ¬ (k : Int) < (N : Int) := by omega
    have e2 : decide ((k : Int) < (N : Int)) = false := by simp; omega
    have h := HRD.out
    rw [show N - k = 0 by omega] at h
    simp only [rdNs, Option.map_some, List.append_nil] at h
    have hd := HD.out
    rw [h] at hd
    simp only at hd
    have HD := Lib.hid hd
    clear h hd HRD
    have HI0 := Lib.hid hin
    generalize i = i1 at *
    go_wp2_with fail
    go_loopg [8, 13, 14] T (fun gk s8 s13 s14 wr => ∃ (q i : Nat) (ts : List ByteArray) (At : Option Addr) (ct : Nat) (t14 : Value), t14 = s14 ∧ s8 = .int .i64 (i : Int) ∧ s13 = .int .i64 (q : Int) ∧ q ≤ T ∧ gk = T - q ∧ i ≤ n ∧ (match rdTs T (y.drop i1) with
      | none => none
      | some (ts, l2) => if l2 = [] then some (⟨X, ns, ts⟩ : Rec) else none) = (match (rdTs (T - q) (y.drop i)).map (fun p => (ts ++ p.1, p.2)) with
      | none => none
      | some (ts, l2) => if l2 = [] then some (⟨X, ns, ts⟩ : Rec) else none) ∧ Sep w wr [tBlk g7 #[.int .i64 (X : Int), .slice Av k cv, .slice At q ct] tRec, tOwn tS 1 (.slice At q ct) q (eStr.fl ts), tOwn tI 1 (.slice Av k cv) k (eI64.fl ns), tBlk g4 zRec tRec, tBlk g2 zRec tRec] ∧ ts.length = q)
    case atStart => exact ⟨0, i1, [], none, 0, _, rfl, rfl, rfl, by omega, rfl, hin, by rw [Nat.sub_zero]; cases rdTs T (y.drop i1) <;> rfl, (HS.out.emptyRow tS 1).sw, rfl⟩
    case round =>
    clear HS HI0 hin
    obtain ⟨q, i, ts, At, ct, t14, rfl, rfl, rfl, hq, hgq, hin, hrd, hs, hts⟩ := hrel
    have HS := Lib.hid hs; have HRD := Lib.hid hrd; have HTS := Lib.hid hts
    clear hs hrd hts
    by_cases hqt : q < T
    · have j1 : (q : Int) < (T : Int) := by omega
      have j2 : decide ((q : Int) < (T : Int)) = true := by simp; omega
      obtain ⟨m, hm⟩ : ∃ m, T - q = m + 1 := ⟨T - q - 1, by omega⟩
      rw [hm] at HRD
      have HMM := Lib.hid hm
      have HRR := Lib.hid (HR.out.below HS.out.bel)
      clear hm
      by_cases hi : i < n
      rotate_left
      · have HP := Lib.hid (show decB y = none by rw [HD.out, HRD.out, List.drop_of_length_le (by rw [HYL.out]; omega), rdTs_none rfl]; rfl)
        have f1 : (n : Int) ≤ (i : Int) := by omega
        have f2 : decide ((n : Int) ≤ (i : Int)) = true := by simp; omega
        have hz4 := (show Blk _ g4 zRec tRec from HS.out.h4)
        have n0 := hz4.cell 0; have n1 := hz4.cell 1; have n2 := hz4.cell 2
        simp at n0 n1 n2
        obtain ⟨x0, x1, x2, f0, f1, f2⟩ := put_rec (a := .int .i64 0) (b := .slice none 0 0) (show Blk _ g2 zRec tRec from HS.out.h5)
        have HQ0 := Lib.hid (put_blk (a := .int .i64 0) (b := .slice none 0 0) (c := .slice none 0 0) (show Blk _ g2 zRec tRec from HS.out.h5))
        have HB0 := Lib.hid ((HS.out.r5).put3 (a := .int .i64 0) (b := .slice none 0 0) (c := .slice none 0 0)).bel
        clear hz4
        go_wp2_with fail
        refine ret_cell_tmp (k := 2) (u := 3) (by kernel_rfl) rfl rfl HQ0.out (by kernel_rfl) (by kernel_rfl) ?_
        rw [HP.out]
        exact ⟨rfl, HB0.out⟩
      have f1 : ¬ (n : Int) ≤ (i : Int) := by omega
      have f2 : decide ((n : Int) ≤ (i : Int)) = false := by simp; omega
      have f3 : (i : Int) < (n : Int) := by omega
      have f4 : (0 : Int) ≤ (i : Int) := by omega
      obtain ⟨z, hz⟩ : ∃ z, y[i]'(by rw [HYL.out]; exact hi) = z := ⟨_, rfl⟩
      have hz0 : y[i]? = some z := by rw [← hz]; exact List.getElem?_eq_getElem _
      have HDR := Lib.hid (show y.drop i = z :: y.drop (i + 1) by rw [← hz]; exact List.drop_eq_getElem_cons _)
      obtain ⟨b', o', he, u0⟩ := HRR.out.byt i z hz0
      simp only [Option.some.injEq, Addr.mk.injEq, and_true] at he
      obtain ⟨rfl, rfl⟩ := he
      have hz8 := z.toNat_lt
      have HYT := Lib.hid (show rdT (z :: y.drop (i + 1)) = if 200 < z.toNat ∨ (y.drop (i + 1)).length < z.toNat then none else some (⟨((y.drop (i + 1)).take z.toNat).toArray⟩, (y.drop (i + 1)).drop z.toNat) from rfl)
      have HLL := Lib.hid (show (y.drop (i + 1)).length = n - (i + 1) by rw [List.length_drop, HYL.out])
      obtain ⟨Z, hZ⟩ : ∃ Z, z.toNat = Z := ⟨_, rfl⟩
      rw [hZ] at HYT u0 hz8
      clear hz hz0 hZ
      by_cases h200 : 200 < Z
      · have HP := Lib.hid (show decB y = none by rw [HD.out, HRD.out, HDR.out, rdTs_none (by rw [HYT.out, if_pos (.inl h200)])]; rfl)
        have f5 : (200 : Int) < (Z : Int) := by omega
        have f6 : decide ((200 : Int) < (Z : Int)) = true := by simp; omega
        clear h200
        have hz4 := (show Blk _ g4 zRec tRec from HS.out.h4)
        have n0 := hz4.cell 0; have n1 := hz4.cell 1; have n2 := hz4.cell 2
        simp at n0 n1 n2
        obtain ⟨x0, x1, x2, f0, f1, f2⟩ := put_rec (a := .int .i64 0) (b := .slice none 0 0) (show Blk _ g2 zRec tRec from HS.out.h5)
        have HQ0 := Lib.hid (put_blk (a := .int .i64 0) (b := .slice none 0 0) (c := .slice none 0 0) (show Blk _ g2 zRec tRec from HS.out.h5))
        have HB0 := Lib.hid ((HS.out.r5).put3 (a := .int .i64 0) (b := .slice none 0 0) (c := .slice none 0 0)).bel
        clear hz4
        go_wp2_with fail
        refine ret_cell_tmp (k := 2) (u := 3) (by kernel_rfl) rfl rfl HQ0.out (by kernel_rfl) (by kernel_rfl) ?_
        rw [HP.out]
        exact ⟨rfl, HB0.out⟩
      have f5 : ¬ (200 : Int) < (Z : Int) := by omega
      have f6 : decide ((200 : Int) < (Z : Int)) = false := by simp; omega
      by_cases hlong : n < i + 1 + Z
      · have HP := Lib.hid (show decB y = none by rw [HD.out, HRD.out, HDR.out, rdTs_none (by rw [HYT.out, if_pos (.inr (by rw [HLL.out]; omega))])]; rfl)
        have f7 : (n : Int) < (i : Int) + 1 + (Z : Int) := by omega
        have f8 : decide ((n : Int) < (i : Int) + 1 + (Z : Int)) = true := by simp; omega
        clear hlong
        have hz4 := (show Blk _ g4 zRec tRec from HS.out.h4)
        have n0 := hz4.cell 0; have n1 := hz4.cell 1; have n2 := hz4.cell 2
        simp at n0 n1 n2
        obtain ⟨x0, x1, x2, f0, f1, f2⟩ := put_rec (a := .int .i64 0) (b := .slice none 0 0) (show Blk _ g2 zRec tRec from HS.out.h5)
        have HQ0 := Lib.hid (put_blk (a := .int .i64 0) (b := .slice none 0 0) (c := .slice none 0 0) (show Blk _ g2 zRec tRec from HS.out.h5))
        have HB0 := Lib.hid ((HS.out.r5).put3 (a := .int .i64 0) (b := .slice none 0 0) (c := .slice none 0 0)).bel
        clear hz4
        go_wp2_with fail
        refine ret_cell_tmp (k := 2) (u := 3) (by kernel_rfl) rfl rfl HQ0.out (by kernel_rfl) (by kernel_rfl) ?_
        rw [HP.out]
        exact ⟨rfl, HB0.out⟩
      have f7 : ¬ (n : Int) < (i : Int) + 1 + (Z : Int) := by omega
      have f8 : decide ((n : Int) < (i : Int) + 1 + (Z : Int)) = false := by simp; omega
      obtain ⟨st, hst⟩ : ∃ s : ByteArray, ⟨((y.drop (i + 1)).take Z).toArray⟩ = s := ⟨_, rfl⟩
      have HST := Lib.hid (show rdT (z :: y.drop (i + 1)) = some (st, y.drop (i + 1 + Z)) by rw [HYT.out, if_neg (by rw [HLL.out]; omega), hst, List.drop_drop])
      obtain ⟨A2, hA2⟩ : ∃ A2, (if c = i + 1 then (some ⟨b, o, none⟩ : Option Addr) else some ⟨b, o + (i + 1), none⟩) = A2 := ⟨_, rfl⟩
      have hZ2 : ((i : Int) + 1 + (Z : Int)).toNat - (i + 1) = Z := by omega
      have HCV := Lib.hid (fun (w' : World) (hB : Below w.heap.size w w') => show (convert 75 9 (.slice A2 Z (c - (i + 1)))).run Try.prog w' = .ok (.string st) w' by
        rw [← hst]
        refine conv_str w' A2 (c - (i + 1)) _ ?_ Z (by rw [List.length_take, HLL.out]; omega)
        rw [← hA2]
        split
        · rw [show Z = 0 by omega, List.take_zero]; exact Rd.nil _ _
        · rw [Enc.take, Enc.drop]
          have := (HR.out.below hB).drop ((i + 1) * eB.sz)
          rw [show (i + 1) * eB.sz = i + 1 from Nat.mul_one _] at this ⊢
          rw [show (Option.map (fun x : Addr => x.add (i + 1)) (some ⟨b, o, none⟩)) = some ⟨b, o + (i + 1), none⟩ by rw [Option.map_some, addr_add]] at this
          exact this.take _)
      have HC : Hid (∀ w', Blk w' g7 #[.int .i64 (X : Int), .slice Av k cv, .slice At q ct] tRec → w'.cell? ⟨g7, 2, none⟩ = some (.slice At q ct)) := Lib.hid (fun w' h => h.cell 2)
      have HBN := Lib.hid (show (q + 1) * 16 ≤ 140737488355328 by omega)
      have r1 : IntKind.i64.wrap ((i : Int) + 1) = (i : Int) + 1 := IntWalk.i64_in _ (by omega)
      have r2 : IntKind.i64.wrap ((i : Int) + 1 + (Z : Int)) = (i : Int) + 1 + (Z : Int) := IntWalk.i64_in _ (by omega)
      have r3 : (0 : Int) ≤ (i : Int) + 1 := by omega
      have r4 : (i : Int) + 1 ≤ (i : Int) + 1 + (Z : Int) := by omega
      have r5 : (i : Int) + 1 + (Z : Int) ≤ (c : Int) := by omega
      have hlc : i + 1 + Z ≤ n := by omega
      clear hst h200 hlong
      go_upto_region 27 with fail
      refine wp_region_L (fun w' => w'.cell? ⟨g7, 2, none⟩ = some (.slice At q ct)) 14 (by kernel_rfl) (HC.out _ (HS.out.drewN 1).hd) (fun hHeld => ?_)
      refine reg_take (i := 0) (d := 105) (v := ?_) [] rfl rfl (by kernel_rfl) (by kernel_rfl) (fun _ _ _ h => h) (Or.inl ⟨by rfl, ?_⟩) (by assumption) ?_
      rotate_left
      · (intro w hSw; (try dsimp only at hSw); go_simp; first | done | with_reducible rfl)
      try simp only [List.setIfInBounds_toArray, List.set_cons_zero, List.set_cons_succ]
      refine reg_take (i := 1) (d := 106) (v := ?_) [] rfl rfl (by kernel_rfl) (by kernel_rfl) (fun _ _ _ h => h) (Or.inl ⟨by rfl, ?_⟩) (by assumption) ?_
      rotate_left
      · (intro w hSw; (try dsimp only at hSw); go_simp; first | done | with_reducible rfl)
      try simp only [List.setIfInBounds_toArray, List.set_cons_zero, List.set_cons_succ]
      refine reg_take (i := 2) (d := 107) (v := ?_) [] rfl rfl (by kernel_rfl) (by kernel_rfl) (fun _ _ _ h => h) (Or.inl ⟨by rfl, ?_⟩) (by assumption) ?_
      rotate_left
      · (intro w hSw; (try dsimp only at hSw); go_simp; first | done | with_reducible rfl)
      try simp only [List.setIfInBounds_toArray, List.set_cons_zero, List.set_cons_succ]
      refine reg_take (i := 3) (d := 108) (v := ?_) [] rfl rfl (by kernel_rfl) (by kernel_rfl) (fun _ _ _ h => h) (Or.inl ⟨by rfl, ?_⟩) (by assumption) ?_
      rotate_left
      · (intro w hSw; (try dsimp only at hSw); go_simp; first | done | with_reducible rfl)
      try simp only [List.setIfInBounds_toArray, List.set_cons_zero, List.set_cons_succ]
      refine reg_take (i := 4) (d := 109) (v := ?_) [] rfl rfl (by kernel_rfl) (by kernel_rfl) (fun _ _ _ h => h) (Or.inl ⟨by rfl, ?_⟩) (by assumption) ?_
      rotate_left
      · (intro w hSw; (try dsimp only at hSw); go_simp; first | done | with_reducible rfl)
      try simp only [List.setIfInBounds_toArray, List.set_cons_zero, List.set_cons_succ]
      refine reg_take (i := 5) (d := 110) (v := ?_) [] rfl rfl (by kernel_rfl) (by kernel_rfl) (fun _ _ _ h => h) (Or.inl ⟨by rfl, ?_⟩) (by assumption) ?_
      rotate_left
      · (intro w hSw; (try dsimp only at hSw); go_simp; first | done | with_reducible rfl)
      try simp only [List.setIfInBounds_toArray, List.set_cons_zero, List.set_cons_succ]
      refine reg_take (i := 6) (d := 111) (v := ?_) [] rfl rfl (by kernel_rfl) (by kernel_rfl) (fun _ _ _ h => h) (Or.inl ⟨by rfl, ?_⟩) (by assumption) ?_
      rotate_left
      · (intro w hSw; (try dsimp only at hSw); go_simp; first | done | with_reducible rfl)
      try simp only [List.setIfInBounds_toArray, List.set_cons_zero, List.set_cons_succ]
      refine reg_take (i := 7) (d := 112) (v := ?_) [] rfl rfl (by kernel_rfl) (by kernel_rfl) (fun _ _ _ h => h) (Or.inl ⟨by rfl, ?_⟩) (by assumption) ?_
      rotate_left
      · (intro w hSw; (try dsimp only at hSw); go_simp; first | done | with_reducible rfl)
      try simp only [List.setIfInBounds_toArray, List.set_cons_zero, List.set_cons_succ]
      refine reg_take (i := 8) (d := 113) (v := ?_) [] rfl rfl (by kernel_rfl) (by kernel_rfl) (fun _ _ _ h => h) (Or.inl ⟨by rfl, ?_⟩) (by assumption) ?_
      rotate_left
      · (intro w hSw; (try dsimp only at hSw); go_simp; first | done | with_reducible rfl)
      try simp only [List.setIfInBounds_toArray, List.set_cons_zero, List.set_cons_succ]
      refine wpAnyL_ready (rs := [9]) (by kernel_rfl) rfl ?_
      refine (AllL.cons rfl (fun K hK => ?_) AllL.nil)
      go_simp
      (try rw [hA2])
      (try rw [hZ2])
      refine hK.out _ _ (HC.out _ (HS.out.drewN 1).hd) (fun hHeld => ?_)
      try simp only [List.setIfInBounds_toArray, List.set_cons_zero, List.set_cons_succ]
      refine wpAnyL_ready (rs := [10]) (by kernel_rfl) rfl ?_
      refine (AllL.cons rfl (fun K hK => ?_) AllL.nil)
      have hcv := HCV.out wr.drew HS.out.drew.bel
      go_simp
      refine hK.out _ _ (HC.out _ (HS.out.drewN 1).hd) (fun hHeld => ?_)
      try simp only [List.setIfInBounds_toArray, List.set_cons_zero, List.set_cons_succ]
      refine wpAnyL_ready (rs := [11]) (by kernel_rfl) rfl ?_
      refine (AllL.cons rfl (fun K hK => ?_) AllL.nil)
      go_simp
      have HX := Lib.hid (Blk.new (wr.drewN 1) #[.string st] tS)
      have HQ := Lib.hid (((HS.out.drewN 1).alloc (.cells #[.string st] tS)).sw)
      refine hK.out _ _ (HC.out _ HQ.out.h2) (fun hHeld => ?_)
      try simp only [List.setIfInBounds_toArray, List.set_cons_zero, List.set_cons_succ]
      refine wpAnyL_ready (rs := [12]) (by kernel_rfl) rfl ?_
      refine (AllL.cons rfl (fun K hK => ?_) AllL.nil)
      refine stepA 61 tS (.string ByteArray.empty) 1 16 [.string st] 1 HQ.out.own HBN.out Try.underlying61 Try.infoS rfl (by decide) (by decide) rfl (by intro u hu; simp only [List.mem_singleton] at hu; subst hu; rfl) _ _ (show Rd _ (some ⟨_, 0, none⟩) _ from HX.out.rd) (fun e => nomatch e) (.tmp 106) (.tmp 116) rfl rfl rfl rfl ?_
      intro v1 w1 ho1 hg1 hat1
      obtain ⟨A5, c5, rfl, _⟩ := ho1.form
      have HO := Lib.hid ((HQ.out.app ho1 hg1 hat1).sw)
      clear ho1 hg1 hat1
      refine hK.out _ _ (HC.out _ HO.out.hd) (fun hHeld => ?_)
      try simp only [List.setIfInBounds_toArray, List.set_cons_zero, List.set_cons_succ]
      refine reg_take (i := 13) (d := 118) (v := ?_) [] rfl rfl (by kernel_rfl) (by kernel_rfl) (fun _ _ _ h => h) (Or.inl ⟨by rfl, ?_⟩) (by assumption) ?_
      rotate_left
      · (intro w hSw; (try dsimp only at hSw); go_simp; first | done | with_reducible rfl)
      try simp only [List.setIfInBounds_toArray, List.set_cons_zero, List.set_cons_succ]
      refine wpAnyL_ready (rs := [14]) (by kernel_rfl) rfl ?_
      refine (AllL.consJ rfl (by kernel_rfl) (fun K hK => ?_) AllL.nil)
      have z9 := (show Blk _ g7 _ tRec from HO.out.hd).cell 2
      have fz := (show Blk _ g7 _ tRec from HO.out.hd).frozen 2
      simp at z9
      go_simp
      refine hK.out _ _ ?_
      try simp only [List.setIfInBounds_toArray, List.set_cons_zero, List.set_cons_succ]
      refine wpAnyL_done (by kernel_rfl) ?_ _
      go_wp2_with fail
      go_roundg (T - (q + 1))
      case measure => have := HMM.out; omega
      case rel =>
        have HF := HO.out.put1 2 (.slice A5 (q + 1) c5)
        rw [show [Value.string st] = eStr.f st from rfl, ← Enc.snoc] at HF
        refine ⟨q + 1, i + 1 + Z, ts ++ [st], A5, c5, _, rfl, ?_, by push_cast; rfl, by have := HMM.out; omega, rfl, hlc, ?_, HF, by rw [List.length_append, HTS.out]; rfl⟩
        · congr 1; push_cast; omega
        · rw [HRD.out, HDR.out, rdTs_some' HST.out, show T - (q + 1) = m by have := HMM.out; omega]
          cases rdTs m (y.drop (i + 1 + Z)) <;> simp
    · have j1 : ¬ (q : Int) < (T : Int) := by omega
      have j2 : decide ((q : Int) < (T : Int)) = false := by simp; omega
      have h := HRD.out
      rw [show T - q = 0 by omega] at h
      simp only [rdTs, Option.map_some, List.append_nil] at h
      have HD := Lib.hid (HD.out.trans h)
      clear h HRD
      by_cases hlt : i < n
      · have f1 : (i : Int) < (n : Int) := by omega
        have f2 : decide ((i : Int) < (n : Int)) = true := by simp; omega
        have HP := Lib.hid (show decB y = none by rw [HD.out, if_neg (by intro e; have := congrArg List.length e; rw [List.length_drop, HYL.out] at this; simp at this; omega)])
        clear hlt
        have hz4 := (show Blk _ g4 zRec tRec from HS.out.h4)
        have n0 := hz4.cell 0; have n1 := hz4.cell 1; have n2 := hz4.cell 2
        simp at n0 n1 n2
        obtain ⟨x0, x1, x2, f0, f1, f2⟩ := put_rec (a := .int .i64 0) (b := .slice none 0 0) (show Blk _ g2 zRec tRec from HS.out.h5)
        have HQ0 := Lib.hid (put_blk (a := .int .i64 0) (b := .slice none 0 0) (c := .slice none 0 0) (show Blk _ g2 zRec tRec from HS.out.h5))
        have HB0 := Lib.hid ((HS.out.r5).put3 (a := .int .i64 0) (b := .slice none 0 0) (c := .slice none 0 0)).bel
        clear hz4
        go_wp2_with fail
        refine ret_cell_tmp (k := 2) (u := 3) (by kernel_rfl) rfl rfl HQ0.out (by kernel_rfl) (by kernel_rfl) ?_
        rw [HP.out]
        exact ⟨rfl, HB0.out⟩
      · have f1 : ¬ (i : Int) < (n : Int) := by omega
        have f2 : decide ((i : Int) < (n : Int)) = false := by simp; omega
        have HP := Lib.hid (show decB y = some ⟨X, ns, ts⟩ by rw [HD.out, if_pos (List.drop_of_length_le (by rw [HYL.out]; omega))])
        clear hlt
        have hz4 := (show Blk wr g7 #[.int .i64 (X : Int), .slice Av k cv, .slice At q ct] tRec from HS.out.hd)
        have n0 := hz4.cell 0; have n1 := hz4.cell 1; have n2 := hz4.cell 2
        simp at n0 n1 n2
        obtain ⟨x0, x1, x2, f3, f4, f5⟩ := put_rec (a := .int .i64 (X : Int)) (b := .slice Av k cv) (show Blk wr g2 zRec tRec from HS.out.h5)
        have HQ0 := Lib.hid (put_blk (a := .int .i64 (X : Int)) (b := .slice Av k cv) (c := .slice At q ct) (show Blk wr g2 zRec tRec from HS.out.h5))
        have HB0 := Lib.hid ((HS.out.r5).put3 (a := .int .i64 (X : Int)) (b := .slice Av k cv) (c := .slice At q ct)).tail.sw.d3
        clear hz4
        go_wp2_with fail
        refine ret_cell_tmp (k := 2) (u := 3) (by kernel_rfl) rfl rfl HQ0.out (by kernel_rfl) (by kernel_rfl) ?_
        rw [HP.out]
        refine ⟨Av, At, cv, ct, ?_, ?_⟩
        · simp only [HNS.out, HTS.out]; rfl
        · simp only [HNS.out, HTS.out]
          exact HB0.out
theorem rdecode_any (A : Option Addr) (l : List UInt8) (n c : Nat) (w : World) (hl : l.length = n) (hr : Rd w A (eB.fl l)) (hn : n ≤ 65536) (hc : n ≤ c) (hbig : c ≤ 9223372036854775807) :
    Calls Try.prog 37 #[.slice A n c] w (DecPost (decB l) w) := by
  rcases Nat.lt_or_ge n 2 with h | h
  · exact rdecode_short A l n c w hl h
  · rcases l with _ | ⟨x, _ | ⟨y, l⟩⟩
    · simp at hl; omega
    · simp at hl; omega
    · exact rdecode_long A x y l n c w (by simpa using hl) hr hn hc hbig
end Go.Proofs.Ytodjmeodcmbdoaa
