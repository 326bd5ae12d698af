/- The walk of the law LinReads: it returns true. No condition but the row's own. -/
import Derived.Test.YtkajkomljgdghaaLinL5
import Derived.Deep.OwnRows
set_option linter.unusedVariables false
set_option linter.unusedSimpArgs false
namespace Go.Proofs.Ytkajkomljgdghaa
open Go.RowKit Go.Maps
theorem is_bools {w : World} {A : Option Addr} {n c : Nat} (h : Sh.Is w (.slice 1 .bool) [.slice A n c]) : ∃ B : List Bool, B.length = n ∧ Rd w A (eBool.fl B) := by
  obtain ⟨B, h1, _, _, _, h2, _⟩ := Enc.of_slice (E := eBool) (p := fun _ => True) h (fun cs hc => by
    obtain ⟨x, rfl⟩ := hc
    exact ⟨x, rfl, trivial⟩)
  exact ⟨B, h1, h2⟩
theorem Rd.boolAt {w : World} {A : Option Addr} {l : List Bool} (h : Rd w A (eBool.fl l)) (k : Nat) (x : Bool) (hx : l[k]? = some x) :
    ∃ b o, A = some ⟨b, o, none⟩ ∧ w.cell? ⟨b, o + k, none⟩ = some (.bool x) := by
  obtain ⟨hk, rfl⟩ := List.getElem?_eq_some_iff.1 hx
  obtain ⟨b, o, e, hc⟩ := h.elem k hk (by decide)
  refine ⟨b, o, e, ?_⟩
  have := hc 0 _ rfl
  simpa [eBool] using this
theorem Try.infoU8 : (Try.prog.info? 5).map (fun i => (i.zero, i.size, i.bytes)) = some (some (.int .u8 0), 1, 1) := by kernel_rfl
abbrev Z8 : Array Value := #[.int .u8 0, .int .u8 0, .int .u8 0, .int .u8 0, .int .u8 0, .int .u8 0, .int .u8 0, .int .u8 0]
theorem make8 (W : World) : (Instr.makeSlice 36 (.int .i64 8) (.int .i64 8)).run Try.prog W = .ok (.slice (some ⟨W.heap.size, 0, none⟩) 8 8) (W.alloc (.cells Z8 5)) :=
  by
  have h := run_make_row' (P := Try.prog) 36 5 (.int .u8 0) 1 Try.underlying36 Try.infoU8 rfl .i64 .i64 8 (by decide) (by decide) W
  rw [show madeCells #[Value.int .u8 0] 8 = Z8 by kernel_rfl] at h
  exact h
theorem conv8 (W : World) : (convert 36 9 (.slice (some ⟨W.heap.size, 0, none⟩) 8 8)).run Try.prog (W.alloc (.cells Z8 5)) = .ok (.string none8) (W.alloc (.cells Z8 5)) := by
  have hb := Blk.new' (w := W) rfl Z8 5
  exact run_convert_bytes_back (P := Try.prog) _ 36 9 5 ⟨W.heap.size, 0, none⟩ 8 [0, 0, 0, 0, 0, 0, 0, 0] Try.underlying36 Try.underlying5 Try.underlying9 (fun j hj => by
    rw [show (⟨W.heap.size, 0, none⟩ : Addr).add j = ⟨W.heap.size, j, none⟩ by unfold Addr.add; split <;> simp_all, hb.cell j]
    have hj : j < 8 := hj
    rcases j with _ | _ | _ | _ | _ | _ | _ | _ | j
    all_goals first | rfl | omega)
/-- What the reads are: whether each tells the bytes, and whether it is late. -/
def psK (T D : List Bool) : Nat → List (Bool × Bool)
  | 0 => []
  | k + 1 => psK T D k ++ [((T[k]?).getD false, (D[k]?).getD false)]
theorem psK_len (T D : List Bool) : ∀ k, (psK T D k).length = k
  | 0 => rfl
  | k + 1 => by simp [psK, psK_len T D k]
theorem psK_at {T D : List Bool} {k : Nat} {t d : Bool} (h1 : (T[k]?).getD false = t) (h2 : (D[k]?).getD false = d) : psK T D (k + 1) = psK T D k ++ [(t, d)] := by
  simp only [psK, h1, h2]
def rsK (data : ByteArray) (T D : List Bool) (k : Nat) : List LOp := (psK T D k).map (rOp data)
theorem rsK_len (data : ByteArray) (T D : List Bool) (k : Nat) : (rsK data T D k).length = k := by
  unfold rsK; rw [List.length_map, psK_len]
theorem rOp_ok (data : ByteArray) (hd : data.size ≤ 140737488351232) (p : Bool × Bool) : (rOp data p).ok := by
  obtain ⟨p1, p2⟩ := p
  cases p1 <;> cases p2 <;> exact ⟨by dsimp only [rOp]; decide, by dsimp only [rOp]; decide, by show (0 : Nat) ≤ _; omega, by dsimp only [rOp]; decide, by dsimp only [rOp]; decide, by dsimp only [rOp]; decide, by first | exact hd | (show (8 : Nat) ≤ _; omega)⟩
theorem wOp_ok (data : ByteArray) (hd : data.size ≤ 140737488351232) : (wOp data).ok := ⟨by dsimp only [wOp]; decide, by dsimp only [wOp]; decide, hd, by dsimp only [wOp]; decide, by dsimp only [wOp]; decide, by dsimp only [wOp]; decide, by show (0 : Nat) ≤ _; omega⟩
theorem reads_ok (data : ByteArray) (hd : data.size ≤ 140737488351232) (T D : List Bool) (k : Nat) : ∀ o ∈ wOp data :: rsK data T D k, o.ok := fun o ho => by
  rcases List.mem_cons.1 ho with rfl | ho
  · exact wOp_ok data hd
  · obtain ⟨p, _, rfl⟩ := List.mem_map.1 ho
    exact rOp_ok data hd p
def goodK (T D : List Bool) (k : Nat) : Bool := (psK T D k).all (fun p => !p.2 || p.1)
def oldK (T D : List Bool) (k : Nat) : Bool := (psK T D k).all (fun p => !p.1)
theorem goodK_succ {T D : List Bool} {k : Nat} {t d : Bool} (h1 : (T[k]?).getD false = t) (h2 : (D[k]?).getD false = d) : goodK T D (k + 1) = (goodK T D k && (!d || t)) ∧ oldK T D (k + 1) = (oldK T D k && !t) := by
  unfold goodK oldK
  rw [psK_at h1 h2, List.all_append, List.all_append]
  simp
theorem rsK_succ {data : ByteArray} {T D : List Bool} {k : Nat} {t d : Bool} (h1 : (T[k]?).getD false = t) (h2 : (D[k]?).getD false = d) : rsK data T D (k + 1) = rsK data T D k ++ [rOp data (t, d)] := by
  unfold rsK
  rw [psK_at h1 h2, List.map_append]
  rfl
set_option maxRecDepth 100000 in
set_option maxHeartbeats 4000000 in
theorem w_LinReads (a0 : Option Addr) (n0 c0 : Nat) (a1 : ByteArray) (a2 : Option Addr) (n2 c2 : Nat) (w : World) (b0 : Sh.Is w (.slice 1 .bool) [.slice a0 n0 c0]) (b1 : a1.size ≤ 140737488351232) (b2 : Sh.Is w (.slice 1 .bool) [.slice a2 n2 c2]) :
    Calls Try.prog 8 #[.slice a0 n0 c0, .string a1, .slice a2 n2 c2] w fun e w' => e = .returned (.bool true) ∧ Below w.heap.size w w' := by
  obtain ⟨T, ht1, ht2⟩ := is_bools b0
  obtain ⟨D, hd1, hd2⟩ := is_bools b2
  have HTL := Lib.hid ht1; have HDL := Lib.hid hd1
  have HTR : Hid (∀ W' (l : List Th), Sep w W' l → Rd W' a0 (eBool.fl T)) := Lib.hid (fun W' l h => ht2.below h.bel)
  have HDR : Hid (∀ W' (l : List Th), Sep w W' l → Rd W' a2 (eBool.fl D)) := Lib.hid (fun W' l h => hd2.below h.bel)
  clear b0 b2 ht1 ht2 hd1 hd2
  go_enter Try.func8, Try.ntmps8
  go_wp2_with fail
  refine (awake_any _).mono ?_
  rintro e w1 ⟨rfl, hB1⟩
  have HS := Lib.hid ((Sep.nil w).step hB1)
  clear hB1
  have hm8 := make8
  have hc8 := conv8
  obtain ⟨nn, hnn⟩ : ∃ x, none8 = x := ⟨_, rfl⟩
  have HNN := Lib.hid hnn
  rw [hnn] at hc8
  clear hnn
  have HT := Lib.hid (HS.out.alloc (.cells Z8 5))
  go_upto_region 4 with fail
  generalize w1.alloc (.cells Z8 5) = w2 at *
  clear hm8 hc8
  by_cases heq : a1 = nn
  · subst heq
    have e1 := str_same a1
    go_wp2_with fail
    go_ret
    exact ⟨rfl, HT.out.bel⟩
  have e1 := str_ne heq
  by_cases hn8 : 8 < n0
  · have q1 : decide ((8 : Int) < (n0 : Int)) = true := by simp; omega
    have q2 : (8 : Int) < (n0 : Int) := by omega
    go_wp2_with fail
    go_ret
    exact ⟨rfl, HT.out.bel⟩
  have q1 : decide ((8 : Int) < (n0 : Int)) = false := by simp; omega
  have q2 : ¬ (8 : Int) < (n0 : Int) := by omega
  have HNE := Lib.hid (show a1 ≠ none8 by rw [HNN.out]; exact heq)
  have HT := Lib.hid (HT.out.newOwnN (wOp a1).cs tOp 8 1 (g := w2.heap.size) rfl rfl (by decide))
  unfold wOp LOp.cs at HT
  simp only at HT
  go_upto_region 7 with fail
  go_wp2_with fail
  go_loopg [8, 9, 37] n0 (fun gk s8 s9 s37 wr => ∃ (k : Nat) (A : Option Addr) (c : Nat) (rg : Bool), s8 = .slice A (k + 1) c ∧ s9 = .bool rg ∧ rg = goodK T D k ∧ s37 = .int .i64 (k : Int) ∧ k ≤ n0 ∧ gk = n0 - k ∧ Sep w wr [tOwn tOp 8 (.slice A (k + 1) c) (k + 1) (eOp.fl (wOp a1 :: rsK a1 T D k))])
  case atStart => exact ⟨0, _, _, true, rfl, rfl, rfl, rfl, by omega, by omega, HT.out⟩
  case round =>
  clear HT
  obtain ⟨k, A, c, rg, rfl, rfl, hrg, rfl, hk, hgk, hs⟩ := hrel
  have HT := Lib.hid hs
  have HRG := Lib.hid hrg
  clear hs hrg
  by_cases hkn : k < n0
  · have j1 : decide ((k : Int) < (n0 : Int)) = true := by simp; omega
    have j2 : (k : Int) < (n0 : Int) := by omega
    have j3 : (0 : Int) ≤ (k : Int) := by omega
    have hwk : IntKind.i64.wrap ((k : Int) + 1) = (k : Int) + 1 := IntWalk.i64_in _ (by omega)
    have HBD := Lib.hid (show (k + 1 + 1) * 80 ≤ 140737488355328 by omega)
    obtain ⟨t, ht⟩ : ∃ t, T[k]? = some t := ⟨_, List.getElem?_eq_getElem (by rw [HTL.out]; exact hkn)⟩
    obtain ⟨gt, ot, rfl, hx⟩ := (HTR.out wr _ HT.out).boolAt k t ht
    have hx2 : ∀ o, (wr.alloc o).cell? ⟨gt, ot + k, none⟩ = some (.bool t) := fun o => (((Below.refl wr.heap.size wr).alloc (Nat.le_refl _) o).cell (World.block_lt_of_cell? wr _ hx)).trans hx
    have HGT := Lib.hid (show (T[k]?).getD false = t by rw [ht]; rfl)
    clear ht
    by_cases hk2 : k < n2
    · have f1 : decide ((k : Int) < (n2 : Int)) = true := by simp; omega
      have f2 : (k : Int) < (n2 : Int) := by omega
      obtain ⟨d, hd⟩ : ∃ d, D[k]? = some d := ⟨_, List.getElem?_eq_getElem (by rw [HDL.out]; exact hk2)⟩
      obtain ⟨gd, od, rfl, hy⟩ := (HDR.out wr _ HT.out).boolAt k d hd
      have hy2 : ∀ o, (wr.alloc o).cell? ⟨gd, od + k, none⟩ = some (.bool d) := fun o => (((Below.refl wr.heap.size wr).alloc (Nat.le_refl _) o).cell (World.block_lt_of_cell? wr _ hy)).trans hy
      have HGD := Lib.hid (show (D[k]?).getD false = d by rw [hd]; rfl)
      clear hd
      cases d
      · cases t
        · have HCX := Lib.hid (show (rOp a1 (false, false)).cells = [.int .i64 1, .int .i64 5, .string { data := #[] }, .int .i64 10, .int .i64 20, .bool true, .int .i64 0, .string nn] by rw [← HNN.out]; rfl)
          have HSU := Lib.hid (rsK_succ (data := a1) HGT.out HGD.out)
          have HGS := Lib.hid (goodK_succ HGT.out HGD.out).1
          cases rg
          all_goals (
            go_wp2_with (at_builtin; refine app1O 22 tOp (.agg #[.int .i64 0, .int .i64 0, .string ByteArray.empty, .int .i64 0, .int .i64 0, .bool false, .int .i64 0, .string ByteArray.empty]) 8 80 [.int .i64 1, .int .i64 5, .string { data := #[] }, .int .i64 10, .int .i64 20, .bool true, .int .i64 0, .string nn] (HT.out.alloc _).own HBD.out Try.underlying22 Try.infoO rfl (by decide) (by decide) rfl (by rw [← HCX.out]; exact eOp.one _) (.tmp 75) (.tmp 77) rfl rfl rfl (by show Value.slice (some ⟨wr.heap.size + 1, 0, none⟩) 1 1 = _; simp) ?_; intro v1 w5 ho1 hg1 hat1; obtain ⟨A1, c1, rfl, _⟩ := ho1.form; have HT := Lib.hid ((HT.out.alloc (.cells #[.int .i64 1, .int .i64 5, .string { data := #[] }, .int .i64 10, .int .i64 20, .bool true, .int .i64 0, .string nn] tOp)).appG ho1 hg1 hat1); clear ho1 hg1 hat1)
            go_roundg (n0 - (k + 1))
            case measure => omega
            case rel =>
              refine ⟨k + 1, A1, c1, _, rfl, rfl, by rw [HGS.out, ← HRG.out]; rfl, by push_cast; rfl, by omega, rfl, ?_⟩
              rw [HSU.out, ← List.cons_append, Enc.snoc, show eOp.f (rOp a1 (false, false)) = [.int .i64 1, .int .i64 5, .string { data := #[] }, .int .i64 10, .int .i64 20, .bool true, .int .i64 0, .string nn] from HCX.out]
              exact HT.out)
        · have HCX := Lib.hid (show (rOp a1 (true, false)).cells = [.int .i64 1, .int .i64 5, .string { data := #[] }, .int .i64 10, .int .i64 20, .bool true, .int .i64 0, .string a1] by rfl)
          have HSU := Lib.hid (rsK_succ (data := a1) HGT.out HGD.out)
          have HGS := Lib.hid (goodK_succ HGT.out HGD.out).1
          cases rg
          all_goals (
            go_wp2_with (at_builtin; refine app1O 22 tOp (.agg #[.int .i64 0, .int .i64 0, .string ByteArray.empty, .int .i64 0, .int .i64 0, .bool false, .int .i64 0, .string ByteArray.empty]) 8 80 [.int .i64 1, .int .i64 5, .string { data := #[] }, .int .i64 10, .int .i64 20, .bool true, .int .i64 0, .string a1] (HT.out.alloc _).own HBD.out Try.underlying22 Try.infoO rfl (by decide) (by decide) rfl (by rw [← HCX.out]; exact eOp.one _) (.tmp 75) (.tmp 77) rfl rfl rfl (by show Value.slice (some ⟨wr.heap.size + 1, 0, none⟩) 1 1 = _; simp) ?_; intro v1 w5 ho1 hg1 hat1; obtain ⟨A1, c1, rfl, _⟩ := ho1.form; have HT := Lib.hid ((HT.out.alloc (.cells #[.int .i64 1, .int .i64 5, .string { data := #[] }, .int .i64 10, .int .i64 20, .bool true, .int .i64 0, .string a1] tOp)).appG ho1 hg1 hat1); clear ho1 hg1 hat1)
            go_roundg (n0 - (k + 1))
            case measure => omega
            case rel =>
              refine ⟨k + 1, A1, c1, _, rfl, rfl, by rw [HGS.out, ← HRG.out]; rfl, by push_cast; rfl, by omega, rfl, ?_⟩
              rw [HSU.out, ← List.cons_append, Enc.snoc, show eOp.f (rOp a1 (true, false)) = [.int .i64 1, .int .i64 5, .string { data := #[] }, .int .i64 10, .int .i64 20, .bool true, .int .i64 0, .string a1] from HCX.out]
              exact HT.out)
      · cases t
        · have HCX := Lib.hid (show (rOp a1 (false, true)).cells = [.int .i64 1, .int .i64 5, .string { data := #[] }, .int .i64 21, .int .i64 30, .bool true, .int .i64 0, .string nn] by rw [← HNN.out]; rfl)
          have HSU := Lib.hid (rsK_succ (data := a1) HGT.out HGD.out)
          have HGS := Lib.hid (goodK_succ HGT.out HGD.out).1
          cases rg
          all_goals (
            go_wp2_with (at_builtin; refine app1O 22 tOp (.agg #[.int .i64 0, .int .i64 0, .string ByteArray.empty, .int .i64 0, .int .i64 0, .bool false, .int .i64 0, .string ByteArray.empty]) 8 80 [.int .i64 1, .int .i64 5, .string { data := #[] }, .int .i64 21, .int .i64 30, .bool true, .int .i64 0, .string nn] (HT.out.alloc _).own HBD.out Try.underlying22 Try.infoO rfl (by decide) (by decide) rfl (by rw [← HCX.out]; exact eOp.one _) (.tmp 75) (.tmp 77) rfl rfl rfl (by show Value.slice (some ⟨wr.heap.size + 1, 0, none⟩) 1 1 = _; simp) ?_; intro v1 w5 ho1 hg1 hat1; obtain ⟨A1, c1, rfl, _⟩ := ho1.form; have HT := Lib.hid ((HT.out.alloc (.cells #[.int .i64 1, .int .i64 5, .string { data := #[] }, .int .i64 21, .int .i64 30, .bool true, .int .i64 0, .string nn] tOp)).appG ho1 hg1 hat1); clear ho1 hg1 hat1)
            go_roundg (n0 - (k + 1))
            case measure => omega
            case rel =>
              refine ⟨k + 1, A1, c1, _, rfl, rfl, by rw [HGS.out, ← HRG.out]; rfl, by push_cast; rfl, by omega, rfl, ?_⟩
              rw [HSU.out, ← List.cons_append, Enc.snoc, show eOp.f (rOp a1 (false, true)) = [.int .i64 1, .int .i64 5, .string { data := #[] }, .int .i64 21, .int .i64 30, .bool true, .int .i64 0, .string nn] from HCX.out]
              exact HT.out)
        · have HCX := Lib.hid (show (rOp a1 (true, true)).cells = [.int .i64 1, .int .i64 5, .string { data := #[] }, .int .i64 21, .int .i64 30, .bool true, .int .i64 0, .string a1] by rfl)
          have HSU := Lib.hid (rsK_succ (data := a1) HGT.out HGD.out)
          have HGS := Lib.hid (goodK_succ HGT.out HGD.out).1
          cases rg
          all_goals (
            go_wp2_with (at_builtin; refine app1O 22 tOp (.agg #[.int .i64 0, .int .i64 0, .string ByteArray.empty, .int .i64 0, .int .i64 0, .bool false, .int .i64 0, .string ByteArray.empty]) 8 80 [.int .i64 1, .int .i64 5, .string { data := #[] }, .int .i64 21, .int .i64 30, .bool true, .int .i64 0, .string a1] (HT.out.alloc _).own HBD.out Try.underlying22 Try.infoO rfl (by decide) (by decide) rfl (by rw [← HCX.out]; exact eOp.one _) (.tmp 75) (.tmp 77) rfl rfl rfl (by show Value.slice (some ⟨wr.heap.size + 1, 0, none⟩) 1 1 = _; simp) ?_; intro v1 w5 ho1 hg1 hat1; obtain ⟨A1, c1, rfl, _⟩ := ho1.form; have HT := Lib.hid ((HT.out.alloc (.cells #[.int .i64 1, .int .i64 5, .string { data := #[] }, .int .i64 21, .int .i64 30, .bool true, .int .i64 0, .string a1] tOp)).appG ho1 hg1 hat1); clear ho1 hg1 hat1)
            go_roundg (n0 - (k + 1))
            case measure => omega
            case rel =>
              refine ⟨k + 1, A1, c1, _, rfl, rfl, by rw [HGS.out, ← HRG.out]; rfl, by push_cast; rfl, by omega, rfl, ?_⟩
              rw [HSU.out, ← List.cons_append, Enc.snoc, show eOp.f (rOp a1 (true, true)) = [.int .i64 1, .int .i64 5, .string { data := #[] }, .int .i64 21, .int .i64 30, .bool true, .int .i64 0, .string a1] from HCX.out]
              exact HT.out)
    · have f1 : decide ((k : Int) < (n2 : Int)) = false := by simp; omega
      have f2 : ¬ (k : Int) < (n2 : Int) := by omega
      have HGD := Lib.hid (show (D[k]?).getD false = false by rw [List.getElem?_eq_none (by rw [HDL.out]; omega)]; rfl)
      cases t
      · have HCX := Lib.hid (show (rOp a1 (false, false)).cells = [.int .i64 1, .int .i64 5, .string { data := #[] }, .int .i64 10, .int .i64 20, .bool true, .int .i64 0, .string nn] by rw [← HNN.out]; rfl)
        have HSU := Lib.hid (rsK_succ (data := a1) HGT.out HGD.out)
        have HGS := Lib.hid (goodK_succ HGT.out HGD.out).1
        cases rg
        all_goals (
          go_wp2_with (at_builtin; refine app1O 22 tOp (.agg #[.int .i64 0, .int .i64 0, .string ByteArray.empty, .int .i64 0, .int .i64 0, .bool false, .int .i64 0, .string ByteArray.empty]) 8 80 [.int .i64 1, .int .i64 5, .string { data := #[] }, .int .i64 10, .int .i64 20, .bool true, .int .i64 0, .string nn] (HT.out.alloc _).own HBD.out Try.underlying22 Try.infoO rfl (by decide) (by decide) rfl (by rw [← HCX.out]; exact eOp.one _) (.tmp 75) (.tmp 77) rfl rfl rfl (by show Value.slice (some ⟨wr.heap.size + 1, 0, none⟩) 1 1 = _; simp) ?_; intro v1 w5 ho1 hg1 hat1; obtain ⟨A1, c1, rfl, _⟩ := ho1.form; have HT := Lib.hid ((HT.out.alloc (.cells #[.int .i64 1, .int .i64 5, .string { data := #[] }, .int .i64 10, .int .i64 20, .bool true, .int .i64 0, .string nn] tOp)).appG ho1 hg1 hat1); clear ho1 hg1 hat1)
          go_roundg (n0 - (k + 1))
          case measure => omega
          case rel =>
            refine ⟨k + 1, A1, c1, _, rfl, rfl, by rw [HGS.out, ← HRG.out]; rfl, by push_cast; rfl, by omega, rfl, ?_⟩
            rw [HSU.out, ← List.cons_append, Enc.snoc, show eOp.f (rOp a1 (false, false)) = [.int .i64 1, .int .i64 5, .string { data := #[] }, .int .i64 10, .int .i64 20, .bool true, .int .i64 0, .string nn] from HCX.out]
            exact HT.out)
      · have HCX := Lib.hid (show (rOp a1 (true, false)).cells = [.int .i64 1, .int .i64 5, .string { data := #[] }, .int .i64 10, .int .i64 20, .bool true, .int .i64 0, .string a1] by rfl)
        have HSU := Lib.hid (rsK_succ (data := a1) HGT.out HGD.out)
        have HGS := Lib.hid (goodK_succ HGT.out HGD.out).1
        cases rg
        all_goals (
          go_wp2_with (at_builtin; refine app1O 22 tOp (.agg #[.int .i64 0, .int .i64 0, .string ByteArray.empty, .int .i64 0, .int .i64 0, .bool false, .int .i64 0, .string ByteArray.empty]) 8 80 [.int .i64 1, .int .i64 5, .string { data := #[] }, .int .i64 10, .int .i64 20, .bool true, .int .i64 0, .string a1] (HT.out.alloc _).own HBD.out Try.underlying22 Try.infoO rfl (by decide) (by decide) rfl (by rw [← HCX.out]; exact eOp.one _) (.tmp 75) (.tmp 77) rfl rfl rfl (by show Value.slice (some ⟨wr.heap.size + 1, 0, none⟩) 1 1 = _; simp) ?_; intro v1 w5 ho1 hg1 hat1; obtain ⟨A1, c1, rfl, _⟩ := ho1.form; have HT := Lib.hid ((HT.out.alloc (.cells #[.int .i64 1, .int .i64 5, .string { data := #[] }, .int .i64 10, .int .i64 20, .bool true, .int .i64 0, .string a1] tOp)).appG ho1 hg1 hat1); clear ho1 hg1 hat1)
          go_roundg (n0 - (k + 1))
          case measure => omega
          case rel =>
            refine ⟨k + 1, A1, c1, _, rfl, rfl, by rw [HGS.out, ← HRG.out]; rfl, by push_cast; rfl, by omega, rfl, ?_⟩
            rw [HSU.out, ← List.cons_append, Enc.snoc, show eOp.f (rOp a1 (true, false)) = [.int .i64 1, .int .i64 5, .string { data := #[] }, .int .i64 10, .int .i64 20, .bool true, .int .i64 0, .string a1] from HCX.out]
            exact HT.out)
  · have j1 : decide ((k : Int) < (n0 : Int)) = false := by simp; omega
    have j2 : ¬ (k : Int) < (n0 : Int) := by omega
    have hkn : k = n0 := by omega
    subst hkn
    have hk8 : (psK T D k).length ≤ 8 := by rw [psK_len]; omega
    have HC1 := Lib.hid (show chkB (wOp a1 :: rsK a1 T D k) = rg by rw [HRG.out]; exact reads_wr HNE.out _ hk8)
    have HC2 := Lib.hid (show chkB (rsK a1 T D k) = oldK T D k from reads_alone HNE.out _ hk8)
    have HE1 := Lib.hid (show errs (wOp a1 :: rsK a1 T D k) = 0 from (errs_reads a1 _ hk8).2)
    have HE2 := Lib.hid (show errs (rsK a1 T D k) = 0 from (errs_reads a1 _ hk8).1)
    have HLW := Lib.hid (show (wOp a1 :: rsK a1 T D k).length = k + 1 by rw [List.length_cons, rsK_len])
    have HLR := Lib.hid (rsK_len a1 T D k)
    have HOW := Lib.hid (reads_ok a1 b1 T D k)
    have HOR := Lib.hid (show ∀ o ∈ rsK a1 T D k, o.ok from fun o ho => reads_ok a1 b1 T D k o (List.mem_cons_of_mem _ ho))
    obtain ⟨g8, c8, hv⟩ := HT.out.own.pos (by omega)
    simp only [Value.slice.injEq, true_and] at hv
    obtain ⟨rfl, rfl⟩ := hv
    have HA2 : ∃ A2 : Option Addr, (if c = 1 then some ⟨g8, 0, none⟩ else some ⟨g8, 8, none⟩) = A2 := ⟨_, rfl⟩
    obtain ⟨A2, hA2⟩ := HA2
    have hcc := HT.out.own.cap.1
    have HR2 : Hid (∀ W', Sep w W' [tOwn tOp 8 (.slice (some ⟨g8, 0, none⟩) (k + 1) c) (k + 1) (eOp.fl (wOp a1 :: rsK a1 T D k))] → Rd W' A2 (eOp.fl (rsK a1 T D k))) := Lib.hid (fun W' h => by
      rw [← hA2]
      split
      · have hk0 : k = 0 := by omega
        rw [show rsK a1 T D k = [] from List.eq_nil_of_length_eq_zero (by rw [rsK_len]; exact hk0)]
        exact Rd.nil _ _
      · have := h.own.rd.dropAt 8
        rw [Enc.cons] at this
        exact this)
    clear hk8
    have i5 : (1 : Int) ≤ (k : Int) + 1 := by omega
    go_upto_region 21 with (go_at_call 15; refine (check_any (wOp a1 :: rsK a1 T D k) (some ⟨g8, 0, none⟩) (k + 1) c HLW.out (by omega) HOW.out (fun W' h => h.own.rd) HT.out).mono ?_; rw [HC1.out, HE1.out]; rintro e w11 ⟨rfl, hS⟩; have HT2 := Lib.hid hS; clear hS)
    go_upto_region 22 with (go_at_call 15; refine (check_any (rsK a1 T D k) A2 k _ HLR.out (by omega) HOR.out (fun W' h => HR2.out W' h) HT2.out).mono ?_; rw [HC2.out, HE2.out]; rintro e w12 ⟨rfl, hS⟩; have HT3 := Lib.hid hS; clear hS)
    have HT4 := Lib.hid HT3.out.bel
    have HS4 := Lib.hid ((Sep.nil w).step HT4.out)
    clear HT HT2 HT3 HC1 HE1 HE2 HLW HLR HOW HOR HR2
    go_wp2_with fail
    go_loopg [17, 93] k (fun gk s17 s93 wr => ∃ (j : Nat) (ol : Bool), s17 = .bool ol ∧ ol = oldK T D j ∧ s93 = .int .i64 (j : Int) ∧ j ≤ k ∧ gk = k - j ∧ Sep w wr [])
    case atStart => exact ⟨0, true, rfl, rfl, rfl, by omega, by omega, HS4.out⟩
    case round =>
    clear HT4 HS4
    obtain ⟨j, ol, rfl, hol, rfl, hj, hgj, hs⟩ := hrel
    have HT := Lib.hid hs
    have HOL := Lib.hid hol
    clear hs hol
    by_cases hjk : j < k
    · have m1 : decide ((j : Int) < (k : Int)) = true := by simp; omega
      have m2 : (j : Int) < (k : Int) := by omega
      have m3 : (0 : Int) ≤ (j : Int) := by omega
      have hwj : IntKind.i64.wrap ((j : Int) + 1) = (j : Int) + 1 := IntWalk.i64_in _ (by omega)
      obtain ⟨t, ht⟩ : ∃ t, T[j]? = some t := ⟨_, List.getElem?_eq_getElem (by rw [HTL.out]; exact hjk)⟩
      obtain ⟨gt, ot, rfl, hx⟩ := (HTR.out wr _ HT.out).boolAt j t ht
      have HGS := Lib.hid (goodK_succ (T := T) (D := D) (k := j) (show (T[j]?).getD false = t by rw [ht]; rfl) rfl).2
      clear ht
      cases ol <;> cases t
      all_goals (
        go_wp2_with fail
        go_roundg (k - (j + 1))
        case measure => omega
        case rel => exact ⟨j + 1, _, rfl, by rw [HGS.out, ← HOL.out]; rfl, by push_cast; rfl, by omega, rfl, HT.out⟩)
    · have m1 : decide ((j : Int) < (k : Int)) = false := by simp; omega
      have m2 : ¬ (j : Int) < (k : Int) := by omega
      have hjk : j = k := by omega
      have HOK := Lib.hid (show oldK T D k = ol by rw [HOL.out, hjk])
      generalize oldK T D k = ok at *
      have hok := HOK.out
      subst hok
      go_wp2_with fail
      all_goals (go_ret; exact ⟨by simp, HT.out.bel⟩)
end Go.Proofs.Ytkajkomljgdghaa
