/- The walks of the laws' own functions: letters of acts, rows that are equal, sizes. Conditions: sizes. -/
import Derived.Test.YtodjmeodcmbdoaaCliY
import Derived.Test.YtodjmeodcmbdoaaMaiN
import Derived.Test.YtodjmeodcmbdoaaRow
set_option linter.unusedVariables false
set_option linter.unusedSimpArgs false
namespace Go.Proofs.Ytodjmeodcmbdoaa
open Go.RowKit
structure Ac where
  kind : Int
  fr : Int
  rcv : Int
  m : Msg
  s : ByteArray
abbrev tAc : TypeId := 37
def Ac.cs (x : Ac) : Array Value := #[.int .i64 x.kind, .int .i64 x.fr, .int .i64 x.rcv, .int .i64 x.m.kind, .int .i64 x.m.a, .int .i64 x.m.b, .int .i64 x.m.c, .int .i64 x.m.d, .int .i64 x.m.e, .int .i64 x.m.er, .int .i64 x.m.p0, .int .i64 x.m.p1, .int .i64 x.m.p2, .int .i64 x.m.p3, .string x.m.s, .string x.m.t, .string x.s]
def eAc : Enc Ac := ⟨fun x => x.cs.toList, 17, fun _ => rfl, fun x u hu => by
  simp only [Ac.cs, List.mem_cons, List.not_mem_nil, or_false] at hu
  rcases hu with rfl | rfl | rfl | rfl | rfl | rfl | rfl | rfl | rfl | rfl | rfl | rfl | rfl | rfl | rfl | rfl | rfl <;> rfl⟩
def Ac.lt (x : Ac) : Let := ⟨x.fr, x.rcv, if x.s.size = 0 then mOut x.m else x.s⟩
theorem Ac.body {x : Ac} (h : x.s.size ≤ 1000) : x.lt.body.size ≤ 65536 := by
  unfold Ac.lt
  simp only
  split
  · cases hm : mayM x.m with
    | true => have := (mOut_size hm).1; omega
    | false => rw [(mOut_no hm).1]; decide
  · omega
theorem Rd.act {w : World} {A : Option Addr} {l : List Ac} (h : Rd w A (eAc.fl l)) (k : Nat) (x : Ac) (hx : l[k]? = some x) :
    ∃ b o, A = some ⟨b, o, none⟩ ∧ ∀ j v, x.cs.toList[j]? = some v → w.cell? ⟨b, o + k * 17 + j, none⟩ = some v := by
  obtain ⟨hk, rfl⟩ := List.getElem?_eq_some_iff.1 hx
  obtain ⟨b, o, e, hc⟩ := h.elem k hk (by decide)
  exact ⟨b, o, e, hc⟩
set_option maxRecDepth 100000 in
theorem letter_any (x : Ac) (w : World) : Calls Try.prog 15 #[.agg x.cs] w fun e w' => e = .returned (.agg x.lt.cs) ∧ Below w.heap.size w w' := by
  obtain ⟨g, hg⟩ : ∃ g, w.heap.size = g := ⟨_, rfl⟩
  have HS := Lib.hid (((Sep.nil w).newBlk x.cs tAc hg).newBlk #[.int .i64 0, .int .i64 0, .string noS] tLt (g := g + 1) (by simp [hg]))
  have HG := Lib.hid hg
  clear hg
  obtain ⟨kd, fr, rc, ⟨k, a, bb, c, d, ee, er, p0, p1, p2, p3, s, t⟩, ss⟩ := x
  unfold Ac.cs at HS ⊢
  simp only at HS ⊢
  go_enter Try.func15, Try.ntmps15
  go_upto_region 1 with fail
  simp only [HG.out]
  generalize (w.alloc (.cells #[.int .i64 kd, .int .i64 fr, .int .i64 rc, .int .i64 k, .int .i64 a, .int .i64 bb, .int .i64 c, .int .i64 d, .int .i64 ee, .int .i64 er, .int .i64 p0, .int .i64 p1, .int .i64 p2, .int .i64 p3, .string s, .string t, .string ss] tAc)).alloc (.cells #[.int .i64 0, .int .i64 0, .string { data := #[] }] tLt) = w1 at *
  have hz := (show Blk w1 g #[.int .i64 kd, .int .i64 fr, .int .i64 rc, .int .i64 k, .int .i64 a, .int .i64 bb, .int .i64 c, .int .i64 d, .int .i64 ee, .int .i64 er, .int .i64 p0, .int .i64 p1, .int .i64 p2, .int .i64 p3, .string s, .string t, .string ss] tAc from HS.out.h2)
  have z1 := hz.cell 1; have z2 := hz.cell 2; have z16 := hz.cell 16
  simp at z1 z2 z16
  have HB := Lib.hid hz
  clear hz
  by_cases h0 : ss.size = 0
  · obtain rfl := str_empty h0
    have HX := Lib.hid (show (Ac.mk kd fr rc ⟨k, a, bb, c, d, ee, er, p0, p1, p2, p3, s, t⟩ { data := #[] }).lt = ⟨fr, rc, mOut ⟨k, a, bb, c, d, ee, er, p0, p1, p2, p3, s, t⟩⟩ from rfl)
    clear h0
    have hz := HB.out
    have x3 := hz.cell 3; have x4 := hz.cell 4; have x5 := hz.cell 5; have x6 := hz.cell 6; have x7 := hz.cell 7; have x8 := hz.cell 8; have x9 := hz.cell 9; have x10 := hz.cell 10; have x11 := hz.cell 11; have x12 := hz.cell 12; have x13 := hz.cell 13; have x14 := hz.cell 14; have x15 := hz.cell 15
    simp at x3 x4 x5 x6 x7 x8 x9 x10 x11 x12 x13 x14 x15
    clear hz
    go_upto_region 4 with (go_at_call 25; refine (rmencode_any ⟨k, a, bb, c, d, ee, er, p0, p1, p2, p3, s, t⟩ _).mono ?_; rintro e1 w2 ⟨rfl, hB⟩; have HS := Lib.hid (HS.out.step hB); clear hB)
    clear x3 x4 x5 x6 x7 x8 x9 x10 x11 x12 x13 x14 x15 z1 z2 z16
    generalize mOut ⟨k, a, bb, c, d, ee, er, p0, p1, p2, p3, s, t⟩ = q at *
    have hz := (show Blk w2 g _ tAc from HS.out.h2)
    have z1 := hz.cell 1; have z2 := hz.cell 2
    simp at z1 z2
    clear hz
    have hb : ∀ (w : World), (Instr.build tLt #[(0, .int .i64 fr), (1, .int .i64 rc), (2, .string q)]).run Try.prog w = .ok (.agg #[.int .i64 fr, .int .i64 rc, .string q]) w := fun w => run_build w tLt _ _ (by kernel_rfl)
    refine wp_region_lit (l := [_, _, _, _, _, _, _]) ?_
    iterate 6 (refine wpList_plain rfl fun _ hK => ?_; go_simp; refine hK _ _ ?_)
    refine storeR #[.int .i64 fr, .int .i64 rc, .string q] (show Blk w2 (g + 1) #[.int .i64 0, .int .i64 0, .string noS] tLt from HS.out.hd) rfl infoL3 (by simp [Value.oneCell']) rfl (.tmp 2) (.tmp 19) rfl rfl rfl ?_
    intro W3 hb3 hu3
    have HB3 := Lib.hid hb3
    have HS3 := Lib.hid (HS.out.put hb3 hu3)
    clear hb3 hu3
    go_wp2_with fail
    refine ret_cell (k := 2) (by kernel_rfl) rfl rfl HB3.out (by kernel_rfl) infoL3 ⟨?_, HS3.out.bel⟩
    rw [HX.out]
    rfl
  · have HX := Lib.hid (show (Ac.mk kd fr rc ⟨k, a, bb, c, d, ee, er, p0, p1, p2, p3, s, t⟩ ss).lt = ⟨fr, rc, ss⟩ by unfold Ac.lt; simp only [if_neg h0])
    have f1 : ¬ (ss = { data := #[] }) := by rintro rfl; exact h0 rfl
    have f2 : (ss.toList == ByteArray.toList { data := #[] }) = false := str_ne f1
    have f4 : ¬ (ss.toList = ByteArray.toList { data := #[] }) := fun e => by rw [e] at f2; simp at f2
    have f7 : ss.toList.isEmpty = false := by
      rw [ByteArray.toList_eq, List.isEmpty_eq_false_iff]
      intro e
      exact h0 (by have := congrArg List.length e; simpa using this)
    clear h0
    go_upto_region 4 with fail
    clear f1 f2 f4 f7
    have hb : ∀ (w : World), (Instr.build tLt #[(0, .int .i64 fr), (1, .int .i64 rc), (2, .string ss)]).run Try.prog w = .ok (.agg #[.int .i64 fr, .int .i64 rc, .string ss]) w := fun w => run_build w tLt _ _ (by kernel_rfl)
    refine wp_region_lit (l := [_, _, _, _, _, _, _]) ?_
    iterate 6 (refine wpList_plain rfl fun _ hK => ?_; go_simp; refine hK _ _ ?_)
    refine storeR #[.int .i64 fr, .int .i64 rc, .string ss] (show Blk w1 (g + 1) #[.int .i64 0, .int .i64 0, .string noS] tLt from HS.out.hd) rfl infoL3 (by simp [Value.oneCell']) rfl (.tmp 2) (.tmp 19) rfl rfl rfl ?_
    intro W3 hb3 hu3
    have HB3 := Lib.hid hb3
    have HS3 := Lib.hid (HS.out.put hb3 hu3)
    clear hb3 hu3
    go_wp2_with fail
    refine ret_cell (k := 2) (by kernel_rfl) rfl rfl HB3.out (by kernel_rfl) infoL3 ⟨?_, HS3.out.bel⟩
    rw [HX.out]
    rfl
set_option maxRecDepth 100000 in
theorem same_any (l : List Res) (A A' : Option Addr) (n c c' : Nat) (w : World) (hl : l.length = n) (hn : n ≤ 2000) (hr : Rd w A (eRs.fl l)) (hr' : Rd w A' (eRs.fl l)) :
    Calls Try.prog 19 #[.slice A n c, .slice A' n c'] w fun e w' => e = .returned (.bool true) ∧ Below w.heap.size w w' := by
  have HL := Lib.hid hl; have HR := Lib.hid hr; have HR' := Lib.hid hr'
  clear hl hr hr'
  go_enter Try.func19, Try.ntmps19
  go_wp2_with fail
  go_loopg [13] n (fun gk s13 wr => ∃ (j : Nat), s13 = .int .i64 (j : Int) ∧ j ≤ n ∧ gk = n - j ∧ Below w.heap.size w wr)
  case atStart => exact ⟨0, rfl, by omega, by omega, Below.refl _ _⟩
  case round =>
  obtain ⟨j, rfl, hj, hgj, hB⟩ := hrel
  have HB := Lib.hid hB
  clear hB
  by_cases hjn : j < n
  · have k1 : (j : Int) < (n : Int) := by omega
    have k0 : (0 : Int) ≤ (j : Int) := by omega
    have HX := Lib.hid (List.getElem?_eq_getElem (l := l) (i := j) (by rw [HL.out]; exact hjn))
    generalize l[j]'(by rw [HL.out]; exact hjn) = x at *
    obtain ⟨b, o, rfl, u0, u1⟩ := (HR.out.below HB.out).res j x HX.out
    obtain ⟨b', o', rfl, v0, v1⟩ := (HR'.out.below HB.out).res j x HX.out
    obtain ⟨xe, xd⟩ := x
    simp only at u0 u1 v0 v1
    have HW : Hid (wr.drew.cell? ⟨b, o + j * 2, none⟩ = some (.int .i64 xe) ∧ wr.drew.cell? ⟨b, o + j * 2 + 1, none⟩ = some (.string xd) ∧ wr.drew.cell? ⟨b', o' + j * 2, none⟩ = some (.int .i64 xe) ∧ wr.drew.cell? ⟨b', o' + j * 2 + 1, none⟩ = some (.string xd)) := Lib.hid ⟨u0, u1, v0, v1⟩
    go_upto_region 6 with fail
    refine wp_region_L (fun w' => w'.cell? ⟨b, o + j * 2, none⟩ = some (.int .i64 xe) ∧ w'.cell? ⟨b, o + j * 2 + 1, none⟩ = some (.string xd) ∧ w'.cell? ⟨b', o' + j * 2, none⟩ = some (.int .i64 xe) ∧ w'.cell? ⟨b', o' + j * 2 + 1, none⟩ = some (.string xd)) 9 (by kernel_rfl) HW.out (fun hHeld => ?_)
    refine reg_take (i := 0) (d := 16) (v := ?_) [] rfl rfl (by kernel_rfl) (by kernel_rfl) (fun _ _ _ h => h) (Or.inl ⟨by rfl, ?_⟩) (by assumption) ?_
    rotate_left
    · (intro w hSw; (try dsimp only at hSw); go_simp; first | done | with_reducible rfl)
    try simp only [List.setIfInBounds_toArray, List.set_cons_zero, List.set_cons_succ]
    refine reg_take (i := 1) (d := 17) (v := ?_) [] rfl rfl (by kernel_rfl) (by kernel_rfl) (fun _ _ _ h => h) (Or.inl ⟨by rfl, ?_⟩) (by assumption) ?_
    rotate_left
    · (intro w hSw; (try dsimp only at hSw); go_simp; first | done | with_reducible rfl)
    try simp only [List.setIfInBounds_toArray, List.set_cons_zero, List.set_cons_succ]
    refine reg_take (i := 2) (d := 18) (v := ?_) [] rfl rfl (by kernel_rfl) (by kernel_rfl) (fun _ _ _ h => h) (Or.inl ⟨by rfl, ?_⟩) (by assumption) ?_
    rotate_left
    · (intro w hSw; (try dsimp only at hSw); go_simp; first | done | with_reducible rfl)
    try simp only [List.setIfInBounds_toArray, List.set_cons_zero, List.set_cons_succ]
    refine reg_take (i := 3) (d := 19) (v := ?_) [] rfl rfl (by kernel_rfl) (by kernel_rfl) (fun _ _ _ h => h) (Or.inl ⟨by rfl, ?_⟩) (by assumption) ?_
    rotate_left
    · (intro w hSw; (try dsimp only at hSw); go_simp; first | done | with_reducible rfl)
    try simp only [List.setIfInBounds_toArray, List.set_cons_zero, List.set_cons_succ]
    refine reg_take (i := 4) (d := 20) (v := ?_) [] rfl rfl (by kernel_rfl) (by kernel_rfl) (fun _ _ _ h => h) (Or.inl ⟨by rfl, ?_⟩) (by assumption) ?_
    rotate_left
    · (intro w hSw; (try dsimp only at hSw); go_simp; first | done | with_reducible rfl)
    try simp only [List.setIfInBounds_toArray, List.set_cons_zero, List.set_cons_succ]
    refine reg_take (i := 5) (d := 21) (v := ?_) [] rfl rfl (by kernel_rfl) (by kernel_rfl) (fun _ _ _ h => h) (Or.inl ⟨by rfl, ?_⟩) (by assumption) ?_
    rotate_left
    · (intro w hSw; (try dsimp only at hSw); go_simp; first | done | with_reducible rfl)
    try simp only [List.setIfInBounds_toArray, List.set_cons_zero, List.set_cons_succ]
    refine reg_take (i := 6) (d := 22) (v := ?_) [] rfl rfl (by kernel_rfl) (by kernel_rfl) (fun _ _ _ h => h) (Or.inl ⟨by rfl, ?_⟩) (by assumption) ?_
    rotate_left
    · (intro w hSw; (try dsimp only at hSw); go_simp; first | done | with_reducible rfl)
    try simp only [List.setIfInBounds_toArray, List.set_cons_zero, List.set_cons_succ]
    refine reg_take (i := 7) (d := 23) (v := ?_) [] rfl rfl (by kernel_rfl) (by kernel_rfl) (fun _ _ _ h => h) (Or.inl ⟨by rfl, ?_⟩) (by assumption) ?_
    rotate_left
    · (intro w hSw; (try dsimp only at hSw); go_simp; first | done | with_reducible rfl)
    try simp only [List.setIfInBounds_toArray, List.set_cons_zero, List.set_cons_succ]
    refine reg_take (i := 8) (d := 24) (v := ?_) [] rfl rfl (by kernel_rfl) (by kernel_rfl) (fun _ _ _ h => h) (Or.inl ⟨by rfl, ?_⟩) (by assumption) ?_
    rotate_left
    · (intro w hSw; (try dsimp only at hSw); go_simp; first | done | with_reducible rfl)
    try simp only [List.setIfInBounds_toArray, List.set_cons_zero, List.set_cons_succ]
    refine wpAnyL_done (by kernel_rfl) ?_ _
    clear u0 u1 v0 v1
    go_wp2_with fail
    go_roundg (n - (j + 1))
    case measure => omega
    case rel => exact ⟨j + 1, by push_cast; rfl, by omega, rfl, HB.out.drew⟩
  · have k1 : ¬ (j : Int) < (n : Int) := by omega
    have k2 : decide ((j : Int) < (n : Int)) = false := by simp; omega
    go_wp2_with fail
    go_ret
    exact ⟨rfl, HB.out⟩
def LPost (n : Nat) (la : List Ac) (w : World) (e : Ending) (w' : World) : Prop :=
  ∃ r, e = .returned (.bool r) ∧ w' = w ∧ (r = false → n ≤ 1100 ∧ ∀ (i : Nat) (x : Ac), i < 100 → la[i]? = some x → x.s.size ≤ 1000)
set_option maxRecDepth 100000 in
theorem large_any (l : List Cal) (la : List Ac) (A A' : Option Addr) (n n' c c' : Nat) (w : World) (hl : l.length = n) (hl' : la.length = n') (hr : Rd w A (eC.fl l)) (hr' : Rd w A' (eAc.fl la)) (hb : n' ≤ 140737488355328) :
    Calls Try.prog 9 #[.slice A n c, .slice A' n' c'] w (LPost n la w) := by
  have HL := Lib.hid hl; have HL' := Lib.hid hl'; have HR := Lib.hid hr; have HR' := Lib.hid hr'
  clear hl hl' hr hr'
  by_cases hn : 1100 < n
  · have f1 : (1100 : Int) < (n : Int) := by omega
    go_enter Try.func9, Try.ntmps9
    go_wp2
    go_ret
    exact ⟨true, rfl, rfl, fun h => by cases h⟩
  have f1 : decide ((1100 : Int) < (n : Int)) = false := decide_eq_false (by omega)
  have f1' : ¬ (1100 : Int) < (n : Int) := by omega
  go_enter Try.func9, Try.ntmps9
  go_wp2_with fail
  clear f1 f1'
  go_loopg [12] n (fun gk s12 wr => ∃ (j : Nat), s12 = .int .i64 (j : Int) ∧ j ≤ n ∧ gk = n - j ∧ wr = w)
  case atStart => exact ⟨0, rfl, by omega, by omega, rfl⟩
  case round =>
  obtain ⟨j, rfl, hj, hgj, hwr⟩ := hrel
  rw [hwr]
  clear hwr
  by_cases hjn : j < n
  · have k1 : (j : Int) < (n : Int) := by omega
    have k0 : (0 : Int) ≤ (j : Int) := by omega
    have HX := Lib.hid (List.getElem?_eq_getElem (l := l) (i := j) (by rw [HL.out]; exact hjn))
    generalize l[j]'(by rw [HL.out]; exact hjn) = x at *
    obtain ⟨b, o, rfl, _, _, u2⟩ := HR.out.cal j x HX.out
    by_cases hx : 1000 < x.data.size
    · have g1 : (1000 : Int) < (x.data.size : Int) := by omega
      go_wp2_with fail
      go_ret
      exact ⟨true, rfl, rfl, fun h => by cases h⟩
    · have g1 : ¬ (1000 : Int) < (x.data.size : Int) := by omega
      have g2 : decide ((1000 : Int) < (x.data.size : Int)) = false := decide_eq_false g1
      clear hx
      go_wp2_with fail
      go_roundg (n - (j + 1))
      case measure => omega
      case rel => exact ⟨j + 1, by push_cast; rfl, by omega, rfl, rfl⟩
  · have k1 : ¬ (j : Int) < (n : Int) := by omega
    have k2 : decide ((j : Int) < (n : Int)) = false := by simp; omega
    go_wp2_with fail
    clear k1 k2 hjn hgj
    go_loopg [6] n' (fun gk s6 wr => ∃ (j : Nat), s6 = .int .i64 (j : Int) ∧ j ≤ n' ∧ gk = n' - j ∧ wr = w ∧ ∀ (i : Nat) (x : Ac), i < j → la[i]? = some x → x.s.size ≤ 1000)
    case atStart => exact ⟨0, rfl, by omega, by omega, rfl, fun i x h => by omega⟩
    case round =>
    obtain ⟨q, rfl, hq, hgq, hwr, hall⟩ := hrel
    rw [hwr]
    clear hwr
    have HA := Lib.hid hall
    clear hall
    by_cases hqn : q < n'
    · have k1 : (q : Int) < (n' : Int) := by omega
      have k0 : (0 : Int) ≤ (q : Int) := by omega
      by_cases hq100 : q < 100
      · have k3 : (q : Int) < 100 := by omega
        have HX := Lib.hid (List.getElem?_eq_getElem (l := la) (i := q) (by rw [HL'.out]; exact hqn))
        generalize la[q]'(by rw [HL'.out]; exact hqn) = x at *
        obtain ⟨b, o, rfl, hu⟩ := HR'.out.act q x HX.out
        have u14 := hu 14 _ rfl; have u15 := hu 15 _ rfl; have u16 := hu 16 _ rfl
        have hw : IntKind.i64.wrap ((q : Int) + 1) = (q : Int) + 1 := IntWalk.i64_in _ (by omega)
        clear hu
        by_cases hs : 1000 < x.s.size
        · have g1 : (1000 : Int) < (x.s.size : Int) := by omega
          go_wp2_with fail
          go_ret
          exact ⟨true, rfl, rfl, fun h => by cases h⟩
        have g1 : ¬ (1000 : Int) < (x.s.size : Int) := by omega
        have g2 : decide ((1000 : Int) < (x.s.size : Int)) = false := decide_eq_false g1
        by_cases hs2 : 1000 < x.m.s.size
        · have g3 : (1000 : Int) < (x.m.s.size : Int) := by omega
          go_wp2_with fail
          go_ret
          exact ⟨true, rfl, rfl, fun h => by cases h⟩
        have g3 : ¬ (1000 : Int) < (x.m.s.size : Int) := by omega
        have g4 : decide ((1000 : Int) < (x.m.s.size : Int)) = false := decide_eq_false g3
        by_cases hs3 : 1000 < x.m.t.size
        · have g5 : (1000 : Int) < (x.m.t.size : Int) := by omega
          go_wp2_with fail
          go_ret
          exact ⟨true, rfl, rfl, fun h => by cases h⟩
        have g5 : ¬ (1000 : Int) < (x.m.t.size : Int) := by omega
        have g6 : decide ((1000 : Int) < (x.m.t.size : Int)) = false := decide_eq_false g5
        have HXS := Lib.hid (show x.s.size ≤ 1000 by omega)
        clear hs hs2 hs3
        go_wp2_with fail
        go_roundg (n' - (q + 1))
        case measure => omega
        case rel =>
          refine ⟨q + 1, by push_cast; rfl, by omega, rfl, rfl, fun i y hi hy => ?_⟩
          rcases Nat.lt_or_ge i q with h | h
          · exact HA.out i y h hy
          · obtain rfl : i = q := by omega
            rw [HX.out] at hy
            cases hy
            exact HXS.out
      · have k3 : ¬ (q : Int) < 100 := by omega
        have k4 : decide ((q : Int) < 100) = false := decide_eq_false k3
        go_wp2_with fail
        go_ret
        exact ⟨false, rfl, rfl, fun _ => ⟨by omega, fun i y hi hy => HA.out i y (by omega) hy⟩⟩
    · have k1 : ¬ (q : Int) < (n' : Int) := by omega
      have k2 : decide ((q : Int) < (n' : Int)) = false := decide_eq_false k1
      go_wp2_with fail
      go_ret
      exact ⟨false, rfl, rfl, fun _ => ⟨by omega, fun i y hi hy => HA.out i y (by have := (List.getElem?_eq_some_iff.1 hy).1; rw [HL'.out] at this; omega) hy⟩⟩
end Go.Proofs.Ytodjmeodcmbdoaa
