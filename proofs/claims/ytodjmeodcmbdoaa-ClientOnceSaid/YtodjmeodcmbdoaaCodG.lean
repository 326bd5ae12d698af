/- The walk of package code's Decode. Conditions: sizes. -/
import Derived.Test.YtodjmeodcmbdoaaCodD
import Derived.Tactics
import Derived.Tactics2
import Derived.Defers
import Derived.Recover
import Derived.Laws.Pointers
set_option linter.unusedVariables false
set_option linter.unusedSimpArgs false
namespace Go.Proofs.Ytodjmeodcmbdoaa
open Go.RowKit
abbrev tE : TypeId := 32
abbrev zRec : Array Value := #[.int .i64 0, .slice none 0 0, .slice none 0 0]
theorem as_bad (v : Value) (w : World) : (Instr.typeAssert (.iface 80 v) 20 80 false).run Try.prog w = .ok v w := by kernel_rfl
set_option maxHeartbeats 1000000 in
theorem catch_panicking (b1 b2 : Nat) (x0 x1 x2 y : Value) (w : World) (h1 : Blk w b1 #[x0, x1, x2] tRec) (h2 : Blk w b2 #[y] tE) (hne : b1 ≠ b2) :
    CallsD Try.prog 41 #[.pointer (some ⟨b1, 0, none⟩), .pointer (some ⟨b2, 0, none⟩)] (.panicking [{ v := .iface 80 (.agg #[]), recovered := false }]) w fun e u' w' =>
      e = .returned (.tuple #[]) ∧ u' = .panicking [{ v := .iface 80 (.agg #[]), recovered := true }] ∧ Blk w' b1 zRec tRec ∧ Blk w' b2 #[.int .i64 4] tE ∧ Upd (fun k => k = b1 ∨ k = b2) w w' := by
  have z0 := h1.cell 0; have z1 := (h1.set 0 (.int .i64 0)).cell 1; have z2 := ((h1.set 0 (.int .i64 0)).set 1 (.slice none 0 0)).cell 2
  have f0 := h1.frozen 0; have f1 := (h1.set 0 (.int .i64 0)).frozen 1; have f2 := ((h1.set 0 (.int .i64 0)).set 1 (.slice none 0 0)).frozen 2
  have k2 : Blk (((w.setCell ⟨b1, 0, none⟩ (.int .i64 0)).setCell ⟨b1, 1, none⟩ (.slice none 0 0)).setCell ⟨b1, 2, none⟩ (.slice none 0 0)) b2 #[y] tE := ((h2.setOther (p := ⟨b1, 0, none⟩) hne _).setOther (p := ⟨b1, 1, none⟩) hne _).setOther (p := ⟨b1, 2, none⟩) hne _
  have z3 := k2.cell 0; have f3 := k2.frozen 0
  simp at z0 z1 z2 z3
  have HB1 := Lib.hid (((h1.set 0 (.int .i64 0)).set 1 (.slice none 0 0)).set 2 (.slice none 0 0))
  have HB2 := Lib.hid k2
  have HNE := Lib.hid hne
  clear h1 h2 hne k2
  refine callsD_of_wpS Try.func41 rfl fun c₀ cs hu => ?_
  apply wpS_seq
  apply wpS_region
  simp [wpOpsS, go_sem, recoverD, hu, Try.ntmps41, Exit.thenS]
  have has := as_bad
  refine wpS_of_wp ?_
  go_wp2
  simp only [bodyPostS]
  refine ⟨trivial, _, rfl, _, ?_, rfl, rfl, HB1.out.setOther (p := ⟨b2, 0, none⟩) (fun e => HNE.out e.symm) _, HB2.out.set 0 _, ?_⟩
  · simp [results, Try.results41]
  · exact Upd.setCell (S := fun k => k = b1 ∨ k = b2) (p := ⟨b2, 0, none⟩) (Upd.setCell (S := fun k => k = b1 ∨ k = b2) (p := ⟨b1, 2, none⟩) (Upd.setCell (S := fun k => k = b1 ∨ k = b2) (p := ⟨b1, 1, none⟩) (Upd.setCell (S := fun k => k = b1 ∨ k = b2) (p := ⟨b1, 0, none⟩) (Upd.refl _ w) (.inr (.inl rfl)) _) (.inr (.inl rfl)) _) (.inr (.inl rfl)) _) (.inr (.inr rfl)) _
theorem catch_idle (p q : Value) (w : World) :
    CallsD Try.prog 41 #[p, q] .returning w fun e u' w' => e = .returned (.tuple #[]) ∧ u' = .returning ∧ w' = w := by
  refine callsD_of_wpS Try.func41 rfl fun c₀ cs hu => ?_
  apply wpS_seq
  apply wpS_region
  simp [wpOpsS, go_sem, recoverD, hu, Try.ntmps41, Exit.thenS]
  refine wpS_of_wp ?_
  go_wp2
  simp only [bodyPostS]
  refine ⟨trivial, .returning, ?_, .tuple #[], ?_, rfl, rfl, trivial⟩
  · cases c₀; simp_all
  · simp [results, Try.results41]
theorem results_cell2 {P : Program} {fn : Func} {p q : Tmp} {T U : TypeId} (h : fn.results = #[.cell p T, .cell q U]) (tmps : Array Value) (w : World) (g k : Nat) (cs : Array Value) (v : Value) (d : TypeDesc)
    (hp : tmps.getD p undef = .pointer (some ⟨g, 0, none⟩)) (hq : tmps.getD q undef = .pointer (some ⟨k, 0, none⟩)) (hg : Blk w g cs T)
    (hu : P.underlying T = some d) (hd : (match d with | .struct _ | .array _ _ => true | _ => false) = true) (hi : (P.info? T).map (·.size) = some cs.size) (hv : (loadVar U ⟨k, 0, none⟩).run P w = .ok v w) :
    (results fn tmps).run P w = .ok (.tuple #[.agg cs, v]) w := by
  have hp' : tmps[p]?.getD undef = .pointer (some ⟨g, 0, none⟩) := by simpa using hp
  have hq' : tmps[q]?.getD undef = .pointer (some ⟨k, 0, none⟩) := by simpa using hq
  simp [results, h, hp', hq', asAddr, Sem.run_bind, Result.andThen, run_loadVar_row w g T T cs (0, 0) d hg hu hd hi, hv]
theorem load_errno (w : World) (k : Nat) (v : Value) (h : Blk w k #[v] tE) : (loadVar tE ⟨k, 0, none⟩).run Try.prog w = .ok v w := by
  have z := h.cell 0
  simp at z
  simp [go_sem, loadVar, z]
def DecPost (r : Option Rec) (w : World) (e : Ending) (W' : World) : Prop := match r with
  | some r => ∃ An At cn ct, e = .returned (.tuple #[recV r.kind An At r.nums.length r.texts.length cn ct, .int .i64 0]) ∧ Sep w W' [tOwn tI 1 (.slice An r.nums.length cn) r.nums.length (eI64.fl r.nums), tOwn tS 1 (.slice At r.texts.length ct) r.texts.length (eStr.fl r.texts)]
  | none => e = .returned (.tuple #[.agg zRec, .int .i64 4]) ∧ Below w.heap.size w W'
theorem decode_any (A : Option Addr) (l : List UInt8) (n c : Nat) (w : World) (hn : l.length = n) (h : Rd w A (eB.fl l)) (hc : n ≤ c) (hA : A = none → c = 0) (hbig : c ≤ 9223372036854775807) :
    Calls Try.prog 35 #[.slice A n c] w (DecPost (decB l) w) := by
  subst hn
  obtain ⟨g2, hg2⟩ : ∃ k, w.heap.size = k := ⟨_, rfl⟩
  have hs1 := (Sep.nil w).newBlk zRec tRec hg2
  have hs2 := hs1.newBlk #[.int .i64 0] tE (g := g2 + 1) (by simp [hg2])
  have hs3 := hs2.newBlk #[.slice A l.length c] tRd (g := g2 + 2) (by simp [hg2])
  have HG := Lib.hid hg2
  have HS := Lib.hid hs3
  obtain ⟨B, hB1, hB2⟩ : ∃ B, (l ≠ [] → ∃ o, A = some ⟨B, o, none⟩) ∧ (l ≠ [] → B < w.heap.size) ∧ B ≠ g2 + 2 := by
    by_cases hl : l = []
    · exact ⟨g2, fun h => absurd hl h, fun h => absurd hl h, by omega⟩
    · obtain ⟨b, o, e⟩ := h.pos (E := eB) (by decide) hl
      subst e
      obtain ⟨b', o', e, u⟩ := h.byt 0 (l.head hl) (by cases l with | nil => exact absurd rfl hl | cons => rfl)
      cases e
      have : b < w.heap.size := by
        rcases Nat.lt_or_ge b w.heap.size with h1 | h1
        · exact h1
        · simp [World.cell?, Array.getElem?_eq_none h1] at u
      exact ⟨b, fun _ => ⟨o, rfl⟩, fun _ => this, by omega⟩
  have HB := Lib.hid (show 2 ≤ l.length → B < w.heap.size from fun h => hB2.1 (by intro e; rw [e] at h; simp at h))
  have HR := Lib.hid (show Rdr (((w.alloc (.cells zRec tRec)).alloc (.cells #[.int .i64 0] tE)).alloc (.cells #[.slice A l.length c] tRd)) (g2 + 2) B l A c from ⟨hs3.hd, h.below (((((Below.refl _ _).alloc (Nat.le_refl _) _).alloc (by simp) _)).alloc (by simp; omega) _), hc, hA, hB1, hB2.2, hbig⟩)
  clear hg2 hs1 hs2 hs3 h hc hA hbig hB1 hB2
  have HC := Lib.hid (rec_any HS.out HR.out HB.out)
  clear HR HB
  have hmf : ∀ (fn : Fn) (first cap : Array Value) (w : World), (Instr.makeFunc fn first cap).run Try.prog w = .ok (.func fn first cap) w := fun _ _ _ _ => rfl
  obtain ⟨W, hW⟩ : ∃ W, (((w.alloc (.cells #[.int .i64 0, .slice none 0 0, .slice none 0 0] tRec)).alloc (.cells #[.int .i64 0] tE)).alloc (.cells #[.slice A l.length c] tRd)) = W := ⟨_, rfl⟩
  rw [hW] at HS HC
  generalize l.length = m at *
  have HW := Lib.hid hW
  clear hW
  go_enter_defers Try.func35, Try.ntmps35
  go_upto_region 3 with fail
  simp only [HG.out]
  rw [HW.out]
  cases hd : decB l with
  | none =>
    rw [hd] at HC
    go_wp2_with (go_at_call 42; refine HC.out.mono ?_; rintro e w3 ⟨rfl, hs3⟩)
    refine leaves_cons (f := 41) (args := #[.pointer (some ⟨g2, 0, none⟩), .pointer (some ⟨g2 + 1, 0, none⟩)]) (by simp) (by simp [go_sem]) ?_
    refine (catch_panicking g2 (g2 + 1) _ _ _ _ w3 hs3.h2 hs3.hd (by omega)).mono ?_
    rintro e u' w4 ⟨rfl, rfl, hb1, hb2, hu⟩
    simp only [Leaves, settle, List.dropWhile_nil]
    refine ⟨_, results_cell2 rfl _ w4 g2 (g2 + 1) zRec (.int .i64 4) _ rfl rfl hb1 Try.underlying72 rfl (by kernel_rfl) (load_errno _ _ _ hb2), rfl, ?_⟩
    have hx : Sep w w4 [] := hs3.and.lost (hu.mono (fun k _ hk => hk.symm))
    exact hx.bel
  | some r =>
    obtain ⟨kind, ns, ts⟩ := r
    rw [hd] at HC
    go_wp2_with (go_at_call 42; refine HC.out.mono ?_; rintro e w3 ⟨An, At, cn, ct, rfl, hs3⟩; have HS3 := Lib.hid hs3; have HZ := Lib.hid (show Blk w3 g2 zRec tRec from hs3.h4); have HY := Lib.hid (show Blk w3 (g2 + 1) #[.int .i64 0] tE from hs3.h3); clear hs3; have x0 := HZ.out.cell 0; have x1 := (HZ.out.set 0 (.int .i64 kind)).cell 1; have x2 := ((HZ.out.set 0 (.int .i64 kind)).set 1 (.slice An ns.length cn)).cell 2; have f0 := HZ.out.frozen 0; have f1 := (HZ.out.set 0 (.int .i64 kind)).frozen 1; have f2 := ((HZ.out.set 0 (.int .i64 kind)).set 1 (.slice An ns.length cn)).frozen 2; have HK := Lib.hid (((HY.out.setOther (p := ⟨g2, 0, none⟩) (by simp) (.int .i64 kind)).setOther (p := ⟨g2, 1, none⟩) (by simp) (.slice An ns.length cn)).setOther (p := ⟨g2, 2, none⟩) (by simp) (.slice At ts.length ct)); have y0 := HK.out.cell 0; have y1 := HK.out.frozen 0; simp at x0 x1 x2 y0)
    have hb1 := ((HZ.out.set 0 (.int .i64 kind)).set 1 (.slice An ns.length cn)).set 2 (.slice At ts.length ct)
    have HB1 := Lib.hid (hb1.setOther (p := ⟨g2 + 1, 0, none⟩) (by simp) (.int .i64 0))
    have HB2 := Lib.hid (HK.out.set 0 (.int .i64 0))
    refine leaves_cons (f := 41) (args := #[.pointer (some ⟨g2, 0, none⟩), .pointer (some ⟨g2 + 1, 0, none⟩)]) (by simp) (by simp [go_sem]) ?_
    refine (catch_idle _ _ _).mono ?_
    rintro e u' w4 ⟨rfl, rfl, rfl⟩
    simp only [Leaves, settle]
    refine ⟨_, results_cell2 rfl _ _ g2 (g2 + 1) _ (.int .i64 0) _ rfl rfl HB1.out Try.underlying72 rfl (by kernel_rfl) (load_errno _ _ _ HB2.out), ?_⟩
    rw [hd]
    refine ⟨An, At, cn, ct, rfl, ?_⟩
    have hu : Upd (fun k => k = g2 ∨ k = g2 + 1) w3 ((((w3.setCell ⟨g2, 0, none⟩ (.int .i64 kind)).setCell ⟨g2, 1, none⟩ (.slice An ns.length cn)).setCell ⟨g2, 2, none⟩ (.slice At ts.length ct)).setCell ⟨g2 + 1, 0, none⟩ (.int .i64 0)) := Upd.setCell (S := fun k => k = g2 ∨ k = g2 + 1) (p := ⟨g2 + 1, 0, none⟩) (Upd.setCell (S := fun k => k = g2 ∨ k = g2 + 1) (p := ⟨g2, 2, none⟩) (Upd.setCell (S := fun k => k = g2 ∨ k = g2 + 1) (p := ⟨g2, 1, none⟩) (Upd.setCell (S := fun k => k = g2 ∨ k = g2 + 1) (p := ⟨g2, 0, none⟩) (Upd.refl _ w3) (.inr (.inl rfl)) _) (.inr (.inl rfl)) _) (.inr (.inl rfl)) _) (.inr (.inr rfl)) _
    exact ((HS3.out.r4.r4.and).lost (hu.mono (fun k _ hk => hk.symm)))
end Go.Proofs.Ytodjmeodcmbdoaa
