/- The walk of the law CodeDecodes: it returns true. No condition but the row's own. -/
import Derived.Test.YtkflnldjckahnaaCodP
set_option linter.unusedVariables false
set_option linter.unusedSimpArgs false
namespace Go.Proofs.Ytkflnldjckahnaa
open Go.RowKit
def outR (l : List UInt8) : Rec := (decB l).getD ⟨0, [], []⟩
def outE (l : List UInt8) : Int := if (decB l).isSome then 0 else 4
/-- What either Decode hands back, in one form. -/
theorem decode_post {f : FuncId} {args : Array Value} {w W : World} {r : List Th} {l : List UInt8} (h : Calls Try.prog f args W (DecPost (decB l) W)) (hs : Sep w W r) :
    Calls Try.prog f args W fun e W' => ∃ (An At : Option Addr) (n t cn ct : Nat), e = .returned (.tuple #[recV (outR l).kind An At n t cn ct, .int .i64 (outE l)]) ∧ Sep w W' r ∧ RecAt W' (outR l) An At n t cn ct ∧ Below W.heap.size W W' := by
  refine h.mono ?_
  intro e W' k
  unfold outR outE
  cases hd : decB l with
  | none =>
    rw [hd] at k
    exact ⟨none, none, 0, 0, 0, 0, k.1, hs.step k.2, ⟨rfl, rfl, Rd.nil _ _, Rd.nil _ _, by decide, by decide⟩, k.2⟩
  | some q =>
    rw [hd] at k
    obtain ⟨An, At, cn, ct, k1, k2⟩ := k
    obtain ⟨m1, _, _⟩ := enc_dec hd
    obtain ⟨⟨_, _, m6, m7⟩, _⟩ := (mayB_iff _).1 m1
    exact ⟨An, At, _, _, cn, ct, k1, hs.step k2.bel, ⟨rfl, rfl, Own.rd k2.hd, Own.rd k2.h2, (by show q.nums.length ≤ _; omega), (by show q.texts.length ≤ _; omega)⟩, k2.bel⟩
set_option maxRecDepth 100000 in
set_option maxHeartbeats 4000000 in
theorem w_CodeDecodes (a0 : Option Addr) (n0 c0 : Nat) (w : World) (b0 : Sh.Is w (.slice 1 (.int .u8)) [.slice a0 n0 c0]) :
    Calls Try.prog 4 #[.slice a0 n0 c0] w fun e w' => e = .returned (.bool true) ∧ Below w.heap.size w w' := by
  obtain ⟨l, hl, hn, hA, hR, hc⟩ := is_bytes b0
  have HL := Lib.hid hl; have HA := Lib.hid hA; have HR := Lib.hid hR
  clear hl hA hR b0
  go_enter Try.func4, Try.ntmps4
  go_wp2_with fail
  refine (awake_any _).mono ?_
  rintro e w1 ⟨rfl, hB⟩
  have HS := Lib.hid ((Sep.nil w).step hB)
  clear hB
  by_cases hbig : 65536 < n0
  · have e1 : (65536 : Int) < (n0 : Int) := by omega
    go_wp2_with fail
    go_ret
    exact ⟨rfl, HS.out.bel⟩
  have e1 : ¬ (65536 : Int) < (n0 : Int) := by omega
  have e2 : decide ((65536 : Int) < (n0 : Int)) = false := by simp; omega
  have HS2 := Lib.hid (HS.out.newRow tB 1 (g := w1.heap.size) rfl)
  have HB1 := Lib.hid (show (0 + n0) * 1 ≤ 140737488355328 by omega)
  go_upto_region 5 with fail
  go_wp2_with (at_builtin; refine appendO 28 tB (.int .u8 0) 1 1 (eB.fl l) n0 HS2.out.own HB1.out Try.underlying28 Try.infoB rfl (by decide) (by decide) (by rw [Enc.length, HL.out]; rfl) (Enc.ones _) a0 c0 (HR.out.below HS2.out.bel) (fun e => ⟨by have := HA.out e; omega, HA.out e⟩) (.tmp 13) (.tmp 14) rfl rfl rfl rfl ?_; intro v3 w3 ho hg hat; rw [Nat.zero_add, List.nil_append] at ho; have HS3 := Lib.hid (HS2.out.app ho hg hat); clear ho hg hat)
  obtain ⟨A3, c3, rfl, _⟩ := HS3.out.own.form
  have HE := Lib.hid (decode_post (decode_any A3 l n0 c3 w3 HL.out HS3.out.own.rd (Own.cap HS3.out.hd).1 (fun e => ((Own.cap HS3.out.hd).2 e).2) (Own.big HS3.out.hd)) HS3.out)
  refine HE.out.mono ?_
  rintro e w4 ⟨An, At, n, t, cn, ct, rfl, hs4, hr4, hb4⟩
  have HS4 := Lib.hid (hs4.newBlk #[.int .i64 (outR l).kind, .slice An n cn, .slice At t ct] tRec (g := w4.heap.size) rfl)
  have HA4 := Lib.hid (hr4.below ((Below.refl _ _).alloc (Nat.le_refl _) (.cells #[.int .i64 (outR l).kind, .slice An n cn, .slice At t ct] tRec)))
  obtain ⟨er, her⟩ : ∃ er, outE l = er := ⟨_, rfl⟩
  have HER := Lib.hid her
  rw [her]
  clear hs4 hr4 HE HS3 HS2 HS her
  go_upto_region 7 with fail
  generalize w4.alloc (.cells #[.int .i64 (outR l).kind, .slice An n cn, .slice At t ct] tRec) = w5 at *
  generalize w4.heap.size = g4 at *
  have HE := Lib.hid (decode_post (rdecode_any a0 l n0 c0 w5 HL.out (HR.out.below HS4.out.bel) (by omega) hn (by omega)) HS4.out)
  go_wp2_with fail
  refine HE.out.mono ?_
  rintro e w6 ⟨Bn, Bt, m, q, bn, bt, rfl, hs6, hr6, hb6⟩
  rw [HER.out]
  have HS6 := Lib.hid (hs6.newBlk #[.int .i64 (outR l).kind, .slice Bn m bn, .slice Bt q bt] tRec (g := w6.heap.size) rfl)
  have hal : Below w6.heap.size w6 (w6.alloc (.cells #[.int .i64 (outR l).kind, .slice Bn m bn, .slice Bt q bt] tRec)) := (Below.refl _ _).alloc (Nat.le_refl _) _
  have HA6 := Lib.hid ((HA4.out.below hb6).below hal)
  have HA7 := Lib.hid (hr6.below hal)
  clear hs6 hr6 hb6 hal HE HS4 HA4 hb4
  go_upto_region 8 with fail
  generalize w6.alloc (.cells #[.int .i64 (outR l).kind, .slice Bn m bn, .slice Bt q bt] tRec) = w7 at *
  generalize w6.heap.size = g6 at *
  have hz := (show Blk w7 g6 _ tRec from HS6.out.hd)
  have z0 := hz.cell 0; have z1 := hz.cell 1; have z2 := hz.cell 2
  have hy := (show Blk w7 g4 _ tRec from HS6.out.h2)
  have y0 := hy.cell 0; have y1 := hy.cell 1; have y2 := hy.cell 2
  simp at z0 z1 z2 y0 y1 y2
  clear hz hy
  have HSA := Lib.hid (sameB_iff.2 (rfl : (outR l) = outR l))
  go_wp2_with fail
  refine (same_any (outR l).kind (outR l).kind (outR l).nums (outR l).nums (outR l).texts (outR l).texts An At Bn Bt n t cn ct m q bn bt w7 HA6.out HA7.out).mono ?_
  rw [HSA.out]
  rintro e w8 ⟨rfl, hB⟩
  have HS8 := Lib.hid (HS6.out.step hB)
  clear hB z0 z1 z2 y0 y1 y2
  obtain ⟨st, hst⟩ : ∃ s : ByteArray, ⟨l.toArray⟩ = s := ⟨_, rfl⟩
  have cv1 := conv_str w8 A3 c3 l (Own.rd HS8.out.h3) n0 HL.out
  have cv2 := conv_str w8 a0 c0 l (HR.out.below HS8.out.bel) n0 HL.out
  rw [hst] at cv1 cv2
  clear hst
  go_wp2_with fail
  go_ret
  exact ⟨by simp, HS8.out.bel⟩
end Go.Proofs.Ytkflnldjckahnaa
