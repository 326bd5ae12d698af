/- The walk of CrcParts. No condition but the row's own. -/
import Derived.Test.YtpiiepnljeifhaaCrcL2
set_option linter.unusedVariables false
set_option linter.unusedSimpArgs false
namespace Go.Proofs.Ytpiiepnljeifhaa
open Go.RowKit

/-- A row of bytes as it came in. -/
structure Sl where
  A : Option Addr
  xs : List Nat
  c : Nat
def Sl.val (r : Sl) : Value := .slice r.A r.xs.length r.c
structure Sl.Ok (w : World) (r : Sl) : Prop where
  rd : Rd w r.A (by8 r.xs)
  lt : ∀ b ∈ r.xs, b < 256
  le : r.xs.length ≤ r.c
  no : r.A = none → r.c = 0
  sz : r.c ≤ 140737488351232
theorem is_rows {w : World} {A : Option Addr} {n c by_ : Nat} (h : Sh.Is w (.slice by_ (.slice 1 (.int .u8))) [.slice A n c]) :
    ∃ rs : List Sl, rs.length = n ∧ n ≤ c ∧ c * by_ ≤ 140737488351232 ∧ Rd w A (rs.map Sl.val) ∧ ∀ r ∈ rs, r.Ok w := by
  obtain ⟨A', n', c', els, he, hl, hnc, hc, hr, hel⟩ := h
  simp only [List.cons.injEq, Value.slice.injEq, and_true] at he
  obtain ⟨rfl, rfl, rfl⟩ := he
  obtain ⟨ys, rfl, has⟩ := exists_map (f := fun r : Sl => [r.val]) (p := fun r => r.Ok w) els (fun el hel' => by
    have h2 := (hel el hel').2
    obtain ⟨A2, n2, c2, els2, he2, hl2, hnc2, hc2, hr2, hel2⟩ := h2
    subst he2
    obtain ⟨xs, hx1, hx2, hx3, hx4, hx5⟩ := is_bytes (w := w) (A := A2) (n := n2) (c := c2) (by_ := 1) ⟨A2, n2, c2, els2, rfl, hl2, hnc2, hc2, hr2, hel2⟩
    subst hx1
    exact ⟨⟨A2, xs, c2⟩, rfl, ⟨hx4, hx5, hx3.1, hx3.2, by simpa using hx2⟩⟩)
  refine ⟨ys, by simpa using hl, hnc.1, hc, ?_, has⟩
  rwa [show (ys.map fun r : Sl => [r.val]).flatten = ys.map Sl.val by clear has hl hel hr; induction ys <;> simp_all] at hr

structure PaRel (w wr : World) (N : Nat) (s3 s4 s5 : Value) (k : Nat) (acc : List Nat) : Prop where
  hk : k ≤ N
  hk2 : k ≤ 100
  h4 : s4 = .int .u32 (sum acc)
  h5 : s5 = .int .i64 k
  own : wr.ownsRow w.heap.size 5 1 s3 acc.length (by8 acc)
  lt : ∀ b ∈ acc, b < 256
  le : acc.length ≤ 16384
  bel : Below w.heap.size w wr

set_option maxRecDepth 100000 in
set_option maxHeartbeats 2000000 in
theorem w_CrcParts (a0 : Option Addr) (n0 c0 : Nat) (w : World) (b0 : Sh.Is w (.slice 24 (.slice 1 (.int .u8))) [.slice a0 n0 c0]) :
    Calls Try.prog 8 #[.slice a0 n0 c0] w fun e w' => e = .returned (.bool true) ∧ Below w.heap.size w w' := by
  obtain ⟨rs, rl, rnc, rc, rr, ro⟩ := is_rows b0
  subst rl
  have RR := Lib.hid rr; have RO := Lib.hid ro
  clear b0 rr ro
  go_enter Try.func8, Try.ntmps8
  go_wp2_with (first
    | (go_at_call 11; refine (awake_any _).mono ?_; rintro e1 w1 ⟨rfl, B1⟩)
    | (go_at_call 12; with_reducible refine (csum_n none [] 0 0 _ rfl (Rd.nil _ _) (by simp) (by omega)).mono ?_; rintro e1 w2 ⟨rfl, rfl⟩))
  have R0 := Lib.hid (show PaRel w (w1.alloc (.cells #[] 5)) rs.length (.slice (some ⟨w1.heap.size, 0, none⟩) 0 0) (.int .u32 (sum [] : Nat)) (.int .i64 0) 0 [] from
    ⟨by omega, by omega, rfl, rfl, own_base' (own_empty w1 5 1) B1.size, by simp, by simp, B1.alloc B1.size _⟩)
  clear B1
  generalize w1.alloc (.cells #[] 5) = w0 at *
  go_loopw [3, 4, 5] (fun s3 s4 s5 wr => ∃ (k : Nat) (acc : List Nat), PaRel w wr rs.length s3 s4 s5 k acc) (fun _ _ i _ => rs.length - (intOf i).toNat)
  case atStart => exact ⟨0, [], R0.out⟩
  case round =>
    obtain ⟨k, acc, hk, hk2, rfl, rfl, own, hlt, hle, bel⟩ := hrel
    obtain ⟨A3, c3, rfl, _, r3⟩ := own_rd own
    have HO := Lib.hid own
    have HB := Lib.hid bel
    have HL := Lib.hid hlt
    have HR3 := Lib.hid r3
    clear own bel hlt r3
    by_cases h1 : k < rs.length
    · have k1 : decide ((k : Int) < (rs.length : Int)) = true := by simpa using h1
      by_cases h2 : k < 100
      · have k2 : decide ((k : Int) < 100) = true := by simp; omega
        obtain ⟨b, o, rfl, hc⟩ := RR.out.at_ k h1
        have hcr := HB.out.cell (World.block_lt_of_cell? w _ hc)
        rw [hc] at hcr
        have hro := RO.out _ (List.getElem_mem h1)
        generalize rs[k] = r at *
        obtain ⟨A, xs, c⟩ := r
        obtain ⟨xr, xlt, xle, xno, xsz⟩ := hro
        simp only at xr xlt xle xno xsz
        have hcell : wr.cell? ⟨b, o + k, none⟩ = some (.slice A xs.length c) := hcr
        have HC := Lib.hid hc
        clear hc hcr
        have XR := Lib.hid xr; have XLT := Lib.hid xlt; have XNO := Lib.hid xno
        clear xr xlt xno
        have hsum : IntKind.i64.wrap ((acc.length : Int) + (xs.length : Int)) = (acc.length : Int) + xs.length := IntWalk.i64_in _ (by omega)
        by_cases h3 : 16384 < acc.length + xs.length
        · have k3 : decide ((16384 : Int) < (acc.length : Int) + (xs.length : Int)) = true := by simp; omega
          go_wp2
          go_ret
          exact ⟨rfl, HB.out⟩
        · have k3 : decide ((16384 : Int) < (acc.length : Int) + (xs.length : Int)) = false := by simp; omega
          have HE := Lib.hid (show (acc ++ xs).length = acc.length + xs.length from List.length_append)
          have AB := Lib.hid (show ∀ b ∈ acc ++ xs, b < 256 by
            intro b hb
            rcases List.mem_append.1 hb with h | h
            · exact HL.out b h
            · exact XLT.out b h)
          have HS := Lib.hid (sum_append acc xs)
          have HSL := Lib.hid (sum_lt AB.out)
          have q1 : (((sum (acc ++ xs) : Nat) : Int) != ((sum (acc ++ xs) : Nat) : Int)) = false := by simp
          go_wp2_with (first
            | (at_builtin; refine appO w.heap.size 22 5 (.int .u8 0) 1 1 (by8 xs) xs.length HO.out HB.out.size (by omega) Try.underlying22 infoU8 rfl (by decide) (by decide) (by simp [by8]) (by8_one xs) A c (XR.out.below HB.out) xle XNO.out (.tmp 29) (.tmp 33) rfl rfl rfl rfl ?_
               intro v2 x2 hown hg _
               have HX2 := Lib.hid (below_app1 HB.out HO.out hg)
               have hcell2 : x2.cell? ⟨b, o + k, none⟩ = some (.slice A xs.length c) := HX2.out.cell (World.block_lt_of_cell? w _ HC.out) |>.trans HC.out
               rw [← List.map_append] at hown
               have HO2 := Lib.hid hown
               obtain ⟨A2, c2, rfl, _, R2⟩ := own_rd hown
               have HR2 := Lib.hid R2
               clear hg hown R2)
            | (go_at_call 13; with_reducible refine (cmore_n (sum acc) A xs xs.length c _ (sum_lt HL.out) rfl (XR.out.below HX2.out) XLT.out (by omega)).mono ?_; rintro e1 w2 ⟨rfl, rfl⟩; rw [← HS.out])
            | (go_at_call 12; with_reducible refine (csum_n A2 (acc ++ xs) _ c2 _ (by rw [HE.out]) HR2.out AB.out (by omega)).mono ?_; rintro e1 w2 ⟨rfl, rfl⟩)
            | (go_at_call 15; with_reducible refine (ccheck_n A2 (acc ++ xs) _ c2 _ _ HSL.out (by rw [HE.out]) HR2.out AB.out (by omega)).mono ?_; rintro e1 w2 ⟨rfl, rfl⟩; rw [show decide (sum (acc ++ xs) = sum (acc ++ xs)) = true by simp]))
          go_roundw
          case rel => exact ⟨k + 1, acc ++ xs, ⟨by omega, by omega, rfl, rfl, by rw [HE.out]; exact HO2.out, AB.out, by rw [HE.out]; omega, HX2.out⟩⟩
          case measure => simp [intOf]; omega
      · have k2 : decide ((k : Int) < 100) = false := by simp; omega
        go_wp2
        go_ret
        exact ⟨rfl, HB.out⟩
    · have k1 : decide ((k : Int) < (rs.length : Int)) = false := by simp; omega
      go_wp2
      go_ret
      exact ⟨rfl, HB.out⟩
end Go.Proofs.Ytpiiepnljeifhaa
