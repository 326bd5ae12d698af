/- The walk of CrcRows. No condition but the row's own. -/
import Derived.Test.YtpiiepnljeifhaaCrcL2
import Derived.Deep.RegionHeld3
set_option linter.unusedVariables false
set_option linter.unusedSimpArgs false
namespace Go.Proofs.Ytpiiepnljeifhaa
open Go.RowKit

/-- Three rows told apart. -/
def x3 (xs ys zs : List Nat) : List Nat := List.zipWith (· ^^^ ·) (List.zipWith (· ^^^ ·) xs ys) zs
theorem x3_get {xs ys zs : List Nat} {k : Nat} (h1 : k < xs.length) (h2 : k < ys.length) (h3 : k < zs.length) (n : Nat) (hk : k < n) :
    (x3 (xs.take n) (ys.take n) (zs.take n)).take (k + 1) = (x3 (xs.take n) (ys.take n) (zs.take n)).take k ++ [xs[k] ^^^ ys[k] ^^^ zs[k]] := by
  rw [List.take_add_one, List.getElem?_eq_getElem (by simp [x3]; omega)]
  simp [x3]
theorem x3_lt {xs ys zs : List Nat} (hx : ∀ b ∈ xs, b < 256) (hy : ∀ b ∈ ys, b < 256) (hz : ∀ b ∈ zs, b < 256) : ∀ b ∈ x3 xs ys zs, b < 256 := by
  intro b hb
  obtain ⟨i, hi, rfl⟩ := List.getElem_of_mem hb
  simp only [x3, List.getElem_zipWith]
  exact Nat.xor_lt_two_pow (n := 8) (Nat.xor_lt_two_pow (n := 8) (hx _ (List.getElem_mem _)) (hy _ (List.getElem_mem _))) (hz _ (List.getElem_mem _))
theorem x3_len {xs ys zs : List Nat} {n : Nat} (h1 : n ≤ xs.length) (h2 : n ≤ ys.length) (h3 : n ≤ zs.length) : (x3 (xs.take n) (ys.take n) (zs.take n)).length = n := by simp [x3]; omega

theorem run_min4 {P : Program} (w : World) (ts : Array TypeId) (t : TypeId) (a b c d m : Int) (h : min (min (min a b) c) d = m) : (Builtin.min_ ts t #[.int .i64 a, .int .i64 b, .int .i64 c, .int .i64 d]).run P w = .ok (.int .i64 m) w := by
  subst h
  simp [Builtin.min_, Builtin.min2]
  repeat' split
  all_goals omega
theorem cell_alloc {w : World} {a : Addr} {v : Value} (h : w.cell? a = some v) (o : Obj) : (w.alloc o).cell? a = some v :=
  (((Below.refl _ _).alloc (Nat.le_refl _) o).cell (World.block_lt_of_cell? w _ h)).trans h
theorem pw_drewN {b : Nat} {w w' : World} (h : Below b w w') (n : Nat) : Below b w (w'.drewN n) := ⟨h.os, h.tape, h.output, h.size, h.block⟩
theorem by8_app (a b : List Nat) : by8 (a ++ b) = by8 a ++ by8 b := List.map_append
structure RoRel (w wr : World) (n : Nat) (l : List Nat) (s8 s9 : Value) (k : Nat) : Prop where
  hk : k ≤ n
  h9 : s9 = .int .i64 k
  own : wr.ownsRow w.heap.size 5 1 s8 k (by8 (l.take k))
  bel : Below w.heap.size w wr

set_option maxRecDepth 100000 in
set_option maxHeartbeats 2000000 in
theorem w_CrcRows (a0 : Option Addr) (n0 c0 : Nat) (a1 : Option Addr) (n1 c1 : Nat) (a2 : Option Addr) (n2 c2 : Nat) (w : World) (b0 : Sh.Is w (.slice 1 (.int .u8)) [.slice a0 n0 c0]) (b1 : Sh.Is w (.slice 1 (.int .u8)) [.slice a1 n1 c1]) (b2 : Sh.Is w (.slice 1 (.int .u8)) [.slice a2 n2 c2]) :
    Calls Try.prog 7 #[.slice a0 n0 c0, .slice a1 n1 c1, .slice a2 n2 c2] w fun e w' => e = .returned (.bool true) ∧ Below w.heap.size w w' := by
  obtain ⟨xs, xl, xc, xnc, xr, xb⟩ := is_bytes b0
  obtain ⟨ys, yl, yc, ync, yr, yb⟩ := is_bytes b1
  obtain ⟨zs, zl, zc, znc, zr, zb⟩ := is_bytes b2
  subst xl yl zl
  have XR := Lib.hid xr; have XB := Lib.hid xb
  have YR := Lib.hid yr; have YB := Lib.hid yb
  have ZR := Lib.hid zr; have ZB := Lib.hid zb
  have xn := xnc.1; have yn := ync.1; have zn := znc.1
  clear b0 b1 b2 xr xb yr yb zr zb xnc ync znc
  obtain ⟨n, hn⟩ : ∃ n, min (min (min xs.length ys.length) zs.length) 16384 = n := ⟨_, rfl⟩
  have hnx : n ≤ xs.length := by omega
  have hny : n ≤ ys.length := by omega
  have hnz : n ≤ zs.length := by omega
  have hn4 : n ≤ 16384 := by omega
  have hmin : min (min (min (xs.length : Int) ys.length) zs.length) 16384 = (n : Int) := by omega
  have HN := Lib.hid hn; clear hn
  have HM := Lib.hid hmin; clear hmin
  go_enter Try.func7, Try.ntmps7
  have hm4 := fun w : World => run_min4 (P := Try.prog) w #[3, 3, 3, 3] 3 _ _ _ _ _ HM.out
  go_wp2_with (first
    | (go_at_call 11; refine (awake_any _).mono ?_; rintro e1 w1 ⟨rfl, B1⟩))
  have R0 := Lib.hid (show RoRel w (w1.alloc (.cells #[] 5)) n (x3 (xs.take n) (ys.take n) (zs.take n)) (.slice (some ⟨w1.heap.size, 0, none⟩) 0 0) (.int .i64 0) 0 from
    ⟨by omega, rfl, own_base' (own_empty w1 5 1) B1.size, B1.alloc B1.size _⟩)
  clear B1
  generalize w1.alloc (.cells #[] 5) = w0 at *
  go_loopw [8, 9] (fun s8 s9 wr => ∃ (k : Nat), RoRel w wr n (x3 (xs.take n) (ys.take n) (zs.take n)) s8 s9 k) (fun _ i _ => n - (intOf i).toNat)
  case atStart => exact ⟨0, R0.out⟩
  case round =>
    obtain ⟨k, hk, rfl, own, bel⟩ := hrel
    obtain ⟨A8, c8, rfl, _, r8⟩ := own_rd own
    have HR8 := Lib.hid r8; clear r8
    have HO := Lib.hid own; clear own
    have HB := Lib.hid bel; clear bel
    by_cases h1 : k < n
    · have hkx : k < xs.length := by omega
      have hky : k < ys.length := by omega
      have hkz : k < zs.length := by omega
      have hk1 : (k : Int) < n := by omega
      obtain ⟨bx, ox, rfl, hcx⟩ := XR.out.at_ k hkx
      obtain ⟨by_, oy, rfl, hcy⟩ := YR.out.at_ k hky
      obtain ⟨bz, oz, rfl, hcz⟩ := ZR.out.at_ k hkz
      have gx : wr.cell? ⟨bx, ox + k, none⟩ = some (.int .u8 (xs[k] : Nat)) := (HB.out.cell (World.block_lt_of_cell? w _ hcx)).trans hcx
      have gy : wr.cell? ⟨by_, oy + k, none⟩ = some (.int .u8 (ys[k] : Nat)) := (HB.out.cell (World.block_lt_of_cell? w _ hcy)).trans hcy
      have gz : wr.cell? ⟨bz, oz + k, none⟩ = some (.int .u8 (zs[k] : Nat)) := (HB.out.cell (World.block_lt_of_cell? w _ hcz)).trans hcz
      have lx := XB.out _ (List.getElem_mem hkx)
      have ly := YB.out _ (List.getElem_mem hky)
      have lz := ZB.out _ (List.getElem_mem hkz)
      have hx1 := xor8 lx ly
      have lxy : xs[k] ^^^ ys[k] < 256 := Nat.xor_lt_two_pow (n := 8) lx ly
      have hx2 := xor8 lxy lz
      have HT := Lib.hid (x3_get hkx hky hkz n h1)
      generalize xs[k] = x at *
      generalize ys[k] = y at *
      generalize zs[k] = z at *
      have hlx : bx < wr.heap.size := World.block_lt_of_cell? wr _ gx
      have hly : by_ < wr.heap.size := World.block_lt_of_cell? wr _ gy
      have hlz : bz < wr.heap.size := World.block_lt_of_cell? wr _ gz
      have lwx : bx < w.heap.size := World.block_lt_of_cell? w _ hcx
      have lwy : by_ < w.heap.size := World.block_lt_of_cell? w _ hcy
      have lwz : bz < w.heap.size := World.block_lt_of_cell? w _ hcz
      have GX := Lib.hid hcx; have GY := Lib.hid hcy; have GZ := Lib.hid hcz
      clear hcx hcy hcz
      go_upto_region 8 with fail
      go_region_held3 (fun w' => w'.cell? ⟨bx, ox + k, none⟩ = some (.int .u8 (x : Nat)) ∧ w'.cell? ⟨by_, oy + k, none⟩ = some (.int .u8 (y : Nat)) ∧ w'.cell? ⟨bz, oz + k, none⟩ = some (.int .u8 (z : Nat)))
        (first | exact ⟨gx, gy, gz⟩ | exact ⟨cell_alloc gx _, cell_alloc gy _, cell_alloc gz _⟩ | exact ⟨(HX2.out.cell lwx).trans GX.out, (HX2.out.cell lwy).trans GY.out, (HX2.out.cell lwz).trans GZ.out⟩)
        (first
          | (refine stepN w.heap.size 22 5 (.int .u8 0) 1 1 (by8 [x ^^^ y ^^^ z]) 1 (v := .slice A8 k c8) (n := k) (xs := by8 ((x3 (xs.take n) (ys.take n) (zs.take n)).take k)) ?_ ?_ ?_ ?_ ?_ ?_ ?_ ?_ ?_ ?_ ⟨wr.heap.size, 0, none⟩ 1 ?_ (.tmp 25) (.tmp 40) ?_ ?_ ?_ ?_ ?_
             · exact HO.out.alloc _
             · have := HB.out.size
               simp; omega
             · omega
             · exact Try.underlying22
             · exact infoU8
             · rfl
             · decide
             · decide
             · rfl
             · exact by8_one _
             · exact Rd.lit rfl #[.int .u8 ((x ^^^ y ^^^ z : Nat) : Int)] 5
             · rfl
             · rfl
             · rfl
             · rfl
             intro v2 x2 hown hg _
             have hB2 := (HB.out.alloc HB.out.size (.cells #[.int .u8 ((x ^^^ y ^^^ z : Nat) : Int)] 5)).drew
             have hO2 := HO.out.alloc (.cells #[.int .u8 ((x ^^^ y ^^^ z : Nat) : Int)] 5)
             have hX2 := below_app1 hB2 hO2 hg
             have HX2 := Lib.hid hX2
             clear hB2 hO2 hX2
             have HO2 := Lib.hid hown
             clear hg hown))
      go_wp2
      go_roundw
      case rel =>
        refine ⟨k + 1, ⟨by omega, rfl, ?_, HX2.out⟩⟩
        rw [HT.out, by8_app]
        exact HO2.out
      case measure => simp [intOf]; omega
    · obtain rfl : k = n := by omega
      have hk1 : ¬ (k : Int) < k := by omega
      have hle : (x3 (xs.take k) (ys.take k) (zs.take k)).length = k := x3_len hnx hny hnz
      rw [List.take_of_length_le (Nat.le_of_eq hle)] at HR8
      have LB := Lib.hid (x3_lt (fun b hb => XB.out b (List.mem_of_mem_take hb)) (fun b hb => YB.out b (List.mem_of_mem_take hb)) (fun b hb => ZB.out b (List.mem_of_mem_take hb)) : ∀ b ∈ x3 (xs.take k) (ys.take k) (zs.take k), b < 256)
      have XT := Lib.hid (show Rd wr a0 (by8 (xs.take k)) by have h := (XR.out.below HB.out).take k; rwa [← List.map_take] at h)
      have YT := Lib.hid (show Rd wr a1 (by8 (ys.take k)) by have h := (YR.out.below HB.out).take k; rwa [← List.map_take] at h)
      have ZT := Lib.hid (show Rd wr a2 (by8 (zs.take k)) by have h := (ZR.out.below HB.out).take k; rwa [← List.map_take] at h)
      have XU := Lib.hid (fun b (hb : b ∈ xs.take k) => XB.out b (List.mem_of_mem_take hb))
      have YU := Lib.hid (fun b (hb : b ∈ ys.take k) => YB.out b (List.mem_of_mem_take hb))
      have ZU := Lib.hid (fun b (hb : b ∈ zs.take k) => ZB.out b (List.mem_of_mem_take hb))
      have XN := Lib.hid (show (xs.take k).length = k by simp; omega)
      have YN := Lib.hid (show (ys.take k).length = k by simp; omega)
      have ZN := Lib.hid (show (zs.take k).length = k by simp; omega)
      have HS := Lib.hid (show sum (x3 (xs.take k) (ys.take k) (zs.take k)) = sum (xs.take k) ^^^ sum (ys.take k) ^^^ sum (zs.take k) from sum_xor3 _ _ _ (by rw [XN.out, YN.out]) (by rw [YN.out, ZN.out]))
      have q1 := xor32 (sum_lt XU.out) (sum_lt YU.out)
      have q2 := xor32 (xor_lt (sum_lt XU.out) (sum_lt YU.out)) (sum_lt ZU.out)
      have q3 : (((sum (x3 (xs.take k) (ys.take k) (zs.take k)) : Nat) : Int) == ((sum (xs.take k) ^^^ sum (ys.take k) ^^^ sum (zs.take k) : Nat) : Int)) = true := by rw [HS.out]; simp
      have i1 : (0 : Int) ≤ (k : Int) := by omega
      have i2 : (k : Int) ≤ (xs.length : Int) := by omega
      have i3 : (k : Int) ≤ (ys.length : Int) := by omega
      have i4 : (k : Int) ≤ (zs.length : Int) := by omega
      have i5 : (k : Int) ≤ (c0 : Int) := by omega
      have i6 : (k : Int) ≤ (c1 : Int) := by omega
      have i7 : (k : Int) ≤ (c2 : Int) := by omega
      have HLE := Lib.hid hle; clear hle
      go_upto_region 9 with fail
      go_quiet (first
        | (go_at_call 12; refine Calls.quiet_of_same (csum_n A8 (x3 (xs.take k) (ys.take k) (zs.take k)) k c8 _ HLE.out HR8.out LB.out (by omega)))
        | (go_at_call 12; refine Calls.quiet_of_same (csum_n a0 (xs.take k) k c0 _ XN.out XT.out XU.out (by omega)))
        | (go_at_call 12; refine Calls.quiet_of_same (csum_n a1 (ys.take k) k c1 _ YN.out YT.out YU.out (by omega)))
        | (go_at_call 12; refine Calls.quiet_of_same (csum_n a2 (zs.take k) k c2 _ ZN.out ZT.out ZU.out (by omega))))
      go_wp2
      go_ret
      exact ⟨rfl, pw_drewN HB.out _⟩
end Go.Proofs.Ytpiiepnljeifhaa
