/- The walks of package token, small: blank, odd, inPlain, plain, Plain, hex. Condition: a text of a size that a machine has. -/
import Derived.Test.YtjjdefkaohbmjaaDoorTokM
import Derived.Test.YtjjdefkaohbmjaaDoorTokS
import Derived.Test.YtjjdefkaohbmjaaDoorSep
import Derived.WalkKit
import Derived.BigCall
set_option linter.unusedVariables false
set_option linter.unusedSimpArgs false
namespace Go.Proofs.YtjjdefkaohbmjaaDoor
open Go.RowKit Go.Lib
theorem blank_any (r : Nat) (w : World) : Calls Tryd.prog 27 #[.int .i32 (r : Int)] w fun e w' => e = .returned (.bool (blankR r)) ∧ w' = w := by
  by_cases h1 : r = 32
  · subst h1
    go_enter Tryd.func27, Tryd.ntmps27
    go_wp2
    go_ret
    exact ⟨rfl, rfl⟩
  have e1 : ((r : Int) == 32) = false := by simp; omega
  by_cases h2 : r = 9
  · subst h2
    go_enter Tryd.func27, Tryd.ntmps27
    go_wp2
    go_ret
    exact ⟨rfl, rfl⟩
  have e2 : ((r : Int) == 9) = false := by simp; omega
  go_enter Tryd.func27, Tryd.ntmps27
  go_wp2
  go_ret
  exact ⟨by simp [blankR, h1, h2], rfl⟩
theorem odd_any (r : Nat) (w : World) : Calls Tryd.prog 21 #[.int .i32 (r : Int)] w fun e w' => e = .returned (.bool (oddR r)) ∧ w' = w := by
  by_cases h1 : r < 32
  · have e1 : decide ((r : Int) < 32) = true := by simp; omega
    go_enter Tryd.func21, Tryd.ntmps21
    go_wp2
    go_ret
    exact ⟨by simp [oddR, h1], rfl⟩
  have e1 : decide ((r : Int) < 32) = false := by simp; omega
  by_cases h2 : r = 127
  · subst h2
    go_enter Tryd.func21, Tryd.ntmps21
    go_wp2
    go_ret
    exact ⟨rfl, rfl⟩
  have e2 : ((r : Int) == 127) = false := by simp; omega
  by_cases h3 : r = 65533
  · subst h3
    go_enter Tryd.func21, Tryd.ntmps21
    go_wp2
    go_ret
    exact ⟨rfl, rfl⟩
  have e3 : ((r : Int) == 65533) = false := by simp; omega
  go_enter Tryd.func21, Tryd.ntmps21
  go_wp2
  go_ret
  exact ⟨by simp [oddR, h1, h2, h3], rfl⟩
theorem inPlain_any (r : Nat) (w : World) : Calls Tryd.prog 32 #[.int .i32 (r : Int)] w fun e w' => e = .returned (.bool (inPl r)) ∧ w' = w := by
  obtain ⟨bl, hbl⟩ : ∃ b, blankR r = b := ⟨_, rfl⟩
  obtain ⟨od, hod⟩ : ∃ b, oddR r = b := ⟨_, rfl⟩
  have HB := Lib.hid hbl
  have HO := Lib.hid hod
  have HI := Lib.hid (show inPl r = (!bl && (decide (r ≠ 34) && (decide (r ≠ 35) && !od))) by unfold inPl; rw [hbl, hod])
  clear hbl hod
  cases bl
  case true =>
    have HI := Lib.hid (show inPl r = false by rw [HI.out]; rfl)
    go_enter Tryd.func32, Tryd.ntmps32
    go_wp2_with (go_at_call 27; refine (blank_any r _).mono ?_; rw [HB.out]; rintro e w1 ⟨rfl, rfl⟩)
    go_ret
    exact ⟨by rw [HI.out]; rfl, rfl⟩
  by_cases h1 : r = 34
  · have e1 : ((r : Int) != 34) = false := by rw [h1]; rfl
    have HI := Lib.hid (show inPl r = false by rw [HI.out, h1]; simp)
    clear h1
    go_enter Tryd.func32, Tryd.ntmps32
    go_wp2_with (go_at_call 27; refine (blank_any r _).mono ?_; rw [HB.out]; rintro e w1 ⟨rfl, rfl⟩)
    go_ret
    exact ⟨by rw [HI.out]; rfl, rfl⟩
  have e1 : ((r : Int) != 34) = true := by simp [bne]; omega
  by_cases h2 : r = 35
  · have e2 : ((r : Int) != 35) = false := by rw [h2]; rfl
    have HI := Lib.hid (show inPl r = false by rw [HI.out, h2]; simp)
    clear h2
    go_enter Tryd.func32, Tryd.ntmps32
    go_wp2_with (go_at_call 27; refine (blank_any r _).mono ?_; rw [HB.out]; rintro e w1 ⟨rfl, rfl⟩)
    go_ret
    exact ⟨by rw [HI.out]; rfl, rfl⟩
  have e2 : ((r : Int) != 35) = true := by simp [bne]; omega
  have HI := Lib.hid (show inPl r = !od by rw [HI.out]; simp [h1, h2])
  clear h1 h2
  go_enter Tryd.func32, Tryd.ntmps32
  go_wp2_with (first | (go_at_call 27; refine (blank_any r _).mono ?_; rw [HB.out]; rintro e w1 ⟨rfl, rfl⟩) | (go_at_call 21; refine (odd_any r _).mono ?_; rw [HO.out]; rintro e w1 ⟨rfl, rfl⟩))
  all_goals (
    go_ret
    exact ⟨by rw [HI.out]; rfl, rfl⟩)
theorem ru_drop (s : ByteArray) (pos : Nat) : (Utf8.decode s pos).1 = ru (s.data.toList.drop pos) ∧ (Utf8.decode s pos).2 = wd (s.data.toList.drop pos) := by
  unfold ru wd; rw [decodeL_drop]; exact ⟨rfl, rfl⟩
theorem drop_ne {l : Bs} {pos : Nat} (h : pos < l.length) : l.drop pos ≠ [] := by
  intro e
  have := congrArg List.length e
  rw [List.length_drop] at this
  simp at this
  omega
set_option maxHeartbeats 4000000 in
set_option maxRecDepth 1000000 in
theorem plain_any (s : ByteArray) (w : World) (hs : s.size ≤ 140737488351232) :
    Calls Tryd.prog 24 #[.string s] w fun e w' => e = .returned (.int .i64 (pl s.data.toList : Nat)) ∧ Below w.heap.size w w' := by
  obtain ⟨L, hL⟩ : ∃ L, s.data.toList = L := ⟨_, rfl⟩
  have HL := Lib.hid hL
  have HSZ := Lib.hid (show L.length = s.size by rw [← hL, size_eq])
  rw [hL]
  clear hL
  go_enter Tryd.func24, Tryd.ntmps24
  go_wp2
  go_loopw [] (fun wr => ∃ (pos : Nat), wr.heap[w.heap.size]? = some (.stringIter s pos) ∧ Below w.heap.size w wr ∧ pos ≤ s.size ∧ pl L = pos + pl (L.drop pos)) (fun wr => s.size - wr.iterPos w.heap.size)
  case atStart =>
    refine ⟨0, ?_, (Below.refl _ w).alloc (Nat.le_refl _) _, Nat.zero_le _, by simp⟩
    exact World.iter_heap w s 0
  case round =>
    obtain ⟨pos, hit, hbw, hps, hpl⟩ := hrel
    have HPL := Lib.hid hpl
    have HBW := Lib.hid hbw
    clear hpl hbw
    by_cases hp : pos < s.size
    · have hnx : ∀ ty, (Instr.next (.pointer (some ⟨w.heap.size, 0, none⟩)) true ty).run Tryd.prog wr = _ := fun ty => Lib.run_next_any_at wr w.heap.size s pos ty hit hp
      have hrd := ru_drop s pos
      rw [HL.out] at hrd
      rw [hrd.1, hrd.2] at hnx
      have hne : L.drop pos ≠ [] := drop_ne (by rw [HSZ.out]; exact hp)
      have HST := Lib.hid (pl_step hne)
      have hwl := wd_le hne
      rw [List.length_drop, HSZ.out] at hwl
      have hwp := wd_pos (L.drop pos)
      have HIT := Lib.hid (Lib.iterAt_heap wr w.heap.size s pos (pos + wd (L.drop pos)) hit)
      have HBW2 := Lib.hid (Lib.below_iterAt HBW.out (k := w.heap.size) (Nat.le_refl _) s (pos + wd (L.drop pos)))
      clear hrd hne
      generalize ru (L.drop pos) = r at *
      obtain ⟨d, hd⟩ : ∃ d, wd (L.drop pos) = d := ⟨_, rfl⟩
      have HD := Lib.hid hd
      rw [hd] at hnx HST HIT HBW2 hwl hwp
      clear hd
      have HM := Lib.hid (show wr.iterPos w.heap.size = pos by simp only [World.iterPos, hit])
      cases hin : inPl r with
      | true =>
        have HIN := Lib.hid hin
        have HP2 := Lib.hid (show pl L = pos + d + pl (L.drop (pos + d)) by rw [HPL.out, HST.out, if_pos hin, List.drop_drop]; omega)
        clear hin hit
        go_wp2_with (go_at_call 32; refine (inPlain_any r _).mono ?_; rw [HIN.out]; rintro e w1 ⟨rfl, rfl⟩)
        go_roundw
        case rel => exact ⟨pos + d, HIT.out, HBW2.out, by omega, HP2.out⟩
        case measure =>
          rw [HM.out]
          simp only [World.iterPos, HIT.out]
          omega
      | false =>
        have HIN := Lib.hid hin
        have HP2 := Lib.hid (show pl L = pos by rw [HPL.out, HST.out, hin]; simp)
        clear hin hit
        go_wp2_with (go_at_call 32; refine (inPlain_any r _).mono ?_; rw [HIN.out]; rintro e w1 ⟨rfl, rfl⟩)
        go_ret
        exact ⟨by rw [HP2.out]; rfl, HBW2.out⟩
    · have hnx : ∀ ty, (Instr.next (.pointer (some ⟨w.heap.size, 0, none⟩)) true ty).run Tryd.prog wr = _ := fun ty => Lib.run_next_end_at wr w.heap.size s pos ty hit hp
      have HP2 := Lib.hid (show pl L = s.size by
        rw [HPL.out, List.drop_eq_nil_of_le (by rw [HSZ.out]; omega), pl_nil]; omega)
      go_wp2
      go_ret
      exact ⟨by rw [HP2.out]; rfl, HBW.out⟩
end Go.Proofs.YtjjdefkaohbmjaaDoor
