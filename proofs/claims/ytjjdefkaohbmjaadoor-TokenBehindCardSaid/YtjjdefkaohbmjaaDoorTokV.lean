/- The walks of Plain and hex. Condition: a text of a size that a machine has. -/
import Derived.Test.YtjjdefkaohbmjaaDoorTokW
set_option linter.unusedVariables false
set_option linter.unusedSimpArgs false
namespace Go.Proofs.YtjjdefkaohbmjaaDoor
open Go.RowKit Go.Lib
theorem str_beq (s t : ByteArray) : (s.toList == t.toList) = decide (s = t) := by
  rw [ByteArray.toList_eq, ByteArray.toList_eq]
  by_cases h : s = t
  · subst h; simp
  · rw [decide_eq_false h]
    refine beq_eq_false_iff_ne.2 (fun e => h ?_)
    cases s; cases t
    simp only at e
    rw [Array.toList_inj.1 e]
theorem str_ne {s t : ByteArray} (h : s ≠ t) : (s.toList == t.toList) = false := by rw [str_beq]; exact decide_eq_false h
theorem str_same (s : ByteArray) : (s.toList == s.toList) = true := by rw [str_beq]; exact decide_eq_true rfl
theorem str_nil {s : ByteArray} : s = ⟨#[]⟩ ↔ s.data.toList = [] := by
  cases s with
  | mk d =>
    constructor
    · intro h; injection h with h; rw [h]
    · intro h; simp at h; rw [h]
theorem is_empty {s : ByteArray} (h : s.data.toList ≠ []) : s.toList.isEmpty = false := by
  rw [ByteArray.toList_eq]
  cases e : s.data.toList with
  | nil => exact absurd e h
  | cons x l => rfl
theorem no_empty {s : ByteArray} (h : s.data.toList = []) : s.toList.isEmpty = true := by
  rw [ByteArray.toList_eq, h]; rfl
/-- A byte of a text. -/
theorem byte_at {s : ByteArray} {i : Nat} (h : i < s.size) : ∃ c : UInt8, s[i]'h = c ∧ s.data.toList[i]? = some c :=
  ⟨_, rfl, by rw [List.getElem?_eq_getElem (by rw [← size_eq]; exact h)]; rfl⟩
theorem u8_nat (c : UInt8) : ((c.toNat : Int)).toNat.toUInt8 = c := by simp
set_option maxHeartbeats 4000000 in
set_option maxRecDepth 1000000 in
theorem Plain_any (s : ByteArray) (w : World) (hs : s.size ≤ 140737488351232) :
    Calls Tryd.prog 13 #[.string s] w fun e w' => e = .returned (.bool (isPl s.data.toList)) ∧ Below w.heap.size w w' := by
  by_cases h0 : s.data.toList = []
  · obtain rfl := str_nil.2 h0
    go_enter Tryd.func13, Tryd.ntmps13
    go_wp2
    go_ret
    exact ⟨rfl, Below.refl _ _⟩
  · have e1 : s.toList.isEmpty = false := is_empty h0
    have HSZ := Lib.hid (show s.data.toList.length = s.size by rw [size_eq])
    have HI := Lib.hid (show isPl s.data.toList = decide (pl s.data.toList = s.size) by unfold isPl; rw [decide_eq_true h0, HSZ.out]; rfl)
    have HP := Lib.hid (fun w => plain_any s w hs)
    clear h0
    generalize pl s.data.toList = n at *
    by_cases h : n = s.size
    · have e2 : ((n : Int) == (s.size : Int)) = true := by rw [h]; simp
      have HI := Lib.hid (show isPl s.data.toList = true by rw [HI.out, decide_eq_true h])
      clear h
      go_enter Tryd.func13, Tryd.ntmps13
      go_wp2_with (go_at_call 24; refine (HP.out _).mono ?_; rintro e w1 ⟨rfl, hB⟩)
      go_ret
      exact ⟨by rw [HI.out]; rfl, hB⟩
    · have e2 : ((n : Int) == (s.size : Int)) = false := by simp; omega
      have HI := Lib.hid (show isPl s.data.toList = false by rw [HI.out, decide_eq_false h])
      clear h
      go_enter Tryd.func13, Tryd.ntmps13
      go_wp2_with (go_at_call 24; refine (HP.out _).mono ?_; rintro e w1 ⟨rfl, hB⟩)
      go_ret
      exact ⟨by rw [HI.out]; rfl, hB⟩
theorem hx_any (s : ByteArray) (i : Nat) (w : World) (hs : s.size ≤ 140737488351232) :
    Calls Tryd.prog 37 #[.string s, .int .i64 (i : Int)] w fun e w' => e = .returned (.int .i64 (hx s.data.toList i)) ∧ w' = w := by
  by_cases h : i < s.size
  · have q1 : decide ((s.size : Int) ≤ (i : Int)) = false := by simp; omega
    have q2 : (i : Int) < (s.size : Int) := by omega
    have q3 : (0 : Int) ≤ (i : Int) := by omega
    obtain ⟨c, hc, hc2⟩ := byte_at h
    have HH := Lib.hid (show hx s.data.toList i = indexByte hexL c by
      unfold hx
      rw [hc2])
    have HU := Lib.hid (u8_nat c)
    go_enter Tryd.func37, Tryd.ntmps37
    go_wp2_with (go_at_call 43; refine (Tryd.strings_IndexByte _ _ _).mono ?_; rw [HU.out]; rintro e w1 ⟨rfl, rfl⟩)
    go_ret
    exact ⟨by rw [HH.out]; rfl, rfl⟩
  · have q1 : decide ((s.size : Int) ≤ (i : Int)) = true := by simp; omega
    have q2 : (s.size : Int) ≤ (i : Int) := by omega
    have HH := Lib.hid (show hx s.data.toList i = -1 by
      unfold hx
      rw [List.getElem?_eq_none (by rw [← size_eq]; omega)])
    go_enter Tryd.func37, Tryd.ntmps37
    go_wp2_with fail
    go_ret
    exact ⟨by rw [HH.out]; rfl, rfl⟩
end Go.Proofs.YtjjdefkaohbmjaaDoor
