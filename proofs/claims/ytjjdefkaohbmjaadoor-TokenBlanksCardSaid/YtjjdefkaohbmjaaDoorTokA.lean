/- The walk of awake: it returns true. Condition: utf8's tables lie where they should. -/
import Derived.Test.YtjjdefkaohbmjaaDoorTokX
set_option linter.unusedVariables false
set_option linter.unusedSimpArgs false
namespace Go.Proofs.YtjjdefkaohbmjaaDoor
open Go.RowKit Go.Lib
theorem c_words1 : words [119, 114, 105, 116, 101, 32, 51, 32, 34, 97, 32, 98, 34, 32, 35, 32, 110, 111] = .ok [[119, 114, 105, 116, 101], [51], [97, 32, 98]] := by kernel_rfl
theorem c_words2 : words [97, 34, 98, 34] = .bad 4 := by kernel_rfl
theorem c_num1 : number [45, 49, 50] = (-12, 0) := by kernel_rfl
theorem c_num2 : number [48, 49, 50] = (0, 4) := by kernel_rfl
theorem c_quote1 : quote [97, 32, 98] = [34, 97, 32, 98, 34] := by kernel_rfl
theorem c_quote2 : quote [120] = [120] := by kernel_rfl
theorem c_plain1 : isPl [120] = true := by kernel_rfl
theorem c_plain2 : isPl [] = false := by kernel_rfl
theorem a_words1 (w : World) (hT : Tabs w) : Calls Tryd.prog 14 #[.string { data := #[119, 114, 105, 116, 101, 32, 51, 32, 34, 97, 32, 98, 34, 32, 35, 32, 110, 111] }] w fun e w' => ∃ g c, e = .returned (.tuple #[.slice (some ⟨g, 0, none⟩) 3 c, .int .i64 0]) ∧ Sep w w' [tOwn tStr 1 (.slice (some ⟨g, 0, none⟩) 3 c) 3 (eStr.fl [ba [119, 114, 105, 116, 101], ba [51], ba [97, 32, 98]])] :=
  (Words_any _ w (by decide) hT).mono fun e w' h => by
    have h : WordsPost w (words [119, 114, 105, 116, 101, 32, 51, 32, 34, 97, 32, 98, 34, 32, 35, 32, 110, 111]) e w' := h
    rw [c_words1] at h
    obtain ⟨P, c, he, hs⟩ := h
    obtain ⟨g, c', hv⟩ := hs.own.pos (by decide)
    injection hv with h1 h2 h3
    subst h1
    exact ⟨g, c, he, hs⟩
theorem a_words2 (w : World) (hT : Tabs w) : Calls Tryd.prog 14 #[.string { data := #[97, 34, 98, 34] }] w fun e w' => e = .returned (.tuple #[.slice none 0 0, .int .i64 4]) ∧ Below w.heap.size w w' :=
  (Words_any _ w (by decide) hT).mono fun e w' h => by
    have h : WordsPost w (words [97, 34, 98, 34]) e w' := h
    rw [c_words2] at h
    exact h
theorem a_num1 (w : World) : Calls Tryd.prog 16 #[.string { data := #[45, 49, 50] }] w fun e w' => e = .returned (.tuple #[.int .i64 (-12), .int .i64 0]) ∧ Below w.heap.size w w' := by
  have h := Number_any { data := #[45, 49, 50] } w
  have e : number ({ data := #[45, 49, 50] } : ByteArray).data.toList = (-12, 0) := c_num1
  rwa [e] at h
theorem a_num2 (w : World) : Calls Tryd.prog 16 #[.string { data := #[48, 49, 50] }] w fun e w' => e = .returned (.tuple #[.int .i64 0, .int .i64 4]) ∧ Below w.heap.size w w' := by
  have h := Number_any { data := #[48, 49, 50] } w
  have e : number ({ data := #[48, 49, 50] } : ByteArray).data.toList = (0, 4) := c_num2
  rwa [e] at h
theorem a_quote1 (w : World) (hT : Tabs w) : Calls Tryd.prog 12 #[.string { data := #[97, 32, 98] }] w fun e w' => e = .returned (.string { data := #[34, 97, 32, 98, 34] }) ∧ Below w.heap.size w w' := by
  have h := Quote_any { data := #[97, 32, 98] } w (by decide) hT
  have e : quote ({ data := #[97, 32, 98] } : ByteArray).data.toList = [34, 97, 32, 98, 34] := c_quote1
  rwa [e] at h
theorem a_quote2 (w : World) (hT : Tabs w) : Calls Tryd.prog 12 #[.string { data := #[120] }] w fun e w' => e = .returned (.string { data := #[120] }) ∧ Below w.heap.size w w' := by
  have h := Quote_any { data := #[120] } w (by decide) hT
  have e : quote ({ data := #[120] } : ByteArray).data.toList = [120] := c_quote2
  rwa [e] at h
theorem a_plain1 (w : World) : Calls Tryd.prog 13 #[.string { data := #[120] }] w fun e w' => e = .returned (.bool true) ∧ Below w.heap.size w w' := by
  have h := Plain_any { data := #[120] } w (by decide)
  have e : isPl ({ data := #[120] } : ByteArray).data.toList = true := c_plain1
  rwa [e] at h
theorem a_plain2 (w : World) : Calls Tryd.prog 13 #[.string { data := #[] }] w fun e w' => e = .returned (.bool false) ∧ Below w.heap.size w w' := by
  have h := Plain_any { data := #[] } w (by decide)
  have e : isPl ({ data := #[] } : ByteArray).data.toList = false := c_plain2
  rwa [e] at h
set_option maxHeartbeats 8000000 in
set_option maxRecDepth 1000000 in
theorem awake_any (w : World) (hT : Tabs w) : Calls Tryd.prog 11 #[] w fun e w' => e = .returned (.bool true) ∧ Below w.heap.size w w' := by
  have HTB := Lib.hid hT
  clear hT
  go_enter Tryd.func11, Tryd.ntmps11
  go_upto_region 2 with (go_at_call 14; with_reducible refine (a_words1 _ HTB.out).mono ?_; rintro e w1 ⟨g, c, rfl, hs⟩; have HT := Lib.hid hs; clear hs)
  go_upto_region 5 with (first | (go_at_call 14; with_reducible refine (a_words2 _ (tabs_bel HTB.out HT.out.bel)).mono ?_; rintro e w2 ⟨rfl, hB⟩; have HT := Lib.hid (HT.out.step hB); clear hB) | (go_at_call 16; with_reducible refine (a_num1 _).mono ?_; rintro e w3 ⟨rfl, hB⟩; have HT := Lib.hid (HT.out.step hB); clear hB) | (go_at_call 16; with_reducible refine (a_num2 _).mono ?_; rintro e w4 ⟨rfl, hB⟩; have HT := Lib.hid (HT.out.step hB); clear hB))
  have z0 : w4.cell? ⟨g, 0, none⟩ = some (.string { data := #[119, 114, 105, 116, 101] }) := HT.out.own.cell 0 _ rfl
  have z2 : w4.cell? ⟨g, 2, none⟩ = some (.string { data := #[97, 32, 98] }) := HT.out.own.cell 2 _ rfl
  go_wp2_with (first | (go_at_call 12; with_reducible refine (a_quote1 _ (tabs_bel HTB.out HT.out.bel)).mono ?_; rintro e w5 ⟨rfl, hB⟩; have HT := Lib.hid (HT.out.step hB); clear hB) | (go_at_call 12; with_reducible refine (a_quote2 _ (tabs_bel HTB.out HT.out.bel)).mono ?_; rintro e w6 ⟨rfl, hB⟩; have HT := Lib.hid (HT.out.step hB); clear hB) | (go_at_call 13; with_reducible refine (a_plain1 _).mono ?_; rintro e w7 ⟨rfl, hB⟩; have HT := Lib.hid (HT.out.step hB); clear hB) | (go_at_call 13; with_reducible refine (a_plain2 _).mono ?_; rintro e w8 ⟨rfl, hB⟩; have HT := Lib.hid (HT.out.step hB); clear hB))
  go_ret
  exact ⟨rfl, HT.out.bel⟩
end Go.Proofs.YtjjdefkaohbmjaaDoor
