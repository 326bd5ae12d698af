/- The walk of the law TokenBack: it returns true. Condition: utf8's tables lie where they should. -/
import Derived.Test.YtjjdefkaohbmjaaDoorTokA
import Derived.Test.YtjjdefkaohbmjaaDoorTokH
set_option linter.unusedVariables false
set_option linter.unusedSimpArgs false
namespace Go.Proofs.YtjjdefkaohbmjaaDoor
open Go.RowKit Go.Lib
theorem words_two (a b : Bs) (h : (quote a ++ [32, 9] ++ quote b).length ≤ 400) : words (quote a ++ [32, 9] ++ quote b) = .ok [a, b] := by
  unfold words
  rw [if_neg (by omega)]
  have e1 := wo_quote (c := 0) [] a ([32, 9] ++ quote b) rfl (.inr ⟨32, _, rfl, rfl⟩) (by decide)
  have e2 := wo_quote (c := 1) [32, 9] b [] (by decide) (.inl rfl) (by decide)
  rw [List.append_nil] at e2
  rw [List.nil_append, ← List.append_assoc] at e1
  rw [e1, e2, wo_nil]
  rfl
theorem ba_app (x y : Bs) : ba x ++ ba y = ba (x ++ y) := by
  apply ByteArray.ext
  simp [ba]
set_option maxHeartbeats 8000000 in
set_option maxRecDepth 1000000 in
theorem w_TokenBack (a0 : ByteArray) (a1 : ByteArray) (w : World) (b0 : a0.size ≤ 140737488351232) (b1 : a1.size ≤ 140737488351232) (hT : Tabs w) :
    Calls Tryd.prog 5 #[.string a0, .string a1] w fun e w' => e = .returned (.bool true) ∧ Below w.heap.size w w' := by
  obtain ⟨L, hL⟩ : ∃ L, a0.data.toList = L := ⟨_, rfl⟩
  obtain ⟨M, hM⟩ : ∃ M, a1.data.toList = M := ⟨_, rfl⟩
  have HSZ := Lib.hid (show L.length = a0.size by rw [← hL, size_eq])
  have HSM := Lib.hid (show M.length = a1.size by rw [← hM, size_eq])
  have HL := Lib.hid hL
  have HM := Lib.hid hM
  have HTB := Lib.hid hT
  clear hL hM hT
  go_enter Tryd.func5, Tryd.ntmps5
  go_wp2_with fail
  refine (awake_any _ HTB.out).mono ?_
  rintro e w1 ⟨rfl, hB1⟩
  have HT := Lib.hid ((Sep.nil w).step hB1)
  clear hB1
  by_cases h2k : 2048 < a0.size
  · have q1 : decide ((2048 : Int) < (a0.size : Int)) = true := by simp; omega
    have q2 : (2048 : Int) < (a0.size : Int) := by omega
    go_wp2_with fail
    go_ret
    exact ⟨rfl, HT.out.bel⟩
  have q1 : decide ((2048 : Int) < (a0.size : Int)) = false := by simp; omega
  have q2 : ¬ (2048 : Int) < (a0.size : Int) := by omega
  by_cases h2m : 2048 < a1.size
  · have q3 : decide ((2048 : Int) < (a1.size : Int)) = true := by simp; omega
    have q4 : (2048 : Int) < (a1.size : Int) := by omega
    go_wp2_with fail
    go_ret
    exact ⟨rfl, HT.out.bel⟩
  have q3 : decide ((2048 : Int) < (a1.size : Int)) = false := by simp; omega
  have q4 : ¬ (2048 : Int) < (a1.size : Int) := by omega
  have HQA := Lib.hid (fun (W : World) (h : Tabs W) => Quote_any a0 W (by omega) h)
  have HQB := Lib.hid (fun (W : World) (h : Tabs W) => Quote_any a1 W (by omega) h)
  rw [HL.out] at HQA
  rw [HM.out] at HQB
  have HLE := Lib.hid (show ba (quote L) ++ { data := #[32, 9] } ++ ba (quote M) = ba (quote L ++ [32, 9] ++ quote M) by
    rw [← ba_app, ← ba_app])
  have hqx := ba_size (quote L)
  have hqy := ba_size (quote M)
  have hqx1 := quote_le L
  have hqy1 := quote_le M
  rw [HSZ.out] at hqx1
  rw [HSM.out] at hqy1
  obtain ⟨x, hx⟩ : ∃ q, ba (quote L) = q := ⟨_, rfl⟩
  obtain ⟨y, hy⟩ : ∃ q, ba (quote M) = q := ⟨_, rfl⟩
  rw [hx] at HQA HLE hqx
  rw [hy] at HQB HLE hqy
  have hxs : x.size ≤ 10000 := by omega
  have hys : y.size ≤ 10000 := by omega
  have hxs2 : (x ++ { data := #[32, 9] }).size ≤ 10002 := by rw [ByteArray.size_append]; exact Nat.add_le_add_right hxs 2
  clear hx hy
  go_upto_region 6 with (first | (go_at_call 12; first | (with_reducible refine (HQA.out _ (tabs_bel HTB.out HT.out.bel)).mono ?_; rintro e w2 ⟨rfl, hB⟩; have HT := Lib.hid (HT.out.step hB); clear hB) | (with_reducible refine (HQB.out _ (tabs_bel HTB.out HT.out.bel)).mono ?_; rintro e w2 ⟨rfl, hB⟩; have HT := Lib.hid (HT.out.step hB); clear hB)))
  rw [HLE.out]
  have HLL := Lib.hid (ba_list (quote L ++ [32, 9] ++ quote M))
  have HLS := Lib.hid (ba_size (quote L ++ [32, 9] ++ quote M))
  have hls : (ba (quote L ++ [32, 9] ++ quote M)).size ≤ 20002 := by rw [← HLE.out, ByteArray.size_append]; omega
  have HW2 := Lib.hid (words_two L M)
  have HBA := Lib.hid (show ba L = a0 from (ba_eq HL.out).symm)
  have HBM := Lib.hid (show ba M = a1 from (ba_eq HM.out).symm)
  clear hxs2
  obtain ⟨ln, hln⟩ : ∃ q, ba (quote L ++ [32, 9] ++ quote M) = q := ⟨_, rfl⟩
  obtain ⟨Z, hZ⟩ : ∃ q, quote L ++ [32, 9] ++ quote M = q := ⟨_, rfl⟩
  rw [hln] at HLL HLS hls ⊢
  rw [hZ] at HLL HLS HW2
  clear hln hZ
  by_cases h4 : 400 < ln.size
  · have e2 : decide ((400 : Int) < (ln.size : Int)) = true := by simp; omega
    have e3 : (400 : Int) < (ln.size : Int) := by omega
    go_wp2_with fail
    go_ret
    exact ⟨rfl, HT.out.bel⟩
  have e2 : decide ((400 : Int) < (ln.size : Int)) = false := by simp; omega
  have e3 : ¬ (400 : Int) < (ln.size : Int) := by omega
  have HW := Lib.hid (HW2.out (by rw [← HLS.out]; omega))
  have HWO : Hid (∀ (W : World), Tabs W → Calls Tryd.prog 14 #[.string ln] W fun e w' => ∃ g c, e = .returned (.tuple #[.slice (some ⟨g, 0, none⟩) 2 c, .int .i64 0]) ∧ Sep W w' [tOwn tStr 1 (.slice (some ⟨g, 0, none⟩) 2 c) 2 (eStr.fl [a0, a1])]) := Lib.hid (fun W h => (Words_any ln W (by omega) h).mono fun e w' h => by
    rw [HLL.out, HW.out] at h
    obtain ⟨P, c, he, hs⟩ := h
    obtain ⟨g, c', hv⟩ := hs.own.pos (show 0 < [L, M].length from Nat.zero_lt_two)
    injection hv with h1 h2 h3
    subst h1
    refine ⟨g, c, he, ?_⟩
    have : [L, M].map ba = [a0, a1] := by rw [← HBA.out, ← HBM.out]; rfl
    rw [this] at hs
    exact hs)
  have e4 := str_same a0
  have e5 := str_same a1
  go_upto_region 9 with (go_at_call 14; with_reducible refine (HWO.out _ (tabs_bel HTB.out HT.out.bel)).mono ?_; rintro e w4 ⟨g, c, rfl, hs⟩; have HT := Lib.hid (HT.out.join hs); clear hs)
  have z0 : w4.cell? ⟨g, 0, none⟩ = some (.string a0) := HT.out.own.cell 0 _ rfl
  have z1 : w4.cell? ⟨g, 1, none⟩ = some (.string a1) := HT.out.own.cell 1 _ rfl
  go_wp2_with fail
  go_ret
  exact ⟨rfl, HT.out.bel⟩
end Go.Proofs.YtjjdefkaohbmjaaDoor
