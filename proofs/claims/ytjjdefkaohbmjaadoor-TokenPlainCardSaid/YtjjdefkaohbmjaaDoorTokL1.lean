/- The walk of the law TokenPlain: it returns true. Condition: utf8's tables lie where they should. -/
import Derived.Test.YtjjdefkaohbmjaaDoorTokA
import Derived.Test.YtjjdefkaohbmjaaDoorTokK
set_option linter.unusedVariables false
set_option linter.unusedSimpArgs false
namespace Go.Proofs.YtjjdefkaohbmjaaDoor
open Go.RowKit Go.Lib
theorem first_34 {l : Bs} (h : isPl l = false) : (quote l)[0]? = some 34 := by rw [quote_no h]; rfl
theorem last_34 {l : Bs} (h : isPl l = false) : (quote l)[(quote l).length - 1]? = some 34 := by
  rw [quote_no h, ← List.cons_append, List.length_append]
  simp
set_option maxHeartbeats 8000000 in
set_option maxRecDepth 1000000 in
theorem w_TokenPlain (a0 : ByteArray) (w : World) (b0 : a0.size ≤ 140737488351232) (hT : Tabs w) :
    Calls Tryd.prog 7 #[.string a0] w fun e w' => e = .returned (.bool true) ∧ Below w.heap.size w w' := by
  obtain ⟨L, hL⟩ : ∃ L, a0.data.toList = L := ⟨_, rfl⟩
  have HSZ := Lib.hid (show L.length = a0.size by rw [← hL, size_eq])
  have HL := Lib.hid hL
  have HTB := Lib.hid hT
  clear hL hT
  go_enter Tryd.func7, Tryd.ntmps7
  go_wp2_with fail
  refine (awake_any _ HTB.out).mono ?_
  rintro e w1 ⟨rfl, hB1⟩
  have HT := Lib.hid ((Sep.nil w).step hB1)
  clear hB1
  by_cases h2k : 2048 < a0.size
  · have q1 : decide ((2048 : Int) < (a0.size : Int)) = true := by simp; omega
    have q2 : (2048 : Int) < (a0.size : Int) := by omega
    go_wp2_with fail
    go_ret
    exact ⟨rfl, HT.out.bel⟩
  have q1 : decide ((2048 : Int) < (a0.size : Int)) = false := by simp; omega
  have q2 : ¬ (2048 : Int) < (a0.size : Int) := by omega
  have HQU := Lib.hid (fun (W : World) (h : Tabs W) => Quote_any a0 W (by omega) h)
  have HPL := Lib.hid (fun (W : World) => Plain_any a0 W (by omega))
  have HWO := Lib.hid (fun (W : World) (h : Tabs W) => Words_any a0 W (by omega) h)
  rw [HL.out] at HQU HPL HWO
  have HQL := Lib.hid (ba_list (quote L))
  have HQS := Lib.hid (ba_size (quote L))
  have HQE := Lib.hid (show isPl L = true → ba (quote L) = a0 from fun h => by rw [quote_yes h]; exact (ba_eq HL.out).symm)
  have HQN := Lib.hid (show isPl L = false → ba (quote L) ≠ a0 from fun h e => quote_ne h (by have := ba_list (quote L); rw [e, HL.out] at this; exact this.symm))
  obtain ⟨q, hq⟩ : ∃ q, ba (quote L) = q := ⟨_, rfl⟩
  rw [hq] at HQU HQL HQS HQE HQN
  clear hq
  cases hp : isPl L with
  | false =>
    as_aux_lemma =>
      have HP := Lib.hid hp
      have e1 := str_ne (HQN.out hp)
      have hqs : q.size = (quote L).length := HQS.out
      have hq2 : 2 ≤ q.size := by rw [hqs]; have := quote_len hp; omega
      have e2 : decide ((2 : Int) ≤ (q.size : Int)) = true := by simp; omega
      have e3 : (0 : Int) < (q.size : Int) := by omega
      have hz : 0 < q.size := by omega
      have hy : q.size - 1 < q.size := by omega
      obtain ⟨c, hc1, hc2⟩ := byte_at hz
      obtain ⟨d, hd1, hd2⟩ := byte_at hy
      rw [HQL.out, first_34 hp] at hc2
      rw [HQL.out, hqs, last_34 hp] at hd2
      obtain rfl : (34 : UInt8) = c := Option.some.inj hc2
      obtain rfl : (34 : UInt8) = d := Option.some.inj hd2
      have e4 : IntKind.i64.wrap ((q.size : Int) - 1) = ((q.size - 1 : Nat) : Int) := by rw [IntWalk.i64_in _ (by have := quote_le L; have := HSZ.out; omega)]; omega
      clear hp hc2 hd2 hqs
      go_wp2_with (first | (go_at_call 12; refine (HQU.out _ (tabs_bel HTB.out HT.out.bel)).mono ?_; rintro e w2 ⟨rfl, hB⟩; have HT := Lib.hid (HT.out.step hB); clear hB) | (go_at_call 13; refine (HPL.out _).mono ?_; rw [HP.out]; rintro e w3 ⟨rfl, hB⟩; have HT := Lib.hid (HT.out.step hB); clear hB))
      go_ret
      exact ⟨rfl, HT.out.bel⟩
  | true =>
    have HP := Lib.hid hp
    have HQE := Lib.hid (HQE.out hp)
    have e1 : (q.toList == a0.toList) = true := by rw [HQE.out]; exact str_same a0
    by_cases h4 : 400 < a0.size
    · as_aux_lemma =>
        have e2 : decide ((400 : Int) < (a0.size : Int)) = true := by simp; omega
        have HW := Lib.hid (show words L = .bad 5 by unfold words; rw [if_pos (by rw [HSZ.out]; exact h4)])
        clear hp h4
        rw [HW.out] at HWO
        go_wp2_with (first | (go_at_call 12; refine (HQU.out _ (tabs_bel HTB.out HT.out.bel)).mono ?_; rintro e w2 ⟨rfl, hB⟩; have HT := Lib.hid (HT.out.step hB); clear hB) | (go_at_call 13; refine (HPL.out _).mono ?_; rw [HP.out]; rintro e w3 ⟨rfl, hB⟩; have HT := Lib.hid (HT.out.step hB); clear hB) | (go_at_call 14; refine (HWO.out _ (tabs_bel HTB.out HT.out.bel)).mono ?_; rintro e w4 ⟨rfl, hB⟩; have HT := Lib.hid (HT.out.step hB); clear hB))
        go_ret
        exact ⟨rfl, HT.out.bel⟩
    · as_aux_lemma =>
        have e2 : decide ((400 : Int) < (a0.size : Int)) = false := by simp; omega
        have HW := Lib.hid (show words L = .ok [L] from words_plain hp (by rw [HSZ.out]; omega))
        have HBA := Lib.hid (show ba L = a0 from (ba_eq HL.out).symm)
        clear hp h4
        have HWO : Hid (∀ (W : World), Tabs W → Calls Tryd.prog 14 #[.string a0] W fun e w' => ∃ g c, e = .returned (.tuple #[.slice (some ⟨g, 0, none⟩) 1 c, .int .i64 0]) ∧ Sep W w' [tOwn tStr 1 (.slice (some ⟨g, 0, none⟩) 1 c) 1 (eStr.fl [a0])]) := Lib.hid (fun W h => (HWO.out W h).mono fun e w' h => by
          rw [HW.out] at h
          obtain ⟨P, c, he, hs⟩ := h
          obtain ⟨g, c', hv⟩ := hs.own.pos (show 0 < [L].length from Nat.zero_lt_one)
          injection hv with h1 h2 h3
          subst h1
          refine ⟨g, c, he, ?_⟩
          have : [L].map ba = [a0] := by rw [← HBA.out]; rfl
          rw [this] at hs
          exact hs)
        have e3 := str_same a0
        go_upto_region 9 with (first | (go_at_call 12; refine (HQU.out _ (tabs_bel HTB.out HT.out.bel)).mono ?_; rintro e w2 ⟨rfl, hB⟩; have HT := Lib.hid (HT.out.step hB); clear hB) | (go_at_call 13; refine (HPL.out _).mono ?_; rw [HP.out]; rintro e w3 ⟨rfl, hB⟩; have HT := Lib.hid (HT.out.step hB); clear hB) | (go_at_call 14; refine (HWO.out _ (tabs_bel HTB.out HT.out.bel)).mono ?_; rintro e w4 ⟨g, c, rfl, hs⟩; have HT := Lib.hid (HT.out.join hs); clear hs))
        have z0 : w4.cell? ⟨g, 0, none⟩ = some (.string a0) := HT.out.own.cell 0 _ rfl
        go_wp2_with fail
        go_ret
        exact ⟨rfl, HT.out.bel⟩
end Go.Proofs.YtjjdefkaohbmjaaDoor
