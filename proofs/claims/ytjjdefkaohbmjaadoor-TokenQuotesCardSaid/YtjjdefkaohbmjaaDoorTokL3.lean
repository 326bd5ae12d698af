/- The walk of the law TokenQuotes: it returns true. Condition: utf8's tables lie where they should. -/
import Derived.Test.YtjjdefkaohbmjaaDoorTokA
import Derived.Test.YtjjdefkaohbmjaaDoorTokH
set_option linter.unusedVariables false
set_option linter.unusedSimpArgs false
namespace Go.Proofs.YtjjdefkaohbmjaaDoor
open Go.RowKit Go.Lib
theorem sh_drop {l : Bs} (hl : l ≠ []) (h : sh l = true) : oddR (ru l) = false ∧ sh (l.drop (wd l)) = true := by
  rw [sh_step hl] at h
  simpa using h
set_option maxHeartbeats 8000000 in
set_option maxRecDepth 1000000 in
theorem w_TokenQuotes (a0 : ByteArray) (w : World) (b0 : a0.size ≤ 140737488351232) (hT : Tabs w) :
    Calls Tryd.prog 3 #[.string a0] w fun e w' => e = .returned (.bool true) ∧ Below w.heap.size w w' := by
  obtain ⟨L, hL⟩ : ∃ L, a0.data.toList = L := ⟨_, rfl⟩
  have HSZ := Lib.hid (show L.length = a0.size by rw [← hL, size_eq])
  have HL := Lib.hid hL
  have HTB := Lib.hid hT
  clear hL hT
  go_enter Tryd.func3, Tryd.ntmps3
  go_wp2_with fail
  refine (awake_any _ HTB.out).mono ?_
  rintro e w1 ⟨rfl, hB1⟩
  have HT := Lib.hid ((Sep.nil w).step hB1)
  clear hB1
  by_cases h2k : 2048 < a0.size
  · have q1 : decide ((2048 : Int) < (a0.size : Int)) = true := by simp; omega
    have q2 : (2048 : Int) < (a0.size : Int) := by omega
    go_wp2_with fail
    go_ret
    exact ⟨rfl, HT.out.bel⟩
  have q1 : decide ((2048 : Int) < (a0.size : Int)) = false := by simp; omega
  have q2 : ¬ (2048 : Int) < (a0.size : Int) := by omega
  have HQU := Lib.hid (fun (W : World) (h : Tabs W) => Quote_any a0 W (by omega) h)
  have HPL := Lib.hid (fun (W : World) => Plain_any a0 W (by omega))
  rw [HL.out] at HQU HPL
  have HQL := Lib.hid (ba_list (quote L))
  have hqs := ba_size (quote L)
  have hqx := quote_le L
  have HQG := Lib.hid (fun h => quote_len (l := L) h)
  rw [← hqs] at HQG
  rw [HSZ.out] at hqx HQG
  have HSH := Lib.hid (sh_quote L)
  have HNE := Lib.hid (quote_nil_ne L)
  obtain ⟨Q, hQ⟩ : ∃ Q, quote L = Q := ⟨_, rfl⟩
  rw [hQ] at HQU HQL hqs hqx HQG HSH HNE
  clear hQ
  obtain ⟨q, hq⟩ : ∃ q, ba Q = q := ⟨_, rfl⟩
  rw [hq] at HQU HQL hqs HQG
  clear hq
  have HQS := Lib.hid (hqs.symm)
  have hqx2 : q.size ≤ 10000 := by omega
  clear hqs hqx
  have e1 : q.toList.isEmpty = false := is_empty (by rw [HQL.out]; exact HNE.out)
  go_upto_region 9 with (go_at_call 12; with_reducible refine (HQU.out _ (tabs_bel HTB.out HT.out.bel)).mono ?_; rintro e w2 ⟨rfl, hB⟩; have HT := Lib.hid (HT.out.step hB); clear hB)
  have hsz2 := HT.out.bel.size
  go_loopg [] q.size (fun gk wr => ∃ (pos : Nat), gk + pos = q.size ∧ wr.heap[w2.heap.size]? = some (.stringIter q pos) ∧ Below w.heap.size w wr ∧ sh (Q.drop pos) = true)
  case atStart => exact ⟨0, by omega, World.iter_heap w2 q 0, HT.out.bel.alloc hsz2 _, HSH.out⟩
  case round =>
  obtain ⟨pos, hgk, hit, hbw, hsh⟩ := hrel
  have HBW := Lib.hid hbw
  have HSH2 := Lib.hid hsh
  clear hbw hsh HT
  generalize w2.heap.size = k at *
  by_cases hp : pos < q.size
  · as_aux_lemma =>
      have hnx : ∀ ty, (Instr.next (.pointer (some ⟨k, 0, none⟩)) true ty).run Tryd.prog wr = _ := fun ty => Lib.run_next_any_at wr k q pos ty hit hp
      have hrd := ru_drop q pos
      rw [HQL.out] at hrd
      rw [hrd.1, hrd.2] at hnx
      have hne : Q.drop pos ≠ [] := drop_ne (by rw [HQS.out]; exact hp)
      have hwl := wd_le hne
      rw [List.length_drop, HQS.out] at hwl
      have hwp := wd_pos (Q.drop pos)
      have hsd := sh_drop hne HSH2.out
      obtain ⟨ho, hsd2⟩ := hsd
      rw [List.drop_drop] at hsd2
      have HIT := Lib.hid (Lib.iterAt_heap wr k q pos (pos + wd (Q.drop pos)) hit)
      have HBW2 := Lib.hid (Lib.below_iterAt HBW.out (k := k) hsz2 q (pos + wd (Q.drop pos)))
      clear hrd hne
      have ho2 := oddR_spec ho
      clear ho
      generalize ru (Q.drop pos) = r at *
      obtain ⟨d, hd⟩ : ∃ d, wd (Q.drop pos) = d := ⟨_, rfl⟩
      rw [hd] at hnx hsd2 HIT HBW2 hwl hwp
      have HSD := Lib.hid hsd2
      clear hd hsd2 hit
      have e2 : decide ((r : Int) < 32) = false := by simp; omega
      have e3 : ((r : Int) == 127) = false := by simp; omega
      have e4 : ((r : Int) == 65533) = false := by simp; omega
      have e5 : ¬ (r : Int) < 32 := by omega
      go_wp2_with fail
      go_roundg (q.size - (pos + d))
      case measure => omega
      case rel => exact ⟨pos + d, by omega, HIT.out, HBW2.out, HSD.out⟩
  · as_aux_lemma =>
      have hnx : ∀ ty, (Instr.next (.pointer (some ⟨k, 0, none⟩)) true ty).run Tryd.prog wr = _ := fun ty => Lib.run_next_end_at wr k q pos ty hit hp
      have HT := Lib.hid ((Sep.nil w).step HBW.out)
      have e6 := str_same q
      clear hit
      cases hpl : isPl L with
      | true =>
        have HP := Lib.hid hpl
        clear hpl
        go_wp2_with (first | (go_at_call 12; with_reducible refine (HQU.out _ (tabs_bel HTB.out HT.out.bel)).mono ?_; rintro e w4 ⟨rfl, hB⟩; have HT := Lib.hid (HT.out.step hB); clear hB) | (go_at_call 13; with_reducible refine (HPL.out _).mono ?_; rw [HP.out]; rintro e w5 ⟨rfl, hB⟩; have HT := Lib.hid (HT.out.step hB); clear hB))
        go_ret
        exact ⟨rfl, HT.out.bel⟩
      | false =>
        have HP := Lib.hid hpl
        have hqg := HQG.out hpl
        have e7 : decide (((a0.size : Int) + 2) ≤ (q.size : Int)) = true := by simp; omega
        have e8 : IntKind.i64.wrap ((a0.size : Int) + 2) = (a0.size : Int) + 2 := IntWalk.i64_in _ (by omega)
        clear hpl
        go_wp2_with (first | (go_at_call 12; with_reducible refine (HQU.out _ (tabs_bel HTB.out HT.out.bel)).mono ?_; rintro e w4 ⟨rfl, hB⟩; have HT := Lib.hid (HT.out.step hB); clear hB) | (go_at_call 13; with_reducible refine (HPL.out _).mono ?_; rw [HP.out]; rintro e w5 ⟨rfl, hB⟩; have HT := Lib.hid (HT.out.step hB); clear hB))
        go_ret
        exact ⟨rfl, HT.out.bel⟩
end Go.Proofs.YtjjdefkaohbmjaaDoor
