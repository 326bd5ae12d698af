/- Plain facts on messages' bytes. No condition. -/
import Derived.Test.YtodjmeodcmbdoaaMaiD
import Derived.Test.YtodjmeodcmbdoaaCodK
set_option linter.unusedVariables false
set_option linter.unusedSimpArgs false
namespace Go.Proofs.Ytodjmeodcmbdoaa
open Go.RowKit
theorem encM_bound {m : Msg} (h : mayM m = true) : (encB m.rc).length ≤ 200 := by
  obtain ⟨h1, h2⟩ := may_rec h
  rw [mayM_iff] at h
  rw [encB_hd, List.length_append, List.length_append]
  have e1 := fm_len numB 10 m.rc.nums (fun x hx => numB_len (h2 x hx))
  have e2 := fm_len txtB 41 m.rc.texts (fun x hx => by
    rw [txt_len]
    simp only [Msg.rc, List.mem_cons, List.not_mem_nil, or_false] at hx
    rcases hx with rfl | rfl <;> omega)
  have e3 : (hd2 m.rc).length = 2 := rfl
  have e4 : m.rc.nums.length = 10 := rfl
  have e5 : m.rc.texts.length = 2 := rfl
  rw [e4] at e1
  rw [e5] at e2
  omega
theorem mOut_no {m : Msg} (h : mayM m = false) : mOut m = { data := #[] } ∧ mEr m = 4 := by
  unfold mOut mEr; rw [h]; exact ⟨rfl, rfl⟩
theorem mOut_yes {m : Msg} (h : mayM m = true) : (mOut m).data.toList = encB m.rc ∧ mEr m = 0 := by
  unfold mOut mEr; rw [if_pos h, if_pos h]; exact ⟨rfl, rfl⟩
theorem mOut_size {m : Msg} (h : mayM m = true) : (mOut m).size ≤ 200 ∧ 0 < (mOut m).size := by
  have e : (mOut m).size = (encB m.rc).length := by rw [← (mOut_yes h).1]; simp
  rw [e]
  exact ⟨encM_bound h, List.length_pos_iff.2 (enc_ne _)⟩
theorem mOut_dec {m : Msg} (h : mayM m = true) : dMsg (mOut m) = m ∧ dEr (mOut m) = 0 :=
  d_some (mOut_yes h).1 (decM_enc h)
theorem mOut_of {s : ByteArray} {m : Msg} (h : decM s.data.toList = some m) : mayM m = true ∧ mOut m = s := by
  obtain ⟨h1, h2⟩ := encM_dec h
  refine ⟨h1, ?_⟩
  unfold mOut
  rw [if_pos h1, h2]
theorem mOut_cut {m : Msg} (h : mayM m = true) {i : Nat} (hi : i < (mOut m).size) : dMsg ((mOut m).extract 0 i) = zM ∧ dEr ((mOut m).extract 0 i) = 4 := by
  refine d_none rfl (decM_none ?_)
  have e : ((mOut m).extract 0 i).data.toList = (encB m.rc).take i := by
    rw [← (mOut_yes h).1]; simp
  rw [e]
  refine dec_cut (may_rec h).1 (may_rec h).2 ?_
  rw [← (mOut_yes h).1]; simpa using hi
theorem mOut_more {m : Msg} (h : mayM m = true) {s : ByteArray} (hs : s.size ≠ 0) : dMsg (mOut m ++ s) = zM ∧ dEr (mOut m ++ s) = 4 := by
  refine d_none rfl (decM_none ?_)
  have e : (mOut m ++ s).data.toList = encB m.rc ++ s.data.toList := by
    rw [← (mOut_yes h).1]; simp
  rw [e]
  refine dec_more (may_rec h).1 (may_rec h).2 (fun e => hs ?_)
  have := congrArg List.length e
  simpa using this
theorem str_empty {s : ByteArray} (h : s.size = 0) : s = { data := #[] } := by
  obtain ⟨d⟩ := s
  have : d = #[] := Array.eq_empty_of_size_eq_zero h
  rw [this]
end Go.Proofs.Ytodjmeodcmbdoaa
