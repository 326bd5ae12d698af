/- The plain side of package mail: messages, the records that they are, and what bytes are read as. No condition. -/
import Derived.Test.YtodjmeodcmbdoaaCodM
set_option linter.unusedVariables false
set_option linter.unusedSimpArgs false
namespace Go.Proofs.Ytodjmeodcmbdoaa
open Go.RowKit
structure Msg where
  kind : Int
  a : Int
  b : Int
  c : Int
  d : Int
  e : Int
  er : Int
  p0 : Int
  p1 : Int
  p2 : Int
  p3 : Int
  s : ByteArray
  t : ByteArray
def wi (n lo hi : Int) : Bool := decide (lo ≤ n ∧ n ≤ hi)
theorem wi_iff {n lo hi : Int} : wi n lo hi = true ↔ lo ≤ n ∧ n ≤ hi := by simp [wi]
abbrev big62 : Int := 4611686018427387904
def mayM (m : Msg) : Bool := wi m.p0 0 big62 && wi m.p1 0 big62 && wi m.p2 0 big62 && wi m.p3 0 big62 && (decide (m.s.size ≤ 40) && decide (m.t.size ≤ 10)) &&
  (wi m.kind 1 15 && wi m.a 0 big62 && wi m.b 0 big62 && wi m.c (-big62) big62 && wi m.d (-1) 31 && wi m.e (-1) 3 && wi m.er 0 31)
theorem mayM_iff (m : Msg) : mayM m = true ↔ (0 ≤ m.p0 ∧ m.p0 ≤ big62) ∧ (0 ≤ m.p1 ∧ m.p1 ≤ big62) ∧ (0 ≤ m.p2 ∧ m.p2 ≤ big62) ∧ (0 ≤ m.p3 ∧ m.p3 ≤ big62) ∧ m.s.size ≤ 40 ∧ m.t.size ≤ 10 ∧
    (1 ≤ m.kind ∧ m.kind ≤ 15) ∧ (0 ≤ m.a ∧ m.a ≤ big62) ∧ (0 ≤ m.b ∧ m.b ≤ big62) ∧ (-big62 ≤ m.c ∧ m.c ≤ big62) ∧ (-1 ≤ m.d ∧ m.d ≤ 31) ∧ (-1 ≤ m.e ∧ m.e ≤ 3) ∧ (0 ≤ m.er ∧ m.er ≤ 31) := by
  unfold mayM
  simp only [Bool.and_eq_true, wi_iff, decide_eq_true_eq]
  constructor
  · rintro ⟨⟨⟨⟨⟨h1, h2⟩, h3⟩, h4⟩, h5, h6⟩, ⟨⟨⟨⟨⟨h7, h8⟩, h9⟩, h10⟩, h11⟩, h12⟩, h13⟩
    exact ⟨h1, h2, h3, h4, h5, h6, h7, h8, h9, h10, h11, h12, h13⟩
  · rintro ⟨h1, h2, h3, h4, h5, h6, h7, h8, h9, h10, h11, h12, h13⟩
    exact ⟨⟨⟨⟨⟨h1, h2⟩, h3⟩, h4⟩, h5, h6⟩, ⟨⟨⟨⟨⟨h7, h8⟩, h9⟩, h10⟩, h11⟩, h12⟩, h13⟩
def Msg.rc (m : Msg) : Rec := ⟨m.kind, [m.a, m.b, m.c, m.d, m.e, m.er, m.p0, m.p1, m.p2, m.p3], [m.s, m.t]⟩
def ofRec : Rec → Option Msg
  | ⟨k, [a, b, c, d, e, er, p0, p1, p2, p3], [s, t]⟩ => some ⟨k, a, b, c, d, e, er, p0, p1, p2, p3, s, t⟩
  | _ => none
theorem ofRec_rec (m : Msg) : ofRec m.rc = some m := rfl
theorem ofRec_some {r : Rec} {m : Msg} (h : ofRec r = some m) : r = m.rc := by
  unfold ofRec at h
  split at h
  · cases h; rfl
  · cases h
def decM (l : List UInt8) : Option Msg := match decB l with
  | none => none
  | some r => match ofRec r with
    | none => none
    | some m => if mayM m = true then some m else none
theorem may_rec {m : Msg} (h : mayM m = true) : mayB m.rc = true ∧ ∀ n ∈ m.rc.nums, i64 n := by
  rw [mayM_iff] at h
  obtain ⟨h1, h2, h3, h4, h5, h6, h7, h8, h9, h10, h11, h12, h13⟩ := h
  constructor
  · rw [mayB_iff]
    refine ⟨⟨?_, ?_, ?_, ?_⟩, ?_⟩ <;> simp only [Msg.rc]
    · omega
    · omega
    · simp
    · simp
    · intro s hs
      simp only [List.mem_cons, List.not_mem_nil, or_false] at hs
      rcases hs with rfl | rfl <;> omega
  · intro n hn
    simp only [Msg.rc, List.mem_cons, List.not_mem_nil, or_false] at hn
    unfold i64
    unfold big62 at *
    rcases hn with rfl | rfl | rfl | rfl | rfl | rfl | rfl | rfl | rfl | rfl <;> omega
theorem decM_enc {m : Msg} (h : mayM m = true) : decM (encB m.rc) = some m := by
  obtain ⟨h1, h2⟩ := may_rec h
  unfold decM
  rw [dec_enc h1 h2]
  simp only [ofRec_rec, if_pos h]
theorem encM_dec {l : List UInt8} {m : Msg} (h : decM l = some m) : mayM m = true ∧ encB m.rc = l := by
  unfold decM at h
  split at h
  · cases h
  · rename_i r hr
    split at h
    · cases h
    · rename_i q hq
      split at h
      · rename_i hm
        cases h
        refine ⟨hm, ?_⟩
        rw [← ofRec_some hq]
        exact (enc_dec hr).2.1
      · cases h
def sameM (m k : Msg) : Bool := decide (m.kind = k.kind) && (decide (m.a = k.a) && (decide (m.b = k.b) && (decide (m.c = k.c) && (decide (m.d = k.d) && (decide (m.e = k.e) && (decide (m.er = k.er) && ((decide (m.p0 = k.p0) && (decide (m.p1 = k.p1) && (decide (m.p2 = k.p2) && decide (m.p3 = k.p3)))) && (decide (m.s = k.s) && decide (m.t = k.t)))))))))
theorem sameM_iff {m k : Msg} : sameM m k = true ↔ m = k := by
  obtain ⟨_, _, _, _, _, _, _, _, _, _, _, _, _⟩ := m
  obtain ⟨_, _, _, _, _, _, _, _, _, _, _, _, _⟩ := k
  unfold sameM
  simp only [Bool.and_eq_true, decide_eq_true_eq, Msg.mk.injEq, and_assoc]
end Go.Proofs.Ytodjmeodcmbdoaa
