/- The plain side of package client: calls, results, what a client sends and takes. No condition. -/
import Derived.Test.YtodjmeodcmbdoaaMaiD
set_option linter.unusedVariables false
set_option linter.unusedSimpArgs false
namespace Go.Proofs.Ytodjmeodcmbdoaa
open Go.RowKit
structure Cal where
  op : Int
  blk : Int
  data : ByteArray
structure Res where
  e : Int
  data : ByteArray
structure Let where
  fr : Int
  rcv : Int
  body : ByteArray
structure Cst where
  place : Int
  node : Int
  calls : List Cal
  rs : List Res
abbrev noS : ByteArray := { data := #[] }
def cMsg (k : Nat) (x : Cal) : Msg := ⟨14, 0, x.op, (k : Int) + 1, x.blk, -1, 0, 0, 0, 0, 0, x.data, noS⟩
def onR (calls : List Cal) (rs : List Res) : List Res :=
  if h : rs.length < calls.length then
    if mayM (cMsg rs.length calls[rs.length]) = true then rs else onR calls (rs ++ [⟨4, noS⟩])
  else rs
termination_by calls.length - rs.length
decreasing_by simp; omega
def Cst.put (c : Cst) (rs : List Res) : Cst := { c with rs := rs }
def Cst.turn (c : Cst) : Cst := { c with node := 1 - c.node }
def Cst.fwd (c : Cst) : Cst := c.put (onR c.calls c.rs)
/-- A client that may be: of at most 1000 calls; no more results than calls. -/
structure Good (c : Cst) : Prop where
  node : c.node = 0 ∨ c.node = 1
  n : c.calls.length ≤ 1000
  m : c.rs.length ≤ c.calls.length
theorem onR_done {calls : List Cal} {rs : List Res} (h : ¬ rs.length < calls.length) : onR calls rs = rs := by rw [onR, dif_neg h]
theorem onR_may {calls : List Cal} {rs : List Res} (h : rs.length < calls.length) (hm : mayM (cMsg rs.length calls[rs.length]) = true) : onR calls rs = rs := by rw [onR, dif_pos h, if_pos hm]
theorem onR_no {calls : List Cal} {rs : List Res} (h : rs.length < calls.length) (hm : mayM (cMsg rs.length calls[rs.length]) = false) : onR calls rs = onR calls (rs ++ [⟨4, noS⟩]) := by rw [onR, dif_pos h, if_neg (by simp [hm])]
/-- What on does: it makes the results longer, till there is a call that may be sent, or none. -/
theorem onR_spec (calls : List Cal) : ∀ (n : Nat) (rs : List Res), calls.length - rs.length ≤ n → rs.length ≤ calls.length →
    (∃ t, onR calls rs = rs ++ t ∧ ∀ x ∈ t, x = ⟨4, noS⟩) ∧ (onR calls rs).length ≤ calls.length ∧ onR calls (onR calls rs) = onR calls rs ∧
    (∀ h : (onR calls rs).length < calls.length, mayM (cMsg (onR calls rs).length calls[(onR calls rs).length]) = true)
  | n, rs, hn, hle => by
    by_cases h : rs.length < calls.length
    · cases hm : mayM (cMsg rs.length calls[rs.length]) with
      | true =>
        have e := onR_may h hm
        rw [e]
        exact ⟨⟨[], by simp, by simp⟩, hle, e, fun _ => hm⟩
      | false =>
        rw [onR_no h hm]
        match n, hn with
        | 0, hn => omega
        | n + 1, hn =>
        obtain ⟨⟨t, h1, h1'⟩, h2, h3, h4⟩ := onR_spec calls n (rs ++ [⟨4, noS⟩]) (by simp; omega) (by simp; omega)
        refine ⟨⟨⟨4, noS⟩ :: t, by rw [h1]; simp, fun x hx => ?_⟩, h2, h3, h4⟩
        rcases List.mem_cons.1 hx with rfl | hx
        · rfl
        · exact h1' x hx
    · have e := onR_done h
      rw [e]
      exact ⟨⟨[], by simp, by simp⟩, hle, e, fun h' => absurd h' h⟩
theorem onR_le {calls : List Cal} {rs : List Res} (h : rs.length ≤ calls.length) : (onR calls rs).length ≤ calls.length := (onR_spec calls _ rs (Nat.le_refl _) h).2.1
theorem onR_idem {calls : List Cal} {rs : List Res} (h : rs.length ≤ calls.length) : onR calls (onR calls rs) = onR calls rs := (onR_spec calls _ rs (Nat.le_refl _) h).2.2.1
theorem onR_pre {calls : List Cal} {rs : List Res} (h : rs.length ≤ calls.length) : ∃ t, onR calls rs = rs ++ t ∧ ∀ x ∈ t, x = ⟨4, noS⟩ := (onR_spec calls _ rs (Nat.le_refl _) h).1
theorem onR_sent {calls : List Cal} {rs : List Res} (h : rs.length ≤ calls.length) (h' : (onR calls rs).length < calls.length) : mayM (cMsg (onR calls rs).length calls[(onR calls rs).length]) = true := (onR_spec calls _ rs (Nat.le_refl _) h).2.2.2 h'
/-- The call that is made, from somewhere on (of no call: one of nothing). -/
def Cst.now (c : Cst) : Cal := (c.calls[c.rs.length]?).getD ⟨0, 0, noS⟩
def Cst.msg (c : Cst) : Msg := cMsg c.rs.length c.now
theorem Cst.now_get {c : Cst} (h : c.rs.length < c.calls.length) : c.now = c.calls[c.rs.length] := by
  unfold Cst.now; rw [List.getElem?_eq_getElem h]; rfl
/-- What poke tells. -/
def Cst.pokeB (c : Cst) : Bool := decide (c.rs.length < c.calls.length)
def Cst.poke (c : Cst) : Let := if c.rs.length < c.calls.length then ⟨c.place, c.node, mOut c.msg⟩ else ⟨0, 0, noS⟩
/-- A letter that is an answer to the present call. -/
def Cst.hits (c : Cst) (l : Let) : Prop := dEr l.body = 0 ∧ l.rcv = c.place ∧ (l.fr = 0 ∨ l.fr = 1) ∧ (dMsg l.body).kind = 15 ∧ c.rs.length < c.calls.length ∧ (dMsg l.body).c = (c.rs.length : Int) + 1
instance (c : Cst) (l : Let) : Decidable (c.hits l) := by unfold Cst.hits; exact inferInstance
def Cst.takeB (c : Cst) (l : Let) : Bool := decide (c.hits l) && !(decide ((dMsg l.body).er = 20) || decide ((dMsg l.body).er = 21) || decide ((dMsg l.body).er = 25))
def Cst.take (c : Cst) (l : Let) : Cst :=
  if c.hits l then
    if (dMsg l.body).er = 20 then (if l.fr = c.node then c.turn else c)
    else if (dMsg l.body).er = 21 ∨ (dMsg l.body).er = 25 then c
    else (c.put (c.rs ++ [⟨(dMsg l.body).er, (dMsg l.body).s⟩])).fwd
  else c
/-- A new client. -/
def newOk (place : Int) (calls : List Cal) : Bool := decide (4 ≤ place) && (decide (place ≤ 7) && decide (calls.length ≤ 1000))
def newC (place : Int) (calls : List Cal) : Cst := (Cst.mk place 0 calls []).fwd
theorem Good.fwd {c : Cst} (h : Good c) : Good c.fwd := ⟨h.node, h.n, onR_le h.m⟩
theorem Good.turn {c : Cst} (h : Good c) : Good c.turn := ⟨by
  have := h.node
  unfold Cst.turn
  simp only
  omega, h.n, h.m⟩
theorem Good.take {c : Cst} (h : Good c) (l : Let) : Good (c.take l) := by
  unfold Cst.take
  split
  · rename_i hh
    split
    · split
      · exact h.turn
      · exact h
    · split
      · exact h
      · refine Good.fwd ⟨h.node, h.n, ?_⟩
        have := hh.2.2.2.2.1
        simp only [Cst.put, List.length_append, List.length_cons, List.length_nil]
        omega
  · exact h
theorem Good.new {place : Int} {calls : List Cal} (h : newOk place calls = true) : Good (newC place calls) := by
  unfold newOk at h
  simp only [Bool.and_eq_true, decide_eq_true_eq] at h
  exact Good.fwd ⟨.inl rfl, h.2.2, Nat.zero_le _⟩
end Go.Proofs.Ytodjmeodcmbdoaa
