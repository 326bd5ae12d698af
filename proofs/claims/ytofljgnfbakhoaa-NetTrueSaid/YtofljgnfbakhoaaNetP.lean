/- The plain side of NetTrue: how often a letter is among letters, and maps that tell it. No condition. -/
import Derived.Test.YtofljgnfbakhoaaNetL5
import Derived.Test.YtofljgnfbakhoaaMap
import Derived.Test.YtofljgnfbakhoaaFill
set_option linter.unusedVariables false
set_option linter.unusedSimpArgs false
namespace Go.Proofs.Ytofljgnfbakhoaa
open Go.RowKit Go.Maps
open Classical in
noncomputable def oneV (x : Letter) (v : Value) : Nat := if x.agg = v then 1 else 0
theorem oneV_same (x : Letter) : oneV x x.agg = 1 := by unfold oneV; rw [if_pos rfl]
theorem oneV_other {x : Letter} {v : Value} (h : v ≠ x.agg) : oneV x v = 0 := by unfold oneV; rw [if_neg (fun e => h e.symm)]
theorem oneV_le (x : Letter) (v : Value) : oneV x v ≤ 1 := by unfold oneV; split <;> omega
noncomputable def cntV : List Letter → Value → Nat
  | [], _ => 0
  | x :: l, v => oneV x v + cntV l v
theorem cntV_append (v : Value) : ∀ l m : List Letter, cntV (l ++ m) v = cntV l v + cntV m v
  | [], m => by simp [cntV]
  | x :: l, m => by
    show oneV x v + cntV (l ++ m) v = oneV x v + cntV l v + cntV m v
    rw [cntV_append v l m, Nat.add_assoc]
theorem cntV_le (v : Value) : ∀ l : List Letter, cntV l v ≤ l.length
  | [] => Nat.le_refl _
  | x :: l => by
    have := cntV_le v l
    have := oneV_le x v
    simp only [cntV, List.length_cons]
    omega
theorem cntV_one (x : Letter) (v : Value) : cntV [x] v = oneV x v := by simp [cntV]
theorem cntV_takeL {l : List Letter} {k : Nat} {x : Letter} (hx : l[k]? = some x) (v : Value) : cntV l v = oneV x v + cntV (takeL l k) v := by
  obtain ⟨hk, rfl⟩ := List.getElem?_eq_some_iff.1 hx
  have e : l = l.take k ++ ([l[k]] ++ l.drop (k + 1)) := by
    rw [← List.append_assoc, List.take_append_getElem hk, List.take_append_drop]
  have e2 : cntV l v = cntV (l.take k ++ ([l[k]] ++ l.drop (k + 1))) v := congrArg (fun l => cntV l v) e
  rw [e2, cntV_append, cntV_append, cntV_one]
  unfold takeL
  rw [cntV_append]
  omega
abbrev iV (n : Int) : Value := .int .i64 n
/-- f tells how often each letter is in l. -/
def LI (l : List Letter) (f : Value → Option Value) : Prop := ∀ v, (f v).getD (iV 0) = iV (cntV l v) ∧ (f v ≠ none → ∃ x : Letter, v = x.agg)
theorem LI.nil : LI [] (fun _ => none) := fun v => ⟨rfl, fun h => absurd rfl h⟩
theorem LI.add {l : List Letter} {f : Value → Option Value} (h : LI l f) (x : Letter) {c : Nat} (hc : cntV l x.agg = c) : LI (l ++ [x]) (putV f x.agg (iV ((c : Int) + 1))) := by
  intro v
  by_cases e : v = x.agg
  · subst e
    rw [putV_same, cntV_append, cntV_one, oneV_same, hc]
    exact ⟨by simp, fun _ => ⟨x, rfl⟩⟩
  · rw [putV_other _ _ e, cntV_append, cntV_one, oneV_other e]
    exact h v
theorem LI.sub {l : List Letter} {f : Value → Option Value} (h : LI l f) {k : Nat} {x : Letter} (hx : l[k]? = some x) {c : Nat} (hc : cntV l x.agg = c) : LI (takeL l k) (putV f x.agg (iV ((c : Int) - 1))) := by
  intro v
  have := cntV_takeL hx v
  by_cases e : v = x.agg
  · subst e
    rw [putV_same]
    rw [oneV_same, hc] at this
    refine ⟨?_, fun _ => ⟨x, rfl⟩⟩
    show iV _ = iV _
    rw [this]
    congr 1
    omega
  · rw [putV_other _ _ e]
    rw [oneV_other e, Nat.zero_add] at this
    rw [← this]
    exact h v
noncomputable def gV (l : List Letter) : Value → Option Value := fun v => if cntV l v = 0 then none else some (iV (cntV l v))
theorem gV_get (l : List Letter) (v : Value) : (gV l v).getD (iV 0) = iV (cntV l v) := by
  unfold gV
  split
  · rename_i h; rw [h]; rfl
  · rfl
theorem gV_nil : gV [] = fun _ => none := by funext v; simp [gV, cntV]
theorem gV_add (l : List Letter) (x : Letter) {c : Nat} (hc : cntV l x.agg = c) : gV (l ++ [x]) = putV (gV l) x.agg (iV ((c : Int) + 1)) := by
  funext v
  by_cases e : v = x.agg
  · subst e
    rw [putV_same]
    unfold gV
    rw [cntV_append, cntV_one, oneV_same, hc, if_neg (by omega)]
    simp
  · rw [putV_other _ _ e]
    unfold gV
    rw [cntV_append, cntV_one, oneV_other e, Nat.add_zero]
/-- What is left in the second map, when some keys of the first have come. -/
noncomputable def nowV (l : List Letter) (f : Value → Option Value) (todo : Value → Bool) : Value → Option Value := fun v => if (f v).isSome = true ∧ todo v = false then none else gV l v
theorem nowV_start (l : List Letter) (f : Value → Option Value) : nowV l f (fun v => (f v).isSome) = gV l := by
  funext v
  unfold nowV
  rw [if_neg]
  rintro ⟨h1, h2⟩
  have h2 : (f v).isSome = false := h2
  rw [h1] at h2; cases h2
theorem nowV_at {l : List Letter} {f : Value → Option Value} {todo : Value → Bool} {key : Value} (h : todo key = true) : nowV l f todo key = gV l key := by
  unfold nowV
  rw [if_neg]
  rintro ⟨_, h2⟩
  rw [h] at h2; cases h2
theorem nowV_del {l : List Letter} {f : Value → Option Value} {todo : Value → Bool} {key v : Value} (hf : f key = some v) : delV (nowV l f todo) key = nowV l f (strikeV todo key) := by
  funext k
  by_cases e : k = key
  · subst e
    rw [delV_same]
    unfold nowV
    rw [strikeV_same, hf, if_pos ⟨rfl, rfl⟩]
  · rw [delV_other _ e]
    unfold nowV
    rw [strikeV_other _ e]
theorem nowV_end {l : List Letter} {f : Value → Option Value} {todo : Value → Bool} (h : LI l f) {key : Value} (ht : todo key = false) : nowV l f todo key = none := by
  unfold nowV
  cases hf : f key with
  | some v => rw [if_pos ⟨rfl, ht⟩]
  | none =>
    have := (h key).1
    rw [hf] at this
    have h0 : cntV l key = 0 := by
      simp only [Option.getD_none, Value.int.injEq, true_and] at this
      omega
    unfold gV
    rw [h0]
    simp
theorem rowL : tL < Try.prog.types.size := by decide +kernel
theorem lawL : Keyed Try.prog tL := Keyed.of_law (deep_law_laid (m := 2) (of_decide_eq_true (by kernel_rfl)) (by omega) (of_decide_eq_true (by kernel_rfl)) (by kernel_rfl) (by kernel_rfl))
theorem keyL {x : Letter} (h1 : -9223372036854775808 ≤ x.frm ∧ x.frm ≤ 9223372036854775807) (h2 : -9223372036854775808 ≤ x.to ∧ x.to ≤ 9223372036854775807) (h3 : x.body.size ≤ maxLen) : KeyV tL x.agg := by
  have w1 : (Lit.int .i64 x.frm).wf = true := by simp [Lit.wf, IntKind.min, IntKind.max, IntKind.signed, IntKind.bits]; omega
  have w2 : (Lit.int .i64 x.to).wf = true := by simp [Lit.wf, IntKind.min, IntKind.max, IntKind.signed, IntKind.bits]; omega
  have hk : Try.prog.keyType tL = true := by kernel_rfl
  have hs : ∃ m, Try.prog.types.size = m + 1 := ⟨_, rfl⟩
  obtain ⟨m, hm⟩ := hs
  have c0 : Try.prog.cellsOf tL = 3 := by kernel_rfl
  have c1 : Try.prog.cellsOf 3 = 1 := by kernel_rfl
  have c2 : Try.prog.cellsOf 9 = 1 := by kernel_rfl
  unfold KeyV keyOf
  rw [hm]
  simp only [Try.underlying31]
  simp [hk, Value.formed, Try.underlying31, c0, c1, c2, Program.keyLits, Value.cells, Try.underlying3, Try.underlying9, w1, w2, h3]
theorem zeroI (w : World) : (zeroValue 3).run Try.prog w = .ok (.int .i64 0) w := by kernel_rfl
theorem Good.key {l : List Letter} (h : Good l) {x : Letter} (hx : x ∈ l) : KeyV tL x.agg := by
  obtain ⟨⟨p1, p2, _⟩, h2, _⟩ := sendE_inv (h.2 x hx)
  unfold placeB at p1 p2
  simp only [decide_eq_true_eq] at p1 p2
  refine keyL ?_ ?_ ?_
  · omega
  · omega
  · unfold maxLen; omega
theorem tkL_no {L : List Letter} {i : Int} (h : tkB L = false) : tkL L i = L := by
  unfold tkB at h
  have : L = [] := by simpa using h
  rw [this]; exact tkL_nil i
theorem Rd.let3' {w : World} {b o : Nat} {l : List Letter} (h : Rd w (some ⟨b, o, none⟩) (eLet.fl l)) {k : Nat} {x : Letter} (hx : l[k]? = some x) :
    w.cell? ⟨b, o + k * 3, none⟩ = some (.int .i64 x.frm) ∧ w.cell? ⟨b, o + k * 3 + 1, none⟩ = some (.int .i64 x.to) ∧ w.cell? ⟨b, o + k * 3 + 2, none⟩ = some (.string x.body) := by
  obtain ⟨b', o', e, h1⟩ := h.let3 k x hx
  simp only [Option.some.injEq, Addr.mk.injEq, and_true] at e
  obtain ⟨rfl, rfl⟩ := e
  exact h1
theorem cpL_no {L : List Letter} {i : Int} (h : cpB L i = false) : cpL L i = L := by
  unfold cpB at h
  unfold cpL
  cases hx : L[atK i L.length]? with
  | none => rfl
  | some x =>
    rw [hx] at h
    exact sendL_no (by simpa using h)
theorem cpL_yes {L : List Letter} {i : Int} (h : cpB L i = true) : ∃ x, L[atK i L.length]? = some x ∧ cpL L i = L ++ [x] := by
  unfold cpB at h
  unfold cpL
  cases hx : L[atK i L.length]? with
  | none => rw [hx] at h; cases h
  | some x =>
    rw [hx] at h
    exact ⟨x, rfl, sendL_ok (by simpa using h)⟩
theorem take_snoc {L : List Letter} {j : Nat} {x : Letter} (h : L[j]? = some x) : L.take (j + 1) = L.take j ++ [x] := by
  rw [List.take_add_one, h]; rfl
theorem infoL3x : (Try.prog.info? tL).map (·.size) = some 3 := by kernel_rfl
end Go.Proofs.Ytofljgnfbakhoaa
