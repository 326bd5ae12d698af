/- The rows of ops that a map of blocks leads to, as a thing. No condition. -/
import Derived.Test.YtkajkomljgdghaaLinF
set_option linter.unusedVariables false
set_option linter.unusedSimpArgs false
namespace Go.Proofs.Ytkajkomljgdghaa
open Go.RowKit Go.Maps
abbrev tIn : TypeId := 3
abbrev iV (n : Int) : Value := .int .i64 n
theorem lawI : Keyed Try.prog tIn := int_keyed Try.underlying3
theorem keyI {k : Int} (h : -9223372036854775808 ≤ k ∧ k ≤ 9223372036854775807) : KeyV tIn (iV k) :=
  ⟨_, keyOf_int_mk Try.underlying3 (by simp [Lit.wf, IntKind.min, IntKind.max, IntKind.signed, IntKind.bits]; omega)⟩
theorem zeroSl (w : World) : (zeroValue 22).run Try.prog w = .ok (.slice none 0 0) w := by kernel_rfl
structure RowsOk (W : World) (R : Int → Option Value) (G : Int → List LOp) : Prop where
  own : ∀ b v, R b = some v → Own W tOp 8 v (G b).length (eOp.fl (G b))
  ap : ∀ b b' v v' k, b ≠ b' → R b = some v → R b' = some v' → v.ownBlock = some k → v'.ownBlock ≠ some k
def tRows (R : Int → Option Value) (G : Int → List LOp) : Th where
  ok W := RowsOk W R G
  fp k := ∃ b v, R b = some v ∧ v.ownBlock = some k
  lt W h k e := by
    obtain ⟨b, v, h1, h2⟩ := e
    exact (h.own b v h1).lt h2
  keep W W' h hl hk := ⟨fun b v hv => (h.own b v hv).keep fun k hk1 hk2 => hk k hk1 ⟨b, v, hv, hk2⟩, h.ap⟩
def updR (R : Int → Option Value) (b : Int) (v : Value) : Int → Option Value := fun c => if c = b then some v else R c
def updG (G : Int → List LOp) (b : Int) (ys : List LOp) : Int → List LOp := fun c => if c = b then ys else G c
theorem updR_same (R : Int → Option Value) (b : Int) (v : Value) : updR R b v b = some v := if_pos rfl
theorem updR_other (R : Int → Option Value) {b c : Int} (v : Value) (h : c ≠ b) : updR R b v c = R c := if_neg h
theorem updG_same (G : Int → List LOp) (b : Int) (ys : List LOp) : updG G b ys b = ys := if_pos rfl
theorem updG_other (G : Int → List LOp) {b c : Int} (ys : List LOp) (h : c ≠ b) : updG G b ys c = G c := if_neg h
theorem Sep.newRows {w W : World} {l : List Th} (h : Sep w W l) : Sep w W (tRows (fun _ => none) (fun _ => []) :: l) :=
  h.new (t := tRows (fun _ => none) (fun _ => [])) (Below.refl _ _) ⟨fun b v h => (by cases h), fun b b' v v' k _ h => (by cases h)⟩ (fun k hk => by obtain ⟨b, v, h1, _⟩ := hk; cases h1)
/-- What a row is at a block, none of which has come yet: nil. -/
def rowAt (R : Int → Option Value) (b : Int) : Value := (R b).getD (.slice none 0 0)
structure GrInv (f : Value → Option Value) (R : Int → Option Value) (G : Int → List LOp) : Prop where
  rn : ∀ b, R b = none ↔ G b = []
  fr : ∀ b, f (iV b) = R b
  fk : ∀ key, f key ≠ none → ∃ b, (-9223372036854775808 ≤ b ∧ b ≤ 9223372036854775807) ∧ key = iV b
theorem GrInv.start : GrInv (fun _ => none) (fun _ => none) (fun _ => []) := ⟨fun b => ⟨fun _ => rfl, fun _ => rfl⟩, fun b => rfl, fun key h => absurd rfl h⟩
theorem GrInv.put {f : Value → Option Value} {R : Int → Option Value} {G : Int → List LOp} (h : GrInv f R G) {b : Int} (hb : -9223372036854775808 ≤ b ∧ b ≤ 9223372036854775807) (v : Value) {ys : List LOp} (hy : ys ≠ []) : GrInv (putV f (iV b) v) (updR R b v) (updG G b ys) := by
  refine ⟨fun c => ?_, fun c => ?_, fun key hk => ?_⟩
  · by_cases e : c = b
    · subst e
      rw [updR_same, updG_same]
      exact ⟨fun h => (by cases h), fun h => absurd h hy⟩
    · rw [updR_other _ _ e, updG_other _ _ e]; exact h.rn c
  · by_cases e : c = b
    · subst e
      rw [updR_same, putV_same]
    · rw [updR_other _ _ e, putV_other _ _ (fun h' => e (by injection h'))]; exact h.fr c
  · by_cases e : key = iV b
    · exact ⟨b, hb, e⟩
    · rw [putV_other _ _ e] at hk; exact h.fk key hk
theorem RowsOk.at {W : World} {R : Int → Option Value} {G : Int → List LOp} (h : RowsOk W R G) {f : Value → Option Value} (g : GrInv f R G) (b : Int) : Own W tOp 8 (rowAt R b) (G b).length (eOp.fl (G b)) := by
  unfold rowAt
  cases hb : R b with
  | none =>
    rw [(g.rn b).1 hb]
    exact Own.nil _ _ _
  | some v => exact h.own b v hb
/-- A row is appended to. -/
theorem Sep.rowsApp {w W W1 : World} {l : List Th} {R : Int → Option Value} {G : Int → List LOp} (h : Sep w W (tRows R G :: l)) (b : Int) {v1 : Value} {ys : List LOp} {n : Nat} (hn : n = ys.length) (ho : Own W1 tOp 8 v1 n (eOp.fl ys)) (hg : W.grownBy W1 (rowAt R b).ownBlock)
    (hat : v1.ownBlock = (rowAt R b).ownBlock ∨ v1.ownBlock = some W.heap.size) : Sep w W1 (tRows (updR R b v1) (updG G b ys) :: l) := by
  subst hn
  have hR : RowsOk W R G := h.hd
  have hb : ∀ k, (rowAt R b).ownBlock = some k → ∃ v, R b = some v ∧ v.ownBlock = some k := fun k hk => by
    unfold rowAt at hk
    cases hb : R b with
    | none => rw [hb] at hk; cases hk
    | some v => rw [hb] at hk; exact ⟨v, rfl, hk⟩
  refine h.opc (t' := tRows (updR R b v1) (updG G b ys)) (S := fun k => some k = (rowAt R b).ownBlock) ⟨fun c v hv => ?_, fun c c' v v' k hne hv hv' hk hk' => ?_⟩ (Upd.of_grown hg) (fun k _ hk => ?_) (fun k hk => ?_)
  · by_cases e : c = b
    · subst e
      rw [updR_same] at hv
      rw [updG_same, ← Option.some.inj hv]
      exact ho
    · rw [updR_other _ _ e] at hv
      rw [updG_other _ _ e]
      refine (hR.own c v hv).upd (Upd.of_grown hg) (fun g hg1 hg2 => ?_)
      obtain ⟨u, hu, hu2⟩ := hb g hg2.symm
      exact hR.ap c b v u g e hv hu hg1 hu2
  · have hnew : ∀ (d : Int) (u : Value), R d = some u → u.ownBlock = some k → v1.ownBlock = some k → d ≠ b → False := fun d u hu huk h1k hd => by
      rcases hat with e | e
      · obtain ⟨u', hu', hk2⟩ := hb k (by rw [← e]; exact h1k)
        exact hR.ap d b u u' k hd hu hu' huk hk2
      · have := (hR.own d u hu).lt huk
        rw [e] at h1k
        cases h1k
        omega
    by_cases e : c = b
    · subst e
      rw [updR_same] at hv
      rw [updR_other _ _ (fun h => hne h.symm)] at hv'
      rw [← Option.some.inj hv] at hk
      exact hnew c' v' hv' hk' hk (fun h => hne h.symm)
    · rw [updR_other _ _ e] at hv
      by_cases e' : c' = b
      · subst e'
        rw [updR_same] at hv'
        rw [← Option.some.inj hv'] at hk'
        exact hnew c v hv hk hk' e
      · rw [updR_other _ _ e'] at hv'
        exact hR.ap c c' v v' k hne hv hv' hk hk'
  · obtain ⟨v, h1, h2⟩ := hb k hk.symm
    exact ⟨b, v, h1, h2⟩
  · obtain ⟨c, v, hv, hk⟩ := hk
    by_cases e : c = b
    · subst e
      rw [updR_same] at hv
      rw [← Option.some.inj hv] at hk
      rcases hat with e | e
      · obtain ⟨u', hu', hk2⟩ := hb k (by rw [← e]; exact hk)
        exact .inl ⟨c, u', hu', hk2⟩
      · rw [e] at hk
        cases hk
        exact .inr (Nat.le_refl _)
    · rw [updR_other _ _ e] at hv
      exact .inl ⟨c, v, hv, hk⟩
theorem updG_cnt {L : List LOp} {k : Nat} {x : LOp} (hx : L[k]? = some x) (hn : x.never = false) : updG (cnt (L.take k)) x.blk (cnt (L.take k) x.blk ++ [x]) = cnt (L.take (k + 1)) := by
  funext c
  have e : L.take (k + 1) = L.take k ++ [x] := by rw [List.take_add_one, hx]; rfl
  unfold cnt
  rw [e, List.filter_append, List.filter_cons, List.filter_nil]
  by_cases h : c = x.blk
  · subst h
    rw [updG_same, if_pos (show x.at x.blk = true by unfold LOp.at; rw [hn]; simp)]
  · rw [updG_other _ _ h, if_neg (show ¬ x.at c = true by unfold LOp.at; simp; intro _ h2; exact h h2.symm), List.append_nil]
theorem cnt_skip {L : List LOp} {k : Nat} {x : LOp} (hx : L[k]? = some x) (hn : x.never = true) : cnt (L.take (k + 1)) = cnt (L.take k) := by
  funext c
  have e : L.take (k + 1) = L.take k ++ [x] := by rw [List.take_add_one, hx]; rfl
  unfold cnt
  rw [e, List.filter_append, List.filter_cons, List.filter_nil, if_neg (show ¬ x.at c = true by unfold LOp.at; rw [hn]; simp), List.append_nil]
theorem cnt_le (L : List LOp) (b : Int) : (cnt L b).length ≤ L.length := List.length_filter_le _ _
/-- What parts hands back. -/
def PartsRes (L : List LOp) (w : World) (l : List Th) (e : Ending) (W' : World) : Prop :=
  (errs L ≠ 0 ∧ e = .returned (.tuple #[.map none, .int .i64 (errs L)]) ∧ Sep w W' l) ∨
  (errs L = 0 ∧ ∃ bm q f R, e = .returned (.tuple #[.map (some bm), .int .i64 0]) ∧ GrInv f R (cnt L) ∧ q ≤ L.length ∧ Sep w W' (tMapV tIn bm q f :: tRows R (cnt L) :: l))
end Go.Proofs.Ytkajkomljgdghaa
