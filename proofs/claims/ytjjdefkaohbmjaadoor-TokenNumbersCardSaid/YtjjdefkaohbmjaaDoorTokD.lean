/- Decimal digits, and what Number says of them. No condition. -/
import Derived.Test.YtjjdefkaohbmjaaDoorTokN
set_option linter.unusedVariables false
set_option linter.unusedSimpArgs false
namespace Go.Proofs.YtjjdefkaohbmjaaDoor
open Go.Lib
def dg (u : Nat) : UInt8 := (48 + u % 10).toUInt8
def d10F : Nat → Nat → Bs
  | 0, u => [dg u]
  | f + 1, u => if u / 10 = 0 then [dg u] else d10F f (u / 10) ++ [dg u]
def d10 (u : Nat) : Bs := d10F 19 u
theorem dg_nat (u : Nat) : (dg u).toNat = 48 + u % 10 := by
  unfold dg
  rw [Nat.toUInt8, UInt8.toNat_ofNat']
  omega
theorem dg_dig (u : Nat) : digB (dg u) = true := by
  unfold digB
  rw [dg_nat]
  simp
  omega
theorem d10F_end {f u : Nat} (h : u / 10 = 0) : d10F f u = [dg u] := by
  cases f with
  | zero => rfl
  | succ f => unfold d10F; rw [if_pos h]
theorem d10F_step {f u : Nat} (h : u / 10 ≠ 0) : d10F (f + 1) u = d10F f (u / 10) ++ [dg u] := by
  rw [d10F, if_neg h]
theorem d10F_dig : ∀ (f u : Nat), ∀ c ∈ d10F f u, digB c = true
  | 0, u, c, h => by
    simp only [d10F, List.mem_singleton] at h
    rw [h]; exact dg_dig u
  | f + 1, u, c, h => by
    by_cases h0 : u / 10 = 0
    · rw [d10F_end h0, List.mem_singleton] at h
      rw [h]; exact dg_dig u
    · rw [d10F_step h0, List.mem_append] at h
      rcases h with h | h
      · exact d10F_dig f (u / 10) c h
      · rw [List.mem_singleton] at h; rw [h]; exact dg_dig u
theorem d10F_ne : ∀ (f u : Nat), d10F f u ≠ []
  | 0, u => by simp [d10F]
  | f + 1, u => by
    by_cases h0 : u / 10 = 0
    · rw [d10F_end h0]; simp
    · rw [d10F_step h0]; simp
theorem lt10 {f u : Nat} (h : u < 10 ^ (f + 1)) : u / 10 < 10 ^ f := by
  rw [Nat.pow_succ] at h
  omega
theorem d10F_len : ∀ (f u : Nat), u < 10 ^ (f + 1) → (d10F (f + 1) u).length ≤ f + 1
  | 0, u, h => by
    have : u / 10 = 0 := by omega
    rw [d10F_end this]; simp
  | f + 1, u, h => by
    by_cases h0 : u / 10 = 0
    · rw [d10F_end h0]; simp
    · rw [d10F_step h0, List.length_append]
      have := d10F_len f (u / 10) (lt10 h)
      simp; omega
theorem d10F_val : ∀ (f u : Nat), u < 10 ^ f → valF 0 (d10F f u) = u
  | 0, u, h => by
    have : u = 0 := by omega
    subst this
    rfl
  | f + 1, u, h => by
    by_cases h0 : u / 10 = 0
    · rw [d10F_end h0]
      show 10 * 0 + ((dg u).toNat - 48) = u
      rw [dg_nat]; omega
    · rw [d10F_step h0, valF_snoc, d10F_val f (u / 10) (lt10 h), dg_nat]
      omega
theorem head_app {a b : Bs} (h : a ≠ []) : (a ++ b).head? = a.head? := by
  cases a with
  | nil => exact absurd rfl h
  | cons x a => rfl
theorem d10F_head : ∀ (f u : Nat), u < 10 ^ f → u ≠ 0 → ∀ c, (d10F f u).head? = some c → c ≠ 48
  | 0, u, h, h2, c, hc => by omega
  | f + 1, u, h, h2, c, hc => by
    by_cases h0 : u / 10 = 0
    · rw [d10F_end h0] at hc
      simp only [List.head?_cons, Option.some.injEq] at hc
      rintro rfl
      have := dg_nat u
      rw [hc] at this
      have e : (48 : UInt8).toNat = 48 := rfl
      rw [e] at this
      omega
    · rw [d10F_step h0, head_app (d10F_ne f (u / 10))] at hc
      exact d10F_head f (u / 10) (lt10 h) h0 c hc
theorem hp45 {c : UInt8} {l : Bs} (h : c ≠ 45) : trimPrefix (c :: l) [45] = c :: l := by
  unfold trimPrefix hasPrefix
  rw [if_neg]
  simp [List.isPrefixOf]
  exact fun e => h e.symm
theorem hp45y (l : Bs) : trimPrefix (45 :: l) [45] = l := by
  unfold trimPrefix hasPrefix
  rw [if_pos]
  · rfl
  · simp [List.isPrefixOf]
theorem dig_45 {c : UInt8} (h : digB c = true) : c ≠ 45 := by rintro rfl; cases h
theorem all_dig {D : Bs} (h : ∀ c ∈ D, digB c = true) : D.all digB = true := List.all_eq_true.2 h
theorem p1019 : (9223372036854775808 : Nat) < 10 ^ 19 := by decide
theorem num_core {T : Bs} {u : Nat} (hu : u ≤ 9223372036854775808) (hT : T = d10 u) {s : Bs} (ht : trimPrefix s [45] = T) (hz : u = 0 → s = [48]) :
    number s = if 4611686018427387904 < u then (0, 4) else if T ≠ s then (-(u : Int), 0) else ((u : Int), 0) := by
  have hlt : u < 10 ^ 19 := Nat.lt_of_le_of_lt hu p1019
  have h1 : ∀ c ∈ T, digB c = true := by rw [hT]; exact d10F_dig 19 u
  have h2 : T ≠ [] := by rw [hT]; exact d10F_ne 19 u
  have h3 : T.length ≤ 19 := by rw [hT]; exact d10F_len 18 u hlt
  have h4 : valF 0 T = u := by rw [hT]; exact d10F_val 19 u hlt
  have h5 : u ≠ 0 → ∀ c, T.head? = some c → c ≠ 48 := by rw [hT]; exact fun h => d10F_head 19 u hlt h
  unfold number
  rw [ht, h4, if_neg, if_neg, if_neg]
  · rw [all_dig h1]; decide
  · rintro ⟨e1, e2⟩
    by_cases hu0 : u = 0
    · exact e2 (hz hu0)
    · exact h5 hu0 48 e1 rfl
  · rintro (e | e)
    · exact h2 e
    · omega
theorem d10_zero : d10 0 = [48] := rfl
theorem d10_trim (u : Nat) : trimPrefix (d10 u) [45] = d10 u := by
  unfold d10
  cases h : d10F 19 u with
  | nil => exact absurd h (d10F_ne 19 u)
  | cons c l => exact hp45 (dig_45 (d10F_dig 19 u c (by rw [h]; exact List.mem_cons_self ..)))
theorem number_pos {u : Nat} (hu : u ≤ 9223372036854775808) : number (d10 u) = if 4611686018427387904 < u then (0, 4) else ((u : Int), 0) := by
  rw [num_core hu rfl (d10_trim u) (fun h => by rw [h]; rfl), if_neg (fun (h : d10 u ≠ d10 u) => h rfl)]
theorem number_neg {u : Nat} (hu : u ≤ 9223372036854775808) (h0 : u ≠ 0) : number (45 :: d10 u) = if 4611686018427387904 < u then (0, 4) else (-(u : Int), 0) := by
  rw [num_core hu rfl (hp45y _) (fun h => absurd h h0), if_pos (show d10 u ≠ 45 :: d10 u from fun h => by
    have := congrArg List.length h
    simp at this)]
theorem number_zero {S : Bs} (h : S ≠ []) : number (48 :: S) = (0, 4) := by
  unfold number
  rw [hp45 (by decide)]
  split
  · rfl
  · rw [if_pos]
    refine ⟨rfl, ?_⟩
    intro e
    simp at e
    exact h e
theorem num_bl {T s : Bs} (ht : trimPrefix s [45] = T) (hb : T.all digB = false) : number s = (0, 4) := by
  unfold number
  rw [ht]
  split
  · rfl
  · split
    · rfl
    · first | rfl | rw [if_pos hb]
theorem all_bl (D : Bs) : (D ++ [32]).all digB = false := by
  rw [List.all_append]
  have : ([32] : Bs).all digB = false := rfl
  rw [this, Bool.and_false]
theorem number_bl (u : Nat) : number (d10 u ++ [32]) = (0, 4) := by
  refine num_bl (T := d10 u ++ [32]) ?_ (all_bl _)
  unfold d10
  cases h : d10F 19 u with
  | nil => exact absurd h (d10F_ne 19 u)
  | cons c l => exact hp45 (dig_45 (d10F_dig 19 u c (by rw [h]; exact List.mem_cons_self ..)))
theorem number_nbl (u : Nat) : number (45 :: d10 u ++ [32]) = (0, 4) := by
  show number (45 :: (d10 u ++ [32])) = _
  exact num_bl (T := d10 u ++ [32]) (hp45y _) (all_bl _)
end Go.Proofs.YtjjdefkaohbmjaaDoor
