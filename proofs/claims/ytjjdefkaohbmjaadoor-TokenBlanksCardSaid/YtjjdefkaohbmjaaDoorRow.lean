/- From the reading of a law's arguments to plain facts on cells: shapes of types, and what cells of a shape hold. Conditions: none beyond the row's own reach. -/
import Derived.Test.YtjjdefkaohbmjaaDoorLib
import Derived.ProofKit
import Derived.OpenShut
import Derived.SizedLaws
import Derived.ChangeOld
import Derived.Deep.Slices
set_option linter.unusedVariables false
set_option linter.unusedSimpArgs false
namespace Go.Proofs.YtjjdefkaohbmjaaDoor
open Go.RowKit

/-- The shapes of data without pointers and maps. -/
inductive Sh where
  | int (k : IntKind)
  | bool
  | str
  | slice (bytes : Nat) (e : Sh)
  | unit
  | pair (a b : Sh)

def Sh.cells : Sh → Nat
  | .int _ | .bool | .str | .slice _ _ => 1
  | .unit => 0
  | .pair a b => a.cells + b.cells

def Sh.Is (w : World) : Sh → List Value → Prop
  | .int k, cs => ∃ n, cs = [.int k n] ∧ (Lit.int k n).wf = true
  | .bool, cs => ∃ b, cs = [.bool b]
  | .str, cs => ∃ s, cs = [.string s] ∧ s.size ≤ 140737488351232
  | .slice by_ e, cs => ∃ (A : Option Addr) (n c : Nat) (els : List (List Value)), cs = [.slice A n c] ∧ els.length = n ∧ (n ≤ c ∧ (A = none → c = 0)) ∧ c * by_ ≤ 140737488351232 ∧ Rd w A els.flatten ∧ ∀ el ∈ els, el.length = e.cells ∧ e.Is w el
  | .unit, cs => cs = []
  | .pair a b, cs => ∃ c1 c2, cs = c1 ++ c2 ∧ a.Is w c1 ∧ b.Is w c2

def structSh (P : Program) (r : TypeId → Option Sh) : Nat → List Field → Option Sh
  | _, [] => some .unit
  | off, f :: fs =>
    match r f.type, structSh P r (off + P.cellsOf f.type) fs with
    | some a, some b => if f.offset = off ∧ a.cells = P.cellsOf f.type then some (.pair a b) else none
    | _, _ => none
def repSh (a : Sh) : Nat → Sh
  | 0 => .unit
  | n + 1 => .pair a (repSh a n)
def shapeOf (P : Program) : Nat → TypeId → Option Sh
  | 0, _ => none
  | d + 1, t =>
    match P.underlying t with
    | some .bool => some .bool
    | some (.int k) => some (.int k)
    | some .string => some .str
    | some (.slice e) => match shapeOf P d e with
      | some a => if a.cells = P.cellsOf e then some (.slice (P.bytesOf e) a) else none
      | none => none
    | some (.struct fs) => match structSh P (shapeOf P d) 0 fs.toList with
      | some a => if a.cells = P.cellsOf t then some a else none
      | none => none
    | some (.array n e) => match shapeOf P d e with
      | some a => if a.cells = P.cellsOf e ∧ (repSh a n).cells = P.cellsOf t then some (repSh a n) else none
      | none => none
    | _ => none

section
variable {H : Type} {enc : TypeId × Value → H} {P : Program} {w : World} {base : Nat} {spare : Nat → Bool} {held : Bool}

theorem mem_weightsAll {e : TypeId} {ds : List (DataW H)} {d : DataW H} (hd : d ∈ ds) : ∀ n ∈ d.weights P e, n ∈ DataW.weightsAll P e ds := by
  induction ds with
  | nil => cases hd
  | cons x xs ih =>
    intro n hn
    simp only [DataW.weightsAll, List.mem_append]
    cases hd with
    | head => exact .inl hn
    | tail _ h => exact .inr (ih h n hn)

theorem struct_is {r : TypeId → Option Sh} {n : Nat} (ih : ∀ t sh, r t = some sh → ∀ cs x, DataW.trod enc P w base spare held n t cs = some x → (∀ m ∈ x.1.weights P t, m ≤ reachBytes) → sh.Is w cs) :
    ∀ (fs : List Field) (off : Nat) (sh : Sh) (cs : List Value) (xs : List (DataW H × List MemPlace)), structSh P r off fs = some sh → xs.length = fs.length →
      (∀ (i : Nat) (f : Field), fs[i]? = some f → DataW.trod enc P w base spare held n f.type ((cs.drop f.offset).take (P.cellsOf f.type)) = xs[i]?) →
      (∀ m ∈ DataW.weightsEach P (fs.map (·.type)) (xs.map (·.1)), m ≤ reachBytes) → cs.length = off + sh.cells → sh.Is w (cs.drop off)
  | [], off, sh, cs, xs, hs, hl, hf, hw, hc => by
    simp only [structSh, Option.some.injEq] at hs
    subst hs
    simp only [Sh.cells, Nat.add_zero] at hc
    simp [Sh.Is, hc]
  | f :: fs, off, sh, cs, xs, hs, hl, hf, hw, hc => by
    simp only [structSh] at hs
    split at hs
    · rename_i a b ha hb
      split at hs
      · rename_i hk
        obtain ⟨h1, h2⟩ := hk
        simp only [Option.some.injEq] at hs
        subst hs
        match xs, hl with
        | x :: xs, hl =>
          have h0 := hf 0 f rfl
          simp only [List.getElem?_cons_zero] at h0
          rw [h1] at h0
          simp only [Sh.cells] at hc
          refine ⟨(cs.drop off).take (P.cellsOf f.type), cs.drop (off + P.cellsOf f.type), ?_, ih _ _ ha _ _ h0 ?_, ?_⟩
          · rw [← List.drop_drop]
            exact (List.take_append_drop _ _).symm
          · intro m hm
            exact hw m (by simp [DataW.weightsEach]; exact .inl hm)
          · refine struct_is ih fs (off + P.cellsOf f.type) b cs xs hb (by simpa using hl) (fun i g hg => ?_) (fun m hm => hw m ?_) (by rw [← h2]; omega)
            · have := hf (i + 1) g (by simpa using hg)
              simpa using this
            · simp only [List.map_cons, DataW.weightsEach, List.mem_append]
              exact .inr hm
      · cases hs
    · cases hs

theorem array_is {a : Sh} {e : TypeId} {n : Nat} (ih : ∀ cs x, DataW.trod enc P w base spare held n e cs = some x → (∀ m ∈ x.1.weights P e, m ≤ reachBytes) → a.Is w cs) (hk : a.cells = P.cellsOf e) :
    ∀ (k j : Nat) (cs : List Value) (xs : List (DataW H × List MemPlace)), xs.length = j + k →
      (∀ (i : Nat), i < j + k → DataW.trod enc P w base spare held n e ((cs.drop (i * P.cellsOf e)).take (P.cellsOf e)) = xs[i]?) →
      (∀ m ∈ DataW.weightsAll P e (xs.map (·.1)), m ≤ reachBytes) → cs.length = j * P.cellsOf e + (repSh a k).cells → (repSh a k).Is w (cs.drop (j * P.cellsOf e))
  | 0, j, cs, xs, hl, hf, hw, hc => by
    simp only [repSh, Sh.cells, Nat.add_zero] at hc
    simp [repSh, Sh.Is, hc]
  | k + 1, j, cs, xs, hl, hf, hw, hc => by
    have hj := hf j (by omega)
    rw [List.getElem?_eq_getElem (by omega)] at hj
    simp only [repSh, Sh.cells] at hc
    refine ⟨(cs.drop (j * P.cellsOf e)).take (P.cellsOf e), cs.drop ((j + 1) * P.cellsOf e), ?_, ih _ _ hj (fun m hm => hw m (mem_weightsAll (List.mem_map.2 ⟨_, List.getElem_mem _, rfl⟩) m hm)), ?_⟩
    · rw [Nat.add_mul, Nat.one_mul, ← List.drop_drop]
      exact (List.take_append_drop _ _).symm
    · exact array_is ih hk k (j + 1) cs xs (by omega) (fun i hi => hf i (by omega)) hw (by rw [Nat.add_mul, Nat.one_mul]; omega)

theorem rd_of_cells {a : Addr} {sz n : Nat} {els : List (List Value)} (hl : els.length = n) (h : ∀ i, i < n → ∃ cs', w.cells? base (a.add (i * sz)) sz = some cs' ∧ els[i]? = some cs') : Rd w (some a) els.flatten := by
  have hsz : ∀ el ∈ els, el.length = sz := by
    intro el hel
    obtain ⟨i, hi, rfl⟩ := List.getElem_of_mem hel
    obtain ⟨cs', h1, h2⟩ := h i (by omega)
    rw [List.getElem?_eq_getElem hi, Option.some.injEq] at h2
    rw [h2]
    exact (World.cells?_some h1).2.1
  have key : ∀ j v, els.flatten[j]? = some v → w.cell? (a.add j) = some v := by
    intro j v hv
    by_cases hs : sz = 0
    · have : els.flatten = [] := by
        rw [List.flatten_eq_nil_iff]
        intro l hl'
        exact List.eq_nil_of_length_eq_zero (by rw [hsz l hl', hs])
      rw [this] at hv
      simp at hv
    · have hfl : ∀ (l : List (List Value)), (∀ el ∈ l, el.length = sz) → ∀ j, l.flatten[j]? = (l[j / sz]?).bind (·[j % sz]?) := by
        intro l
        induction l with
        | nil => intro _ j; simp
        | cons x xs ih =>
          intro hall j
          have hx := hall x (by simp)
          simp only [List.flatten_cons]
          by_cases hj : j < sz
          · rw [List.getElem?_append_left (by omega), Nat.div_eq_of_lt hj, Nat.mod_eq_of_lt hj]
            simp
          · rw [List.getElem?_append_right (by omega), ih (fun el hel => hall el (by simp [hel])), hx]
            have e1 : j / sz = (j - sz) / sz + 1 := by
              rw [Nat.div_eq_sub_div (by omega) (by omega)]
            have e2 : j % sz = (j - sz) % sz := Nat.mod_eq_sub_mod (by omega)
            rw [e1, e2]
            simp
      rw [hfl els hsz] at hv
      obtain ⟨el, h1, h2⟩ := Option.bind_eq_some_iff.1 hv
      have hi : j / sz < n := by
        have := (List.getElem?_eq_some_iff.1 h1).1
        omega
      obtain ⟨cs', h3, h4⟩ := h (j / sz) hi
      rw [h1, Option.some.injEq] at h4
      subst h4
      have h5 := (World.cells?_some h3).2.2 (j % sz) (Nat.mod_lt _ (by omega))
      rw [Go.Deep.add_add, show j / sz * sz + j % sz = j by rw [Nat.mul_comm]; exact Nat.div_add_mod ..] at h5
      rw [h5, h2]
  intro hne
  obtain ⟨v, hv⟩ : ∃ v, els.flatten[0]? = some v := by
    cases hfl : els.flatten with
    | nil => exact absurd hfl hne
    | cons x _ => exact ⟨x, by simp⟩
  have h0 := key 0 v hv
  have hspot := World.cell?_spot h0
  obtain ⟨b, o, s⟩ := a
  have hs : s = none := by simpa [Addr.add] using hspot
  subst hs
  refine ⟨b, o, rfl, fun j v hv => ?_⟩
  have := key j v hv
  rwa [show (⟨b, o, none⟩ : Addr).add j = ⟨b, o + j, none⟩ by unfold Addr.add; split <;> simp_all] at this

theorem is_of_trod (hspare : ∀ b, spare b = true) : ∀ (d : Nat) (t : TypeId) (sh : Sh), shapeOf P d t = some sh → ∀ (fuel : Nat) (cs : List Value) (x : DataW H × List MemPlace),
    DataW.trod enc P w base spare held fuel t cs = some x → (∀ m ∈ x.1.weights P t, m ≤ reachBytes) → sh.Is w cs
  | 0, _, _, h, _, _, _, _, _ => by simp [shapeOf] at h
  | d + 1, t, sh, h, fuel, cs, x, ht, hw => by
    simp only [shapeOf] at h
    split at h
    · rename_i hu
      simp only [Option.some.injEq] at h; subst h
      obtain ⟨b, rfl, rfl⟩ := DataW.trod_bool hu ht
      exact ⟨b, rfl⟩
    · rename_i k hu
      simp only [Option.some.injEq] at h; subst h
      obtain ⟨n, rfl, rfl, hwf⟩ := DataW.trod_int hu ht
      exact ⟨n, rfl, hwf⟩
    · rename_i hu
      simp only [Option.some.injEq] at h; subst h
      obtain ⟨s, rfl, rfl, _⟩ := DataW.trod_string hu ht
      refine ⟨s, rfl, ?_⟩
      have := hw s.data.toList.length (by simp [DataW.weights])
      simpa [reachBytes] using this
    · rename_i e hu
      split at h
      · rename_i a ha
        split at h
        · rename_i hk
          simp only [Option.some.injEq] at h; subst h
          rcases Go.Deep.open_slice hu ht with ⟨rfl, rfl⟩ | ⟨A, len, cap, m, n, D, Pl, rfl, _, hl, _, hm, rfl, hx⟩
          · exact ⟨none, 0, 0, [], rfl, rfl, ⟨Nat.le_refl _, fun _ => rfl⟩, by omega, Rd.nil _ _, fun el h => by cases h⟩
          · have hml : len ≤ m := by rw [hm]; split <;> omega
            obtain ⟨V, hV⟩ := Go.Deep.choose_lt (α := List Value) (n := len) (p := fun i cs' => w.cells? base (A.add (i * P.cellsOf e)) (P.cellsOf e) = some cs' ∧ DataW.trod enc P w base spare held n e cs' = some (D i, Pl i)) (fun i hi => by
              obtain ⟨cs', h1, h2⟩ := hx i (by omega)
              exact ⟨cs', h1, h2⟩)
            have hwl := hw ((len + (m - len)) * P.bytesOf e) (by simp [DataW.weights, hu])
            by_cases hsp : spare A.block = true
            · have hmc : m = cap := by rw [hm, if_pos hsp]
              refine ⟨some A, len, cap, (List.range len).map V, rfl, by simp, ⟨hl, fun h => by cases h⟩, ?_, ?_, ?_⟩
              · rw [show len + (m - len) = cap by omega] at hwl
                simpa [reachBytes] using hwl
              · refine rd_of_cells (base := base) (n := len) (sz := P.cellsOf e) (by simp) (fun i hi => ⟨V i, (hV i hi).1, by simp [hi]⟩)
              · intro el hel
                obtain ⟨i, hi, rfl⟩ := List.mem_map.1 hel
                have hi' : i < len := by simpa using hi
                refine ⟨by rw [hk]; exact (World.cells?_some (hV i hi').1).2.1, is_of_trod hspare d e a ha n _ _ (hV i hi').2 (fun q hq => hw q ?_)⟩
                simp only [DataW.weights, hu, List.mem_cons, List.mem_append]
                exact .inr (.inl (mem_weightsAll (List.mem_map.2 ⟨i, by simpa using hi', rfl⟩) q hq))
            · exfalso
              exact hsp (hspare A.block)
        · cases h
      · cases h
    · rename_i fs hu
      split at h
      · rename_i a ha
        split at h
        · rename_i hk
          simp only [Option.some.injEq] at h; subst h
          obtain ⟨xs, n, rfl, rfl, hlen, hxl, hf⟩ := DataW.trod_struct hu ht
          have := struct_is (r := shapeOf P d) (n := n) (fun t' sh' h' cs' x' ht' hw' => is_of_trod hspare d t' sh' h' n cs' x' ht' hw') fs.toList 0 a cs xs ha (by simpa using hxl) (fun i f hf' => hf i f (by simpa using hf')) (fun m hm => hw m (by simpa [DataW.weights, hu] using hm)) (by rw [hlen, hk]; omega)
          simpa using this
        · cases h
      · cases h
    · rename_i n e hu
      split at h
      · rename_i a ha
        split at h
        · rename_i hk
          simp only [Option.some.injEq] at h; subst h
          obtain ⟨xs, m, rfl, rfl, hlen, hxl, hf⟩ := DataW.trod_array hu ht
          have := array_is (a := a) (n := m) (fun cs' x' ht' hw' => is_of_trod hspare d e a ha m cs' x' ht' hw') hk.1 n 0 cs xs (by omega) (fun i hi => hf i (by omega)) (fun q hq => hw q (by simpa [DataW.weights, hu] using hq)) (by rw [hlen, ← hk.2]; omega)
          simpa using this
        · cases h
      · cases h
    · cases h
end

theorem bd_i64 {n : Int} (h : (Lit.int .i64 n).wf = true) : -9223372036854775808 ≤ n ∧ n ≤ 9223372036854775807 := by
  simp only [Lit.wf, Bool.and_eq_true, decide_eq_true_eq] at h
  exact h
theorem bd_u64 {n : Int} (h : (Lit.int .u64 n).wf = true) : 0 ≤ n ∧ n ≤ 18446744073709551615 := by
  simp only [Lit.wf, Bool.and_eq_true, decide_eq_true_eq] at h
  exact h
theorem bd_u8 {n : Int} (h : (Lit.int .u8 n).wf = true) : 0 ≤ n ∧ n ≤ 255 := by
  simp only [Lit.wf, Bool.and_eq_true, decide_eq_true_eq] at h
  exact h
theorem bd_u16 {n : Int} (h : (Lit.int .u16 n).wf = true) : 0 ≤ n ∧ n ≤ 65535 := by
  simp only [Lit.wf, Bool.and_eq_true, decide_eq_true_eq] at h
  exact h
theorem bd_u32 {n : Int} (h : (Lit.int .u32 n).wf = true) : 0 ≤ n ∧ n ≤ 4294967295 := by
  simp only [Lit.wf, Bool.and_eq_true, decide_eq_true_eq] at h
  exact h

/-- A list of rows, each made of something, is a map. -/
theorem exists_map {α β : Type} {f : α → β} {p : α → Prop} : ∀ (els : List β), (∀ el ∈ els, ∃ a, el = f a ∧ p a) → ∃ as : List α, els = as.map f ∧ ∀ a ∈ as, p a
  | [], _ => ⟨[], rfl, fun a h => by cases h⟩
  | el :: els, h => by
    obtain ⟨a, rfl, hp⟩ := h _ (List.mem_cons_self ..)
    obtain ⟨as, rfl, hps⟩ := exists_map els (fun e he => h e (List.mem_cons_of_mem _ he))
    exact ⟨a :: as, rfl, fun b hb => by cases hb with | head => exact hp | tail _ h' => exact hps _ h'⟩

end Go.Proofs.YtjjdefkaohbmjaaDoor
