/- The plain side of package lin: ops, orders, what is right. No condition. -/
set_option linter.unusedVariables false
set_option linter.unusedSimpArgs false
namespace Go.Proofs.Ytkajkomljgdghaa
structure LOp where
  op : Int
  blk : Int
  data : ByteArray
  fr : Int
  tt : Int
  back : Bool
  e : Int
  rd : ByteArray
def LOp.sure (o : LOp) : Bool := o.back && decide (o.e = 0)
def refused (e : Int) : Bool := decide (e = 1 ∨ e = 2 ∨ e = 3 ∨ e = 4 ∨ e = 20)
def LOp.never (o : LOp) : Bool := if o.op = 1 then !o.sure else if o.op = 2 ∨ o.op = 3 then o.back && refused o.e else true
abbrev none8 : ByteArray := { data := #[0, 0, 0, 0, 0, 0, 0, 0] }
def LOp.nxt (o : LOp) (d : ByteArray) : ByteArray := if o.op = 1 then d else if o.op = 2 then o.data else none8
def LOp.fits (o : LOp) (d : ByteArray) : Bool := decide (o.op = 1 → o.rd = d)
/-- Must x come ahead of o? -/
def ahd (x o : LOp) : Bool := x.sure && decide (x.tt < o.fr)
def picks {α : Type} : List α → List (α × List α)
  | [] => []
  | x :: l => (x, l) :: (picks l).map (fun p => (p.1, x :: p.2))
theorem picks_perm {α : Type} : ∀ {l : List α} {p : α × List α}, p ∈ picks l → l.Perm (p.1 :: p.2)
  | x :: l, p, h => by
    simp only [picks, List.mem_cons, List.mem_map] at h
    rcases h with rfl | ⟨q, hq, rfl⟩
    · exact .refl _
    · exact ((picks_perm hq).cons x).trans (.swap _ _ _)
theorem picks_mem {α : Type} : ∀ {l : List α} {x : α}, x ∈ l → ∃ r, (x, r) ∈ picks l
  | y :: l, x, h => by
    rcases List.mem_cons.1 h with rfl | h
    · exact ⟨l, by simp [picks]⟩
    · obtain ⟨r, hr⟩ := picks_mem h
      exact ⟨y :: r, by simp only [picks, List.mem_cons, List.mem_map]; exact .inr ⟨_, hr, rfl⟩⟩
def ordN : Nat → List LOp → ByteArray → Bool
  | 0, l, _ => l.all (fun x => !x.sure)
  | n + 1, l, d => l.all (fun x => !x.sure) || (picks l).any (fun p => p.2.all (fun x => !ahd x p.1) && p.1.fits d && ordN n p.2 (p.1.nxt d))
def ord (l : List LOp) (d : ByteArray) : Bool := ordN l.length l d
def Lin : ByteArray → List LOp → List LOp → Prop
  | _, [], r => ∀ x ∈ r, x.sure = false
  | d, o :: s, r => (∀ x ∈ s ++ r, ahd x o = false) ∧ (o.op = 1 → o.rd = d) ∧ Lin (o.nxt d) s r
theorem ordN_iff : ∀ (n : Nat) (l : List LOp) (d : ByteArray), l.length ≤ n → (ordN n l d = true ↔ ∃ s r, l.Perm (s ++ r) ∧ Lin d s r)
  | 0, l, d, h => by
    obtain rfl : l = [] := List.eq_nil_of_length_eq_zero (by omega)
    simp only [ordN, List.all_nil, true_iff]
    exact ⟨[], [], .refl _, fun x hx => by cases hx⟩
  | n + 1, l, d, h => by
    simp only [ordN, Bool.or_eq_true, List.all_eq_true, List.any_eq_true, Bool.and_eq_true, Bool.not_eq_true']
    constructor
    · rintro (h0 | ⟨p, hp, ⟨h1, h2⟩, h3⟩)
      · exact ⟨[], l, .refl _, h0⟩
      · have hpm := picks_perm hp
        obtain ⟨s, r, hs, hl⟩ := (ordN_iff n p.2 _ (by have := hpm.length_eq; simp at this; omega)).1 h3
        exact ⟨p.1 :: s, r, hpm.trans (hs.cons _), fun x hx => h1 x (hs.mem_iff.2 hx), of_decide_eq_true h2, hl⟩
    · rintro ⟨s, r, hs, hl⟩
      cases s with
      | nil => exact .inl fun x hx => hl x (hs.mem_iff.1 hx)
      | cons o s =>
        obtain ⟨h1, h2, h3⟩ := hl
        obtain ⟨r0, hr0⟩ := picks_mem (hs.mem_iff.2 (by simp) : o ∈ l)
        have hpm := picks_perm hr0
        have h4 : r0.Perm (s ++ r) := by
          have := hpm.symm.trans hs
          exact List.Perm.cons_inv (a := o) this
        refine .inr ⟨_, hr0, ⟨fun x hx => h1 x (h4.mem_iff.1 hx), decide_eq_true h2⟩, ?_⟩
        exact (ordN_iff n r0 _ (by have := hpm.length_eq; simp at this; omega)).2 ⟨s, r, h4, h3⟩
theorem ord_iff (l : List LOp) (d : ByteArray) : ord l d = true ↔ ∃ s r, l.Perm (s ++ r) ∧ Lin d s r := ordN_iff _ l d (Nat.le_refl _)
theorem ordN_eq {n : Nat} {l : List LOp} {d : ByteArray} (h : l.length ≤ n) : ordN n l d = ord l d := by
  rw [Bool.eq_iff_iff, ordN_iff n l d h, ord_iff]
theorem ord_unfold (l : List LOp) (d : ByteArray) : ord l d = (l.all (fun x => !x.sure) || (picks l).any (fun p => p.2.all (fun x => !ahd x p.1) && p.1.fits d && ord p.2 (p.1.nxt d))) := by
  rw [← ordN_eq (n := l.length + 1) (Nat.le_succ _)]
  simp only [ordN]
  congr 1
  rw [Bool.eq_iff_iff, List.any_eq_true, List.any_eq_true]
  constructor
  · rintro ⟨p, hp, h⟩
    refine ⟨p, hp, ?_⟩
    rwa [ordN_eq (by have := (picks_perm hp).length_eq; simp at this; omega)] at h
  · rintro ⟨p, hp, h⟩
    refine ⟨p, hp, ?_⟩
    rwa [ordN_eq (by have := (picks_perm hp).length_eq; simp at this; omega)]
theorem ord_perm {l l' : List LOp} (h : l.Perm l') (d : ByteArray) : ord l d = ord l' d := by
  rw [Bool.eq_iff_iff, ord_iff, ord_iff]
  exact ⟨fun ⟨s, r, h1, h2⟩ => ⟨s, r, h.symm.trans h1, h2⟩, fun ⟨s, r, h1, h2⟩ => ⟨s, r, h.trans h1, h2⟩⟩
/-- What is no less ready: as sure, or less; its span is wider; what it does is alike. -/
structure Easier (o o' : LOp) : Prop where
  op : o'.op = o.op
  data : o'.data = o.data
  rd : o'.op = 1 → o'.rd = o.rd
  fr : o'.fr ≤ o.fr
  tt : o.tt ≤ o'.tt
  sure : o'.sure = true → o.sure = true
theorem Easier.nxt {o o' : LOp} (h : Easier o o') (d : ByteArray) : o'.nxt d = o.nxt d := by
  unfold LOp.nxt; rw [h.op, h.data]
theorem ahd_easier {x x' o o' : LOp} (h : Easier x x') (h' : Easier o o') (e : ahd x o = false) : ahd x' o' = false := by
  cases hc : ahd x' o' with
  | false => rfl
  | true =>
    exfalso
    unfold ahd at hc e
    simp only [Bool.and_eq_true, decide_eq_true_eq] at hc
    have := h.sure hc.1
    rw [this] at e
    have h1 := h.tt
    have h2 := h'.fr
    simp at e
    omega
theorem Lin.pairs {α : Type} {f g : α → LOp} : ∀ (s : List α) (d : ByteArray) (r : List α), (∀ p ∈ s ++ r, Easier (f p) (g p)) → Lin d (s.map f) (r.map f) → Lin d (s.map g) (r.map g)
  | [], d, r, hf, h => by
    intro x hx
    obtain ⟨y, hy, rfl⟩ := List.mem_map.1 hx
    cases e : (g y).sure with
    | false => rfl
    | true => have := (hf y hy).sure e; rw [h _ (List.mem_map_of_mem hy)] at this; cases this
  | o :: s, d, r, hf, h => by
    obtain ⟨h1, h2, h3⟩ := h
    have ho := hf o (by simp)
    refine ⟨fun x hx => ?_, fun h4 => ?_, ?_⟩
    · have hx : x ∈ s.map g ++ r.map g := hx
      rw [← List.map_append] at hx
      obtain ⟨y, hy, rfl⟩ := List.mem_map.1 hx
      exact ahd_easier (hf y (List.mem_cons_of_mem _ hy)) ho (h1 (f y) (by
        show f y ∈ s.map f ++ r.map f
        rw [← List.map_append]; exact List.mem_map_of_mem hy))
    · rw [ho.rd h4]; exact h2 (by rw [← ho.op]; exact h4)
    · show Lin ((g o).nxt d) (s.map g) (r.map g)
      rw [ho.nxt]; exact Lin.pairs s _ r (fun p hp => hf p (List.mem_cons_of_mem _ hp)) h3
theorem perm_lift {α β : Type} {f : α → β} {l m : List β} (h : l.Perm m) : ∀ {L : List α}, L.map f = l → ∃ M, L.Perm M ∧ M.map f = m := by
  induction h with
  | nil => intro L hL; exact ⟨L, .refl _, hL⟩
  | cons x _ ih =>
    intro L hL
    cases L with
    | nil => cases hL
    | cons y L =>
      simp only [List.map_cons, List.cons.injEq] at hL
      obtain ⟨M, h1, h2⟩ := ih hL.2
      exact ⟨y :: M, h1.cons _, by simp [h2, hL.1]⟩
  | swap x y l =>
    intro L hL
    match L, hL with
    | a :: b :: L, hL =>
      simp only [List.map_cons, List.cons.injEq] at hL
      exact ⟨b :: a :: L, .swap _ _ _, by simp [hL]⟩
  | trans _ _ ih1 ih2 =>
    intro L hL
    obtain ⟨M, h1, h2⟩ := ih1 hL
    obtain ⟨N, h3, h4⟩ := ih2 h2
    exact ⟨N, h1.trans h3, h4⟩
theorem ord_pairs {α : Type} {f g : α → LOp} {L : List α} {d : ByteArray} (hf : ∀ p ∈ L, Easier (f p) (g p)) (h : ord (L.map f) d = true) : ord (L.map g) d = true := by
  rw [ord_iff] at h ⊢
  obtain ⟨s, r, hs, hl⟩ := h
  obtain ⟨M, h1, h2⟩ := perm_lift hs rfl
  obtain ⟨S, R, rfl, hS, hR⟩ : ∃ S R, M = S ++ R ∧ S.map f = s ∧ R.map f = r := by
    obtain ⟨S, R, h3, h4, h5⟩ := List.map_eq_append_iff.1 h2
    exact ⟨S, R, h3, h4, h5⟩
  subst hS; subst hR
  refine ⟨S.map g, R.map g, ?_, Lin.pairs S d R (fun p hp => hf p (h1.mem_iff.2 hp)) hl⟩
  rw [← List.map_append]; exact h1.map g
/-- Without a read. -/
theorem Lin.drop {x : LOp} (hx : x.op = 1) : ∀ (s : List LOp) (d : ByteArray) (r : List LOp), Lin d s r → x ∈ s ++ r → ∃ s' r', (s ++ r).Perm (x :: (s' ++ r')) ∧ Lin d s' r'
  | [], d, r, h, hm => by
    have hm : x ∈ r := hm
    obtain ⟨q, hq⟩ := picks_mem hm
    have hp := picks_perm hq
    exact ⟨[], q, hp, fun y hy => h y (hp.mem_iff.2 (List.mem_cons_of_mem _ hy))⟩
  | o :: s, d, r, h, hm => by
    obtain ⟨h1, h2, h3⟩ := h
    have hm : x ∈ o :: (s ++ r) := hm
    rcases List.mem_cons.1 hm with rfl | hm
    · refine ⟨s, r, .refl _, ?_⟩
      have : x.nxt d = d := by unfold LOp.nxt; rw [if_pos hx]
      rwa [this] at h3
    · obtain ⟨s', r', hp, hl⟩ := Lin.drop hx s _ r h3 hm
      refine ⟨o :: s', r', (hp.cons o).trans (.swap _ _ _), fun y hy => h1 y (hp.mem_iff.2 (List.mem_cons_of_mem _ hy)), h2, hl⟩
theorem ord_drop {x : LOp} (hx : x.op = 1) {l : List LOp} {d : ByteArray} (h : ord (x :: l) d = true) : ord l d = true := by
  rw [ord_iff] at h ⊢
  obtain ⟨s, r, hs, hl⟩ := h
  obtain ⟨s', r', hp, hl'⟩ := Lin.drop hx s d r hl (hs.mem_iff.1 (by simp))
  exact ⟨s', r', List.Perm.cons_inv (hs.trans hp), hl'⟩
/-! What an order is, said place by place. -/
def fit : ByteArray → List LOp → Prop
  | _, [] => True
  | d, o :: s => (o.op = 1 → o.rd = d) ∧ fit (o.nxt d) s
def play : ByteArray → List LOp → ByteArray
  | d, [] => d
  | d, o :: s => play (o.nxt d) s
theorem play_append : ∀ (s t : List LOp) (d : ByteArray), play d (s ++ t) = play (play d s) t
  | [], t, d => rfl
  | o :: s, t, d => play_append s t (o.nxt d)
theorem fit_append : ∀ (s t : List LOp) (d : ByteArray), fit d (s ++ t) ↔ fit d s ∧ fit (play d s) t
  | [], t, d => by simp [fit, play]
  | o :: s, t, d => by
    show (_ ∧ fit (o.nxt d) (s ++ t)) ↔ (_ ∧ fit (o.nxt d) s) ∧ fit (play (o.nxt d) s) t
    rw [fit_append s t, and_assoc]
theorem lin_of : ∀ {s r : List LOp} {d : ByteArray}, s.Pairwise (fun o x => ahd x o = false) → (∀ o ∈ s, ∀ x ∈ r, ahd x o = false) → (∀ x ∈ r, x.sure = false) → fit d s → Lin d s r
  | [], r, d, _, _, h3, _ => h3
  | o :: s, r, d, h1, h2, h3, h4 => by
    rw [List.pairwise_cons] at h1
    refine ⟨fun x hx => ?_, h4.1, lin_of h1.2 (fun o ho => h2 o (List.mem_cons_of_mem _ ho)) h3 h4.2⟩
    rcases List.mem_append.1 hx with hx | hx
    · exact h1.1 x hx
    · exact h2 o (by simp) x hx
theorem ord_of {l s : List LOp} {d : ByteArray} (h : l.Perm s) (h1 : s.Pairwise (fun o x => ahd x o = false)) (h4 : fit d s) : ord l d = true :=
  (ord_iff l d).2 ⟨s, [], by simpa using h, lin_of h1 (fun o _ x hx => by cases hx) (fun x hx => by cases hx) h4⟩
/-! A history. -/
def LOp.bad (o : LOp) : Bool := decide (o.fr < 1) || (o.back && decide (o.tt < o.fr))
def LOp.at (o : LOp) (b : Int) : Bool := !o.never && decide (o.blk = b)
def cnt (l : List LOp) (b : Int) : List LOp := l.filter (fun o => o.at b)
def errs (l : List LOp) : Int := if l.any LOp.bad = true then 1 else if l.any (fun o => decide (9 < (cnt l o.blk).length)) = true then 5 else 0
def rightB (l : List LOp) (b : Int) : Bool := ord (cnt l b) none8
def lowStep (R : Int → Bool) (p : Int × Bool) (b : Int) : Int × Bool := if (!R b && (!p.2 || decide (b < p.1))) = true then (b, true) else p
def lows (R : Int → Bool) (l : List Int) : Int × Bool := l.foldl (lowStep R) (0, false)
def wrong (l : List LOp) : Int × Bool := if errs l = 0 then lows (rightB l) (l.map (·.blk)) else (0, false)
def chkB (l : List LOp) : Bool := decide (errs l = 0) && !(wrong l).2
/-- What lows tells. -/
def LowIs (R : Int → Bool) (l : List Int) (p : Int × Bool) : Prop := (p = (0, false) ∧ ∀ b ∈ l, R b = true) ∨ (p.2 = true ∧ p.1 ∈ l ∧ R p.1 = false ∧ ∀ b ∈ l, R b = false → p.1 ≤ b)
theorem lowStep_is {R : Int → Bool} {l : List Int} {p : Int × Bool} (h : LowIs R l p) (b : Int) : LowIs R (l ++ [b]) (lowStep R p b) := by
  obtain ⟨q, z⟩ := p
  unfold lowStep
  cases hb : R b with
  | true =>
    rw [if_neg (by simp)]
    rcases h with ⟨h1, h2⟩ | ⟨h1, h2, h3, h4⟩
    · refine .inl ⟨h1, fun c hc => ?_⟩
      rcases List.mem_append.1 hc with hc | hc
      · exact h2 c hc
      · obtain rfl : c = b := by simpa using hc
        exact hb
    · refine .inr ⟨h1, List.mem_append_left _ h2, h3, fun c hc hr => ?_⟩
      rcases List.mem_append.1 hc with hc | hc
      · exact h4 c hc hr
      · obtain rfl : c = b := by simpa using hc
        rw [hb] at hr; cases hr
  | false =>
    rcases h with ⟨h1, h2⟩ | ⟨h1, h2, h3, h4⟩
    · obtain ⟨rfl, rfl⟩ := Prod.mk.injEq .. ▸ h1
      rw [if_pos (by simp)]
      refine .inr ⟨rfl, by simp, hb, fun c hc hr => ?_⟩
      rcases List.mem_append.1 hc with hc | hc
      · rw [h2 c hc] at hr; cases hr
      · obtain rfl : c = b := by simpa using hc
        exact Int.le_refl _
    · simp only at h1 h2 h3 h4
      subst h1
      by_cases hl : b < q
      · rw [if_pos (by simp [hl])]
        refine .inr ⟨rfl, by simp, hb, fun c hc hr => ?_⟩
        rcases List.mem_append.1 hc with hc | hc
        · have := h4 c hc hr
          simp only; omega
        · obtain rfl : c = b := by simpa using hc
          exact Int.le_refl _
      · rw [if_neg (by simp [hl])]
        refine .inr ⟨rfl, List.mem_append_left _ h2, h3, fun c hc hr => ?_⟩
        rcases List.mem_append.1 hc with hc | hc
        · exact h4 c hc hr
        · obtain rfl : c = b := by simpa using hc
          simp only; omega
theorem foldl_low {R : Int → Bool} : ∀ (l m : List Int) (p : Int × Bool), LowIs R m p → LowIs R (m ++ l) (l.foldl (lowStep R) p)
  | [], m, p, h => by simpa using h
  | b :: l, m, p, h => by
    have := foldl_low l (m ++ [b]) _ (lowStep_is h b)
    simpa using this
theorem lows_is (R : Int → Bool) (l : List Int) : LowIs R l (lows R l) := by
  have := foldl_low (R := R) l [] (0, false) (.inl ⟨rfl, fun b hb => by cases hb⟩)
  rwa [List.nil_append] at this
theorem LowIs.one {R : Int → Bool} {l m : List Int} {p q : Int × Bool} (h : LowIs R l p) (h' : LowIs R m q) (hlm : ∀ b, R b = false → (b ∈ l ↔ b ∈ m)) : p = q := by
  obtain ⟨p1, p2⟩ := p
  obtain ⟨q1, q2⟩ := q
  rcases h with ⟨h1, h2⟩ | ⟨h1, h2, h3, h4⟩ <;> rcases h' with ⟨k1, k2⟩ | ⟨k1, k2, k3, k4⟩
  · rw [h1, k1]
  · have := h2 _ ((hlm _ k3).2 k2)
    rw [this] at k3; cases k3
  · have := k2 _ ((hlm _ h3).1 h2)
    rw [this] at h3; cases h3
  · have a1 := h4 _ ((hlm _ k3).2 k2) k3
    have a2 := k4 _ ((hlm _ h3).1 h2) h3
    simp only at h1 k1 a1 a2
    rw [h1, k1, show p1 = q1 by omega]
theorem cnt_nil_of {l : List LOp} {b : Int} (h : ∀ o ∈ l, o.blk ≠ b) : cnt l b = [] := by
  unfold cnt
  rw [List.filter_eq_nil_iff]
  intro o ho
  simp [LOp.at, h o ho]
theorem ord_nil (d : ByteArray) : ord [] d = true := by rfl
theorem right_mem {l : List LOp} {b : Int} (h : rightB l b = false) : b ∈ l.map (·.blk) := by
  rcases Classical.em (b ∈ l.map (·.blk)) with hb | hb
  · exact hb
  · unfold rightB at h
    rw [cnt_nil_of (fun o ho e => hb (by rw [← e]; exact List.mem_map_of_mem (f := (·.blk)) ho)), ord_nil] at h
    cases h
theorem wrong_ext {l m : List LOp} (he : errs l = 0 ↔ errs m = 0) (hr : ∀ b, rightB l b = rightB m b) : wrong l = wrong m := by
  unfold wrong
  by_cases h : errs l = 0
  · rw [if_pos h, if_pos (he.1 h)]
    have e : rightB l = rightB m := funext hr
    refine (lows_is (rightB l) _).one (by rw [e]; exact lows_is _ _) (fun b hb => ⟨fun _ => right_mem (by rw [← hr]; exact hb), fun _ => right_mem hb⟩)
  · rw [if_neg h, if_neg (fun h' => h (he.2 h'))]
theorem chk_ext {l m : List LOp} (he : errs l = 0 ↔ errs m = 0) (hr : ∀ b, rightB l b = rightB m b) : chkB l = chkB m := by
  unfold chkB
  rw [wrong_ext he hr]
  congr 1
  simp [he]
theorem chkB_iff {l : List LOp} : chkB l = true ↔ errs l = 0 ∧ ∀ b, rightB l b = true := by
  unfold chkB wrong
  by_cases h : errs l = 0
  · rw [if_pos h]
    simp only [h, decide_true, Bool.true_and, true_and, Bool.not_eq_true']
    have := lows_is (rightB l) (l.map (·.blk))
    rcases this with ⟨h1, h2⟩ | ⟨h1, h2, h3, h4⟩
    · rw [h1]
      simp only [true_iff]
      intro b
      cases hb : rightB l b with
      | true => rfl
      | false => have := h2 b (right_mem hb); rw [hb] at this; cases this
    · rw [h1]
      constructor
      · intro e; cases e
      · intro e; rw [e] at h3; cases h3
  · simp [h]
theorem errs_zero {l : List LOp} : errs l = 0 ↔ (∀ o ∈ l, o.bad = false) ∧ ∀ b, (cnt l b).length ≤ 9 := by
  unfold errs
  split
  · rename_i h
    simp only [List.any_eq_true] at h
    obtain ⟨o, ho, hb⟩ := h
    constructor
    · intro h; omega
    · intro h; rw [h.1 o ho] at hb; cases hb
  · rename_i h
    have hb : ∀ o ∈ l, o.bad = false := fun o ho => by
      cases e : o.bad with
      | false => rfl
      | true => exact absurd (List.any_eq_true.2 ⟨o, ho, e⟩) h
    split
    · rename_i h5
      simp only [List.any_eq_true, decide_eq_true_eq] at h5
      obtain ⟨o, ho, h9⟩ := h5
      constructor
      · intro h; omega
      · intro h; have := h.2 o.blk; omega
    · rename_i h5
      simp only [List.any_eq_true, decide_eq_true_eq, not_exists, not_and, Nat.not_lt] at h5
      refine ⟨fun _ => ⟨hb, fun b => ?_⟩, fun _ => rfl⟩
      rcases Classical.em (b ∈ l.map (·.blk)) with hm | hm
      · obtain ⟨o, ho, rfl⟩ := List.mem_map.1 hm
        exact h5 o ho
      · rw [cnt_nil_of (fun o ho e => hm (by rw [← e]; exact List.mem_map_of_mem (f := (·.blk)) ho))]
        simp
theorem errs_one {l : List LOp} : errs l = 1 ↔ ∃ o ∈ l, o.bad = true := by
  unfold errs
  split
  · rename_i h; simpa using h
  · rename_i h
    have : ¬ ∃ o ∈ l, o.bad = true := by simpa using h
    split <;> simp [this]
theorem errs_cases (l : List LOp) : errs l = 0 ∨ errs l = 1 ∨ errs l = 5 := by
  unfold errs; split
  · exact .inr (.inl rfl)
  · split
    · exact .inr (.inr rfl)
    · exact .inl rfl
theorem bad_false {o : LOp} : o.bad = false ↔ 1 ≤ o.fr ∧ (o.back = true → o.fr ≤ o.tt) := by
  unfold LOp.bad
  cases o.back <;> simp <;> omega
/-! LinTurned. -/
theorem cnt_perm {l m : List LOp} (h : l.Perm m) (b : Int) : (cnt l b).Perm (cnt m b) := h.filter _
theorem errs_perm {l m : List LOp} (h : l.Perm m) : errs l = 0 ↔ errs m = 0 := by
  rw [errs_zero, errs_zero]
  constructor
  · rintro ⟨h1, h2⟩
    exact ⟨fun o ho => h1 o (h.mem_iff.2 ho), fun b => by rw [← (cnt_perm h b).length_eq]; exact h2 b⟩
  · rintro ⟨h1, h2⟩
    exact ⟨fun o ho => h1 o (h.mem_iff.1 ho), fun b => by rw [(cnt_perm h b).length_eq]; exact h2 b⟩
theorem right_perm {l m : List LOp} (h : l.Perm m) (b : Int) : rightB l b = rightB m b := ord_perm (cnt_perm h b) none8
theorem turned {l m : List LOp} (h : l.Perm m) : chkB l = chkB m ∧ (errs l = 0 ↔ errs m = 0) ∧ wrong l = wrong m :=
  ⟨chk_ext (errs_perm h) (right_perm h), errs_perm h, wrong_ext (errs_perm h) (right_perm h)⟩
/-! LinApart. -/
def blkOf (l : List LOp) (b : Int) : List LOp := l.filter (fun o => decide (o.blk = b))
theorem cnt_blk (l : List LOp) (b c : Int) : cnt (blkOf l b) c = if c = b then cnt l b else [] := by
  unfold cnt blkOf
  rw [List.filter_filter]
  split
  · rename_i h
    subst h
    congr 1
    funext o
    simp only [LOp.at]
    cases o.never <;> simp
  · rename_i h
    rw [List.filter_eq_nil_iff]
    intro o ho
    simp only [LOp.at, Bool.and_eq_true, decide_eq_true_eq, not_and]
    intro h1 h2
    exact h (h1.2.symm.trans h2)
theorem errs_blk {l : List LOp} (h : errs l = 0) (b : Int) : errs (blkOf l b) = 0 := by
  rw [errs_zero] at h ⊢
  refine ⟨fun o ho => h.1 o (List.mem_filter.1 ho).1, fun c => ?_⟩
  rw [cnt_blk]
  split
  · exact h.2 b
  · simp
theorem right_blk (l : List LOp) (b c : Int) : rightB (blkOf l b) c = if c = b then rightB l b else true := by
  unfold rightB
  rw [cnt_blk]
  split
  · rfl
  · exact ord_nil _
theorem chk_blk {l : List LOp} (h : errs l = 0) (b : Int) : chkB (blkOf l b) = rightB l b := by
  rw [Bool.eq_iff_iff, chkB_iff]
  constructor
  · rintro ⟨_, h2⟩
    have := h2 b
    rwa [right_blk, if_pos rfl] at this
  · intro h2
    refine ⟨errs_blk h b, fun c => ?_⟩
    rw [right_blk]
    split
    · exact h2
    · rfl
theorem chk_wrong {l : List LOp} (h : errs l = 0) : chkB l = !(wrong l).2 := by
  unfold chkB; rw [h]; rfl
theorem all_low (R : Int → Bool) (l : List Int) : l.all R = !(lows R l).2 := by
  rcases lows_is R l with ⟨h1, h2⟩ | ⟨h1, h2, h3, h4⟩
  · rw [h1]
    simpa using h2
  · rw [h1]
    simp only [Bool.not_true]
    cases e : l.all R with
    | false => rfl
    | true => rw [List.all_eq_true.1 e _ h2] at h3; cases h3
/-! LinNothing. -/
theorem cnt_kept {l : List LOp} {p : LOp → Bool} (h : ∀ o, o.never = false → p o = true) (b : Int) : cnt (l.filter p) b = cnt l b := by
  unfold cnt
  rw [List.filter_filter]
  congr 1
  funext o
  unfold LOp.at
  cases e : o.never with
  | true => rfl
  | false => rw [h o e]; simp
theorem nothing {l : List LOp} {p : LOp → Bool} (h : ∀ o, o.never = false → p o = true) (he : errs l ≠ 1) : chkB l = chkB (l.filter p) ∧ errs l = errs (l.filter p) ∧ wrong l = wrong (l.filter p) := by
  have hb : ∀ o ∈ l, o.bad = false := fun o ho => by
    cases e : o.bad with
    | false => rfl
    | true => exact absurd (errs_one.2 ⟨o, ho, e⟩) he
  have hb' : ∀ o ∈ l.filter p, o.bad = false := fun o ho => hb o (List.mem_filter.1 ho).1
  have hr : ∀ b, rightB l b = rightB (l.filter p) b := fun b => by unfold rightB; rw [cnt_kept h]
  have h0 : errs l = 0 ↔ errs (l.filter p) = 0 := by
    rw [errs_zero, errs_zero]
    simp only [cnt_kept h]
    exact ⟨fun x => ⟨hb', x.2⟩, fun x => ⟨hb, x.2⟩⟩
  have h1 : errs (l.filter p) ≠ 1 := by
    rw [Ne, errs_one]
    rintro ⟨o, ho, e⟩
    rw [hb' o ho] at e; cases e
  refine ⟨chk_ext h0 hr, ?_, wrong_ext h0 hr⟩
  rcases errs_cases l with e | e | e <;> rcases errs_cases (l.filter p) with e' | e' | e' <;> rw [e, e'] <;> first | exact absurd e he | exact absurd e' h1 | skip
  · exact absurd (h0.1 e) (by omega)
  · exact absurd (h0.2 e') (by omega)
/-! LinMoves, LinLost. -/
structure Wider (o o' : LOp) : Prop where
  op : o'.op = o.op
  blk : o'.blk = o.blk
  data : o'.data = o.data
  back : o'.back = o.back
  e : o'.e = o.e
  rd : o'.rd = o.rd
  fr : o'.fr ≤ o.fr
  fr1 : 1 ≤ o.fr → 1 ≤ o'.fr
  tt : o.tt ≤ o'.tt
theorem Wider.refl (o : LOp) : Wider o o := ⟨rfl, rfl, rfl, rfl, rfl, rfl, Int.le_refl _, id, Int.le_refl _⟩
theorem Wider.sure {o o' : LOp} (h : Wider o o') : o'.sure = o.sure := by unfold LOp.sure; rw [h.back, h.e]
theorem Wider.at {o o' : LOp} (h : Wider o o') (b : Int) : o'.at b = o.at b := by unfold LOp.at LOp.never; rw [h.sure, h.back, h.e, h.op, h.blk]
theorem Wider.easier {o o' : LOp} (h : Wider o o') : Easier o o' := ⟨h.op, h.data, fun _ => h.rd, h.fr, h.tt, fun x => by rw [← h.sure]; exact x⟩
theorem cnt_map {α : Type} (f : α → LOp) (L : List α) (b : Int) : cnt (L.map f) b = (L.filter (fun p => (f p).at b)).map f := by
  unfold cnt
  rw [List.filter_map]
  rfl
theorem chk_pairs {α : Type} {f g : α → LOp} {L : List α} (hE : ∀ p ∈ L, Easier (f p) (g p)) (hA : ∀ p ∈ L, ∀ b, (g p).at b = (f p).at b) (hB : ∀ p ∈ L, (f p).bad = false → (g p).bad = false) (h : chkB (L.map f) = true) : chkB (L.map g) = true := by
  rw [chkB_iff, errs_zero] at h ⊢
  obtain ⟨⟨h1, h2⟩, h3⟩ := h
  have hc : ∀ b, cnt (L.map g) b = (L.filter (fun p => (f p).at b)).map g := fun b => by
    rw [cnt_map]
    congr 1
    apply List.filter_congr
    intro p hp
    rw [hA p hp]
  refine ⟨⟨fun o ho => ?_, fun b => ?_⟩, fun b => ?_⟩
  · obtain ⟨p, hp, rfl⟩ := List.mem_map.1 ho
    exact hB p hp (h1 _ (List.mem_map_of_mem hp))
  · rw [hc, List.length_map]
    have := h2 b
    rwa [cnt_map, List.length_map] at this
  · unfold rightB
    rw [hc]
    have := h3 b
    unfold rightB at this
    rw [cnt_map] at this
    exact ord_pairs (fun p hp => hE p (List.mem_filter.1 hp).1) this
theorem moves {α : Type} {f g : α → LOp} {L : List α} (hW : ∀ p ∈ L, Wider (f p) (g p)) (h : chkB (L.map f) = true) : chkB (L.map g) = true :=
  chk_pairs (fun p hp => (hW p hp).easier) (fun p hp b => (hW p hp).at b) (fun p hp hb => by
    have w := hW p hp
    rw [bad_false] at hb ⊢
    refine ⟨w.fr1 hb.1, fun hk => ?_⟩
    have := hb.2 (by rw [← w.back]; exact hk)
    have h1 := w.fr
    have h2 := w.tt
    omega) h
def LOp.lost (o : LOp) : LOp := { o with back := false }
theorem lost_read {x : LOp} {l : List LOp} (hx : x.op = 1) (h : chkB (x :: l) = true) : chkB l = true := by
  rw [chkB_iff, errs_zero] at h ⊢
  obtain ⟨⟨h1, h2⟩, h3⟩ := h
  have hc : ∀ b, cnt (x :: l) b = if x.at b = true then x :: cnt l b else cnt l b := fun b => by
    unfold cnt; rw [List.filter_cons]
  refine ⟨⟨fun o ho => h1 o (List.mem_cons_of_mem _ ho), fun b => ?_⟩, fun b => ?_⟩
  · have := h2 b
    rw [hc] at this
    split at this
    · simp at this; omega
    · exact this
  · have := h3 b
    unfold rightB at this ⊢
    rw [hc] at this
    split at this
    · exact ord_drop hx this
    · exact this
theorem lost_write {x : LOp} {l : List LOp} (hx : x.op ≠ 1) (hb : x.back = true → x.e = 0) (h : chkB (x :: l) = true) : chkB (x.lost :: l) = true := by
  have e1 : x :: l = ((x, x.lost) :: l.map (fun o => (o, o))).map Prod.fst := by rw [List.map_cons, List.map_map, show Prod.fst ∘ (fun o : LOp => (o, o)) = id from rfl, List.map_id]
  have e2 : x.lost :: l = ((x, x.lost) :: l.map (fun o => (o, o))).map Prod.snd := by rw [List.map_cons, List.map_map, show Prod.snd ∘ (fun o : LOp => (o, o)) = id from rfl, List.map_id]
  rw [e2]
  rw [e1] at h
  have hs : x.lost.sure = false := rfl
  have hn : x.lost.never = x.never := by
    unfold LOp.never
    rw [show x.lost.op = x.op from rfl, if_neg hx, if_neg hx, show x.lost.back = false from rfl]
    split
    · cases hk : x.back with
      | false => rfl
      | true => rw [hb hk]; rfl
    · rfl
  refine chk_pairs (fun p hp => ?_) (fun p hp b => ?_) (fun p hp hb => ?_) h
  · rcases List.mem_cons.1 hp with rfl | hp
    · exact ⟨rfl, rfl, fun _ => rfl, Int.le_refl _, Int.le_refl _, fun h => by cases h⟩
    · obtain ⟨o, _, rfl⟩ := List.mem_map.1 hp
      exact (Wider.refl o).easier
  · rcases List.mem_cons.1 hp with rfl | hp
    · show (!x.lost.never && _) = (!x.never && _)
      rw [hn]; rfl
    · obtain ⟨o, _, rfl⟩ := List.mem_map.1 hp
      rfl
  · rcases List.mem_cons.1 hp with rfl | hp
    · rw [bad_false] at hb ⊢
      exact ⟨hb.1, fun h => by cases h⟩
    · obtain ⟨o, _, rfl⟩ := List.mem_map.1 hp
      exact hb
/-! LinReads. -/
def wOp (data : ByteArray) : LOp := ⟨2, 5, data, 10, 20, true, 0, { data := #[] }⟩
def rOp (data : ByteArray) (p : Bool × Bool) : LOp := ⟨1, 5, { data := #[] }, if p.2 = true then 21 else 10, if p.2 = true then 30 else 20, true, 0, if p.1 = true then data else none8⟩
theorem wOp_at (data : ByteArray) (b : Int) : (wOp data).at b = decide (5 = b) := rfl
theorem rOp_at (data : ByteArray) (p : Bool × Bool) (b : Int) : (rOp data p).at b = decide (5 = b) := rfl
theorem rOp_sure (data : ByteArray) (p : Bool × Bool) : (rOp data p).sure = true := rfl
theorem cnt_reads (data : ByteArray) (ps : List (Bool × Bool)) (b : Int) : cnt (ps.map (rOp data)) b = if 5 = b then ps.map (rOp data) else [] := by
  unfold cnt
  split
  · rename_i h
    rw [List.filter_eq_self]
    intro o ho
    obtain ⟨p, _, rfl⟩ := List.mem_map.1 ho
    rw [rOp_at]; simp [h]
  · rename_i h
    rw [List.filter_eq_nil_iff]
    intro o ho
    obtain ⟨p, _, rfl⟩ := List.mem_map.1 ho
    rw [rOp_at]; simp [h]
theorem cnt_wr (data : ByteArray) (ps : List (Bool × Bool)) (b : Int) : cnt (wOp data :: ps.map (rOp data)) b = if 5 = b then wOp data :: ps.map (rOp data) else [] := by
  have := cnt_reads data ps b
  unfold cnt at this ⊢
  rw [List.filter_cons, wOp_at, this]
  by_cases h : 5 = b <;> simp [h]
theorem rOp_bad (data : ByteArray) (p : Bool × Bool) : (rOp data p).bad = false := by
  obtain ⟨p1, p2⟩ := p
  cases p2 <;> rfl
theorem errs_reads (data : ByteArray) (ps : List (Bool × Bool)) (h : ps.length ≤ 8) : errs (ps.map (rOp data)) = 0 ∧ errs (wOp data :: ps.map (rOp data)) = 0 := by
  rw [errs_zero, errs_zero]
  have hb : ∀ o ∈ ps.map (rOp data), o.bad = false := fun o ho => by
    obtain ⟨p, _, rfl⟩ := List.mem_map.1 ho
    exact rOp_bad data p
  refine ⟨⟨hb, fun b => ?_⟩, fun o ho => ?_, fun b => ?_⟩
  · rw [cnt_reads]; split <;> simp <;> omega
  · rcases List.mem_cons.1 ho with rfl | ho
    · rfl
    · exact hb o ho
  · rw [cnt_wr]; split <;> simp <;> omega
theorem chk_reads (data : ByteArray) (ps : List (Bool × Bool)) (h : ps.length ≤ 8) : chkB (ps.map (rOp data)) = ord (ps.map (rOp data)) none8 ∧ chkB (wOp data :: ps.map (rOp data)) = ord (wOp data :: ps.map (rOp data)) none8 := by
  obtain ⟨h1, h2⟩ := errs_reads data ps h
  refine ⟨Bool.eq_iff_iff.2 ?_, Bool.eq_iff_iff.2 ?_⟩
  · rw [chkB_iff]
    unfold rightB
    refine ⟨fun ⟨_, x⟩ => by have := x 5; rwa [cnt_reads, if_pos rfl] at this, fun x => ⟨h1, fun b => ?_⟩⟩
    rw [cnt_reads]
    split
    · exact x
    · rfl
  · rw [chkB_iff]
    unfold rightB
    refine ⟨fun ⟨_, x⟩ => by have := x 5; rwa [cnt_wr, if_pos rfl] at this, fun x => ⟨h2, fun b => ?_⟩⟩
    rw [cnt_wr]
    split
    · exact x
    · rfl
/-- Reads alone, in an order: all tell what is there. -/
theorem lin_reads : ∀ (s r : List LOp) (d : ByteArray), (∀ o ∈ s ++ r, o.op = 1 ∧ o.sure = true) → Lin d s r → ∀ o ∈ s ++ r, o.rd = d
  | [], r, d, h, hl => fun o ho => by
    have h1 := (h o ho).2
    have h2 : o.sure = false := hl o ho
    rw [h2] at h1; cases h1
  | x :: s, r, d, h, hl => fun o ho => by
    obtain ⟨h1, h2, h3⟩ := hl
    have hx := (h x (by simp)).1
    have e : x.nxt d = d := by unfold LOp.nxt; rw [if_pos hx]
    rw [e] at h3
    have ho : o ∈ x :: (s ++ r) := ho
    rcases List.mem_cons.1 ho with rfl | ho
    · exact h2 hx
    · exact lin_reads s r d (fun o ho => h o (List.mem_cons_of_mem _ ho)) h3 o ho
theorem fit_same : ∀ (s : List LOp) (d : ByteArray), (∀ o ∈ s, o.op = 1 ∧ o.rd = d) → fit d s ∧ play d s = d
  | [], d, h => ⟨trivial, rfl⟩
  | x :: s, d, h => by
    have hx := h x (by simp)
    have e : x.nxt d = d := by unfold LOp.nxt; rw [if_pos hx.1]
    have := fit_same s d (fun o ho => h o (List.mem_cons_of_mem _ ho))
    refine ⟨⟨fun _ => hx.2, by rw [e]; exact this.1⟩, ?_⟩
    show play (x.nxt d) s = d
    rw [e]; exact this.2
theorem ahd_rr (data : ByteArray) (p q : Bool × Bool) : ahd (rOp data p) (rOp data q) = (!p.2 && q.2) := by
  obtain ⟨p1, p2⟩ := p
  obtain ⟨q1, q2⟩ := q
  cases p2 <;> cases q2 <;> rfl
theorem ahd_wr (data : ByteArray) (p : Bool × Bool) : ahd (wOp data) (rOp data p) = p.2 ∧ ahd (rOp data p) (wOp data) = false := by
  obtain ⟨p1, p2⟩ := p
  cases p2 <;> exact ⟨rfl, rfl⟩
/-- Sorted: those that aren't late ahead of those that are. -/
def lateS (ps : List (Bool × Bool)) : List (Bool × Bool) := ps.filter (fun p => !p.2) ++ ps.filter (fun p => p.2)
theorem split_perm {α : Type} (f : α → Bool) (l : List α) : l.Perm (l.filter f ++ l.filter (fun x => !f x)) := (List.filter_append_perm f l).symm
theorem lateS_perm (ps : List (Bool × Bool)) : ps.Perm (lateS ps) := by
  have := split_perm (fun p : Bool × Bool => !p.2) ps
  simpa [lateS] using this
theorem lateS_pair (data : ByteArray) (ps : List (Bool × Bool)) : ((lateS ps).map (rOp data)).Pairwise (fun o x => ahd x o = false) := by
  rw [List.pairwise_map]
  unfold lateS
  rw [List.pairwise_append]
  refine ⟨?_, ?_, ?_⟩
  · refine List.Pairwise.imp_of_mem (R := fun _ _ => True) (fun ha hb _ => ?_) (List.pairwise_of_forall (fun _ _ => trivial))
    rw [ahd_rr]
    have := (List.mem_filter.1 ha).2
    simp at this
    simp [this]
  · refine List.Pairwise.imp_of_mem (R := fun _ _ => True) (fun ha hb _ => ?_) (List.pairwise_of_forall (fun _ _ => trivial))
    rw [ahd_rr]
    have := (List.mem_filter.1 hb).2
    simp [this]
  · intro a ha b hb
    rw [ahd_rr]
    have := (List.mem_filter.1 hb).2
    simp [this]
theorem ne_none {data : ByteArray} (hd : data ≠ none8) (p : Bool × Bool) : (rOp data p).rd = none8 ↔ p.1 = false := by
  obtain ⟨p1, p2⟩ := p
  cases p1
  · exact ⟨fun _ => rfl, fun _ => rfl⟩
  · exact ⟨fun h => absurd h hd, fun h => by cases h⟩
theorem reads_alone {data : ByteArray} (hd : data ≠ none8) (ps : List (Bool × Bool)) (h : ps.length ≤ 8) : chkB (ps.map (rOp data)) = ps.all (fun p => !p.1) := by
  rw [(chk_reads data ps h).1, Bool.eq_iff_iff, List.all_eq_true]
  constructor
  · intro ho p hp
    obtain ⟨s, r, hs, hl⟩ := (ord_iff _ _).1 ho
    have hm : ∀ o ∈ s ++ r, o.op = 1 ∧ o.sure = true := fun o ho => by
      obtain ⟨q, _, rfl⟩ := List.mem_map.1 (hs.mem_iff.2 ho)
      exact ⟨rfl, rOp_sure _ _⟩
    have := lin_reads s r none8 hm hl (rOp data p) (hs.mem_iff.1 (List.mem_map_of_mem hp))
    rw [ne_none hd] at this
    rw [this]; rfl
  · intro ha
    refine ord_of ((lateS_perm ps).map (rOp data)) (lateS_pair data ps) (fit_same _ _ (fun o ho => ?_)).1
    obtain ⟨q, hq, rfl⟩ := List.mem_map.1 ho
    have := ha q ((lateS_perm ps).mem_iff.2 hq)
    exact ⟨rfl, (ne_none hd q).2 (by simpa using this)⟩
/-- The write among reads: whoever is late tells its bytes. -/
theorem lin_wr {data : ByteArray} (hd : data ≠ none8) : ∀ (s r : List LOp) (ps : List (Bool × Bool)), (s ++ r).Perm (wOp data :: ps.map (rOp data)) → Lin none8 s r → ∀ p ∈ ps, p.2 = true → p.1 = true
  | [], r, ps, h, hl => by
    have : (wOp data).sure = false := hl _ (h.mem_iff.2 (by simp))
    cases this
  | x :: s, r, ps, h, hl => by
    obtain ⟨h1, h2, h3⟩ := hl
    have hx : x ∈ wOp data :: ps.map (rOp data) := h.mem_iff.1 (by simp)
    rcases List.mem_cons.1 hx with rfl | hx
    · intro p hp hp2
      have hp' : (s ++ r).Perm (ps.map (rOp data)) := List.Perm.cons_inv h
      have hm : ∀ o ∈ s ++ r, o.op = 1 ∧ o.sure = true := fun o ho => by
        obtain ⟨q, _, rfl⟩ := List.mem_map.1 (hp'.mem_iff.1 ho)
        exact ⟨rfl, rOp_sure _ _⟩
      have := lin_reads s r data hm h3 (rOp data p) (hp'.mem_iff.2 (List.mem_map_of_mem hp))
      cases e : p.1 with
      | true => rfl
      | false => have e2 := (ne_none hd p).2 e; rw [this] at e2; exact absurd e2 hd
    · obtain ⟨q, hq, rfl⟩ := List.mem_map.1 hx
      obtain ⟨qs, hqs⟩ := picks_mem hq
      have hqp := picks_perm hqs
      have hp' : (s ++ r).Perm (wOp data :: qs.map (rOp data)) := by
        have e1 : (rOp data q :: (s ++ r)).Perm (rOp data q :: wOp data :: qs.map (rOp data)) :=
          h.trans (((hqp.map (rOp data)).cons _).trans (.swap _ _ _))
        exact List.Perm.cons_inv e1
      have hw := h1 (wOp data) (hp'.mem_iff.2 (by simp))
      rw [(ahd_wr data q).1] at hw
      have e : (rOp data q).nxt none8 = none8 := rfl
      rw [e] at h3
      have ih := lin_wr hd s r qs hp' h3
      intro p hp hp2
      rcases List.mem_cons.1 (hqp.mem_iff.1 hp) with e | hp
      · have e : p = q := e
        subst e
        rw [hw] at hp2; cases hp2
      · exact ih p hp hp2
theorem reads_wr {data : ByteArray} (hd : data ≠ none8) (ps : List (Bool × Bool)) (h : ps.length ≤ 8) : chkB (wOp data :: ps.map (rOp data)) = ps.all (fun p => !p.2 || p.1) := by
  rw [(chk_reads data ps h).2, Bool.eq_iff_iff, List.all_eq_true]
  constructor
  · intro ho p hp
    obtain ⟨s, r, hs, hl⟩ := (ord_iff _ _).1 ho
    have := lin_wr hd s r ps hs.symm hl p hp
    cases e : p.2 with
    | false => rfl
    | true => rw [this e]; rfl
  · intro ha
    -- those that tell none, the write, then the others, the late ones last
    have hsp := split_perm (fun p : Bool × Bool => !p.1) ps
    simp only [Bool.not_not] at hsp
    have ht := lateS_perm (ps.filter (fun p => p.1))
    have hne : ∀ p ∈ ps.filter (fun p => !p.1), p.1 = false ∧ p.2 = false := fun p hp => by
      obtain ⟨h1, h2⟩ := List.mem_filter.1 hp
      have := ha p h1
      simp at h2
      rw [h2] at this
      simp at this
      exact ⟨h2, this⟩
    refine ord_of (s := (ps.filter (fun p => !p.1)).map (rOp data) ++ wOp data :: (lateS (ps.filter (fun p => p.1))).map (rOp data)) ?_ ?_ ?_
    · have h1 : ps.Perm (ps.filter (fun p => !p.1) ++ lateS (ps.filter (fun p => p.1))) := hsp.trans (ht.append_left _)
      have h2 := (h1.map (rOp data)).cons (wOp data)
      rw [List.map_append] at h2
      exact h2.trans List.perm_middle.symm
    · rw [List.pairwise_append]
      refine ⟨?_, ?_, ?_⟩
      · rw [List.pairwise_map]
        refine List.Pairwise.imp_of_mem (R := fun _ _ => True) (fun ha hb _ => ?_) (List.pairwise_of_forall (fun _ _ => trivial))
        rw [ahd_rr, (hne _ ha).2]; simp
      · rw [List.pairwise_cons]
        refine ⟨fun x hx => ?_, lateS_pair data _⟩
        obtain ⟨q, _, rfl⟩ := List.mem_map.1 hx
        exact (ahd_wr data q).2
      · intro o ho x hx
        obtain ⟨q, hq, rfl⟩ := List.mem_map.1 ho
        rcases List.mem_cons.1 hx with rfl | hx
        · rw [(ahd_wr data q).1]; exact (hne q hq).2
        · obtain ⟨z, _, rfl⟩ := List.mem_map.1 hx
          rw [ahd_rr, (hne q hq).2]; simp
    · obtain ⟨f1, f2⟩ := fit_same ((ps.filter (fun p => !p.1)).map (rOp data)) none8 (fun o ho => by
        obtain ⟨q, hq, rfl⟩ := List.mem_map.1 ho
        exact ⟨rfl, (ne_none hd q).2 (hne q hq).1⟩)
      rw [fit_append, f2]
      refine ⟨f1, (show (2 : Int) = 1 → _ from fun h => absurd h (by decide)), (fit_same _ data (fun o ho => ?_)).1⟩
      obtain ⟨q, hq, rfl⟩ := List.mem_map.1 ho
      have := (List.mem_filter.1 (ht.mem_iff.2 hq)).2
      refine ⟨rfl, ?_⟩
      show (if q.1 = true then data else none8) = data
      rw [if_pos this]
/-! LinMade. -/
abbrev noB : ByteArray := { data := #[] }
def cur (A : Int → ByteArray) (b : Int) : ByteArray := if A b = noB then none8 else A b
def putA (A : Int → ByteArray) (b : Int) (s : ByteArray) : Int → ByteArray := fun c => if c = b then s else A c
/-- What call number k was, and what stands then. -/
def madeOp (A : Int → ByteArray) (k : Nat) (op blk : Int) (data : ByteArray) (bf bh : Int) (back : Bool) : LOp :=
  ⟨op, blk, data, ((k : Int) + 1) * 1000 - bf, ((k : Int) + 1) * 1000 + bh * 9, back, 0, if op = 1 then cur A blk else noB⟩
def madeA (A : Int → ByteArray) (op blk : Int) (data : ByteArray) : Int → ByteArray := if op = 2 then putA A blk data else if op = 3 then putA A blk noB else A
structure Made (l : List LOp) (A : Int → ByteArray) (k : Nat) : Prop where
  len : l.length = k
  bad : ∀ o ∈ l, o.bad = false
  fr : ∀ o ∈ l, o.fr ≤ 1000 * (k : Int)
  blk : ∀ b, (cnt l b).Pairwise (fun o x => ahd x o = false) ∧ fit none8 (cnt l b) ∧ play none8 (cnt l b) = cur A b
theorem Made.start : Made [] (fun _ => noB) 0 := ⟨rfl, fun o h => (by cases h), fun o h => (by cases h), fun b => ⟨.nil, trivial, rfl⟩⟩
theorem Made.step {l : List LOp} {A : Int → ByteArray} {k : Nat} (h : Made l A k) (op blk : Int) (data : ByteArray) (bf bh : Int) (back : Bool) (h1 : 0 ≤ bf ∧ bf ≤ 255) (h2 : 0 ≤ bh) (h3 : op = 2 → data ≠ noB) :
    Made (l ++ [madeOp A k op blk data bf bh back]) (madeA A op blk data) (k + 1) := by
  obtain ⟨o, ho⟩ : ∃ o, madeOp A k op blk data bf bh back = o := ⟨_, rfl⟩
  have e1 : o.op = op := by rw [← ho]; rfl
  have e2 : o.blk = blk := by rw [← ho]; rfl
  have e3 : o.fr = ((k : Int) + 1) * 1000 - bf := by rw [← ho]; rfl
  have e4 : o.tt = ((k : Int) + 1) * 1000 + bh * 9 := by rw [← ho]; rfl
  have e5 : o.e = 0 := by rw [← ho]; rfl
  have e6 : o.rd = if op = 1 then cur A blk else noB := by rw [← ho]; rfl
  have e7 : o.data = data := by rw [← ho]; rfl
  rw [ho]
  refine ⟨by simp [h.len], fun x hx => ?_, fun x hx => ?_, fun b => ?_⟩
  · rcases List.mem_append.1 hx with hx | hx
    · exact h.bad x hx
    · obtain rfl : x = o := by simpa using hx
      rw [bad_false]
      omega
  · rcases List.mem_append.1 hx with hx | hx
    · have := h.fr x hx; push_cast; omega
    · obtain rfl : x = o := by simpa using hx
      push_cast; omega
  · obtain ⟨h4, h5, h6⟩ := h.blk b
    have hc : cnt (l ++ [o]) b = cnt l b ++ if o.at b = true then [o] else [] := by
      unfold cnt; rw [List.filter_append, List.filter_cons, List.filter_nil]
    rw [hc]
    cases ha : o.at b with
    | false =>
      simp only [Bool.false_eq_true, if_false, List.append_nil]
      refine ⟨h4, h5, ?_⟩
      rw [h6]
      unfold LOp.at at ha
      unfold madeA
      by_cases hb : blk = b
      · rw [e2, decide_eq_true hb, Bool.and_true, Bool.not_eq_false'] at ha
        unfold LOp.never at ha
        rw [e1, e5] at ha
        by_cases q2 : op = 2
        · exfalso
          rw [if_neg (by omega), if_pos (.inl q2)] at ha
          simp [refused] at ha
        · by_cases q3 : op = 3
          · exfalso
            rw [if_neg (by omega), if_pos (.inr q3)] at ha
            simp [refused] at ha
          · rw [if_neg q2, if_neg q3]
      · have hb' : ¬ b = blk := fun h => hb h.symm
        have hA : (if op = 2 then putA A blk data else if op = 3 then putA A blk noB else A) b = A b := by
          unfold putA
          split
          · simp only [if_neg hb']
          · split
            · simp only [if_neg hb']
            · rfl
        unfold cur
        rw [hA]
    | true =>
      simp only [if_true]
      unfold LOp.at at ha
      simp only [Bool.and_eq_true, Bool.not_eq_true', decide_eq_true_eq] at ha
      obtain ⟨hn, hb⟩ := ha
      rw [e2] at hb
      subst hb
      refine ⟨?_, ?_, ?_⟩
      · rw [List.pairwise_append]
        refine ⟨h4, by simp, fun x hx y hy => ?_⟩
        obtain rfl : y = o := by simpa using hy
        have := h.fr x (List.mem_filter.1 hx).1
        unfold ahd
        rw [decide_eq_false (by omega), Bool.and_false]
      · rw [fit_append]
        refine ⟨h5, fun hq => ?_, trivial⟩
        rw [h6, e6, if_pos (by rw [← e1]; exact hq)]
      · rw [play_append, h6]
        show o.nxt (cur A blk) = _
        unfold LOp.nxt madeA
        rw [e1]
        by_cases q1 : op = 1
        · rw [if_pos q1, if_neg (by omega), if_neg (by omega)]
        rw [if_neg q1]
        by_cases q2 : op = 2
        · rw [if_pos q2, if_pos q2, e7]
          unfold cur putA
          simp only [if_true]
          rw [if_neg (h3 q2)]
        rw [if_neg q2, if_neg q2]
        by_cases q3 : op = 3
        · rw [if_pos q3]
          unfold cur putA
          simp only [if_true]
        · exfalso
          unfold LOp.never at hn
          rw [e1, if_neg q1, if_neg (by omega)] at hn
          cases hn
theorem Made.right {l : List LOp} {A : Int → ByteArray} {k : Nat} (h : Made l A k) (hk : k ≤ 9) : chkB l = true := by
  rw [chkB_iff, errs_zero]
  refine ⟨⟨h.bad, fun b => ?_⟩, fun b => ?_⟩
  · have := List.length_filter_le (fun o : LOp => o.at b) l
    have := h.len
    unfold cnt; omega
  · obtain ⟨h4, h5, _⟩ := h.blk b
    exact ord_of (.refl _) h4 h5
/-! Those that aren't done, told by bits. -/
def leftM : List LOp → Nat → List LOp
  | [], _ => []
  | x :: l, m => (if m % 2 = 1 then [] else [x]) ++ leftM l (m / 2)
theorem leftM_zero : ∀ l : List LOp, leftM l 0 = l
  | [] => rfl
  | x :: l => by simp [leftM, leftM_zero l]
theorem mem_leftM {x : LOp} : ∀ {l : List LOp} {m : Nat}, x ∈ leftM l m ↔ ∃ i, l[i]? = some x ∧ m.testBit i = false
  | [], m => by simp [leftM]
  | y :: l, m => by
    simp only [leftM, List.mem_append, mem_leftM (l := l)]
    constructor
    · rintro (h | ⟨i, h1, h2⟩)
      · split at h
        · cases h
        · rename_i hm
          obtain rfl : x = y := by simpa using h
          exact ⟨0, rfl, by rw [Nat.testBit_zero]; simpa using hm⟩
      · exact ⟨i + 1, by simpa using h1, by rw [Nat.testBit_succ]; exact h2⟩
    · rintro ⟨i, h1, h2⟩
      cases i with
      | zero =>
        rw [Nat.testBit_zero] at h2
        have h1 : y = x := by simpa using h1
        left
        rw [if_neg (by simpa using h2), h1]
        simp
      | succ i => exact .inr ⟨i, by simpa using h1, by rw [Nat.testBit_succ] at h2; exact h2⟩
theorem leftM_pick : ∀ {l : List LOp} {m i : Nat} {o : LOp}, l[i]? = some o → m.testBit i = false → (leftM l m).Perm (o :: leftM l (m ||| 2 ^ i))
  | [], m, i, o, h, _ => by simp at h
  | y :: l, m, 0, o, h, hb => by
    have h : y = o := by simpa using h
    rw [Nat.testBit_zero] at hb
    have h1 : ¬ m % 2 = 1 := by simpa using hb
    have h2 : (m ||| 2 ^ 0) % 2 = 1 := by
      have := Nat.testBit_zero (m ||| 2 ^ 0)
      rw [Nat.testBit_or, Nat.pow_zero] at this
      simp at this ⊢
    have h3 : (m ||| 2 ^ 0) / 2 = m / 2 := by rw [Nat.or_div_two]; simp
    simp only [leftM]
    rw [if_neg h1, if_pos h2, h3, h]
    exact .refl _
  | y :: l, m, i + 1, o, h, hb => by
    have h : l[i]? = some o := by simpa using h
    rw [Nat.testBit_succ] at hb
    have h2 : (m ||| 2 ^ (i + 1)) % 2 = m % 2 := by
      have e1 := Nat.testBit_zero (m ||| 2 ^ (i + 1))
      have e2 := Nat.testBit_zero m
      rw [Nat.testBit_or, e2] at e1
      have e3 : (2 ^ (i + 1)).testBit 0 = false := by rw [Nat.testBit_zero]; simp [Nat.pow_succ]
      rw [e3, Bool.or_false] at e1
      have := of_decide_eq_true (p := (m % 2 = 1 ↔ (m ||| 2 ^ (i + 1)) % 2 = 1)) (by rw [decide_eq_decide] at e1; exact decide_eq_true e1)
      omega
    have h3 : (m ||| 2 ^ (i + 1)) / 2 = m / 2 ||| 2 ^ i := by rw [Nat.or_div_two, Nat.pow_succ, Nat.mul_div_cancel _ (by decide)]
    simp only [leftM]
    rw [h2, h3]
    have ih := leftM_pick h hb
    split
    · simpa using ih
    · exact (ih.cons y).trans (.swap _ _ _)
theorem testBit_or_pow (m i k : Nat) : (m ||| 2 ^ i).testBit k = (m.testBit k || decide (i = k)) := by
  rw [Nat.testBit_or, Nat.testBit_two_pow]
theorem ordM_iff (l : List LOp) (m : Nat) (d : ByteArray) : ord (leftM l m) d = true ↔
    (∀ (i : Nat) (o : LOp), l[i]? = some o → m.testBit i = false → o.sure = false) ∨
    ∃ (i : Nat) (o : LOp), l[i]? = some o ∧ m.testBit i = false ∧ (∀ (k : Nat) (x : LOp), l[k]? = some x → m.testBit k = false → k ≠ i → ahd x o = false) ∧ o.fits d = true ∧ ord (leftM l (m ||| 2 ^ i)) (o.nxt d) = true := by
  rw [ord_unfold]
  simp only [Bool.or_eq_true, List.all_eq_true, List.any_eq_true, Bool.and_eq_true, Bool.not_eq_true']
  constructor
  · rintro (h | ⟨p, hp, ⟨h1, h2⟩, h3⟩)
    · exact .inl fun i o h1 h2 => h o (mem_leftM.2 ⟨i, h1, h2⟩)
    · have hpm := picks_perm hp
      obtain ⟨i, h4, h5⟩ := mem_leftM.1 (hpm.mem_iff.2 (List.mem_cons_self ..))
      have h6 := List.Perm.cons_inv ((leftM_pick h4 h5).symm.trans hpm)
      refine .inr ⟨i, p.1, h4, h5, fun k x hx hk hne => h1 x (h6.mem_iff.1 (mem_leftM.2 ⟨k, hx, ?_⟩)), h2, ?_⟩
      · rw [testBit_or_pow, hk, decide_eq_false (fun h => hne h.symm)]; rfl
      · rw [ord_perm h6]; exact h3
  · rintro (h | ⟨i, o, h4, h5, h1, h2, h3⟩)
    · refine .inl fun x hx => ?_
      obtain ⟨i, h1, h2⟩ := mem_leftM.1 hx
      exact h i x h1 h2
    · obtain ⟨r, hr⟩ := picks_mem (mem_leftM.2 ⟨i, h4, h5⟩)
      have hpm := picks_perm hr
      have h6 := List.Perm.cons_inv ((leftM_pick h4 h5).symm.trans hpm)
      refine .inr ⟨(o, r), hr, ⟨fun x hx => ?_, h2⟩, ?_⟩
      · obtain ⟨k, h7, h8⟩ := mem_leftM.1 (h6.mem_iff.2 hx)
        rw [testBit_or_pow, Bool.or_eq_false_iff] at h8
        exact h1 k x h7 h8.1 (fun e => by rw [e, decide_eq_true rfl] at h8; cases h8.2)
      · rw [← ord_perm h6]; exact h3
end Go.Proofs.Ytkajkomljgdghaa
