/- The plain side of package lease: what its functions compute, over numbers and lists. No condition. -/
namespace Go.Proofs.Ytppbjcjnheamnaa
/-- How far above its least a clock is behind one tick more. -/
def stepA (d : Int) (fast t : Bool) (x : Int) : Int := if t = fast then x + (1000 - d) else x - (1000 + d)
/-- One clock ahead of the other: how far above its least, and the ticks to come. -/
def ahead (d : Int) (fast : Bool) : List Bool → Int → Bool
  | [], _ => true
  | t :: ts, x => decide (stepA d fast t x ≤ 1000 + d) && ahead d fast ts (max (stepA d fast t x) 0)

theorem ahead_cons {d x : Int} {fast t : Bool} {ts : List Bool} : ahead d fast (t :: ts) x = true ↔ stepA d fast t x ≤ 1000 + d ∧ ahead d fast ts (max (stepA d fast t x) 0) = true := by
  simp [ahead]
theorem ahead_no {d x y : Int} {fast t : Bool} {ts : List Bool} (hy : stepA d fast t x = y) (h : 1000 + d < y) : ahead d fast (t :: ts) x = false := by
  simp only [ahead, hy]
  rw [show decide (y ≤ 1000 + d) = false by simpa using h]
  rfl
theorem ahead_on {d x y z : Int} {fast t : Bool} {ts : List Bool} (hy : stepA d fast t x = y) (h : ¬ 1000 + d < y) (hz : max y 0 = z) : ahead d fast (t :: ts) x = ahead d fast ts z := by
  simp only [ahead, hy]
  rw [show decide (y ≤ 1000 + d) = true by simpa using h, hz]
  rfl

def inD (d : Int) : Bool := decide (0 ≤ d) && decide (d < 1000)
def tog (xs : List Bool) (d : Int) : Bool := inD d && (ahead d true xs 0 && ahead d false xs 0)
def waitV (n d : Int) : Int := n * (1000 + d) / (1000 - d) + 1
def waitOk (n d : Int) : Bool := decide (0 ≤ n) && (decide (n ≤ 1099511627776) && (decide (0 ≤ d) && decide (d < 1000)))

theorem inD_iff {d : Int} : inD d = true ↔ 0 ≤ d ∧ d < 1000 := by simp [inD]
theorem waitOk_iff {n d : Int} : waitOk n d = true ↔ 0 ≤ n ∧ n ≤ 1099511627776 ∧ 0 ≤ d ∧ d < 1000 := by simp [waitOk]

theorem waitV_ge {n d : Int} (h0 : 0 ≤ n) (h2 : 0 ≤ d) (h3 : d < 1000) : n + 1 ≤ waitV n d := by
  unfold waitV
  have : n ≤ n * (1000 + d) / (1000 - d) := by
    rw [Int.le_ediv_iff_mul_le (by omega)]
    exact Int.mul_le_mul_of_nonneg_left (by omega) h0
  omega
theorem waitV_le {n d : Int} (h0 : 0 ≤ n) (h1 : n ≤ 1099511627776) (h2 : 0 ≤ d) (h3 : d < 1000) : waitV n d ≤ 1099511627776 * 2000 + 1 := by
  unfold waitV
  have a0 : 0 ≤ n * (1000 + d) := Int.mul_nonneg h0 (by omega)
  have a1 : n * (1000 + d) ≤ 1099511627776 * 2000 := Int.mul_le_mul h1 (by omega) (by omega) (by omega)
  have b1 : n * (1000 + d) / (1000 - d) ≤ n * (1000 + d) := Int.ediv_le_self _ a0
  omega
theorem waitV_zero (n : Int) : waitV n 0 = n + 1 := by
  unfold waitV
  rw [show (1000 : Int) + 0 = 1000 from rfl, show (1000 : Int) - 0 = 1000 from rfl, Int.mul_ediv_cancel _ (by decide)]
theorem waitV_mono {n m d f : Int} (h0 : 0 ≤ n) (hd : 0 ≤ d) (hf : f < 1000) (hn : n ≤ m) (hdf : d ≤ f) : waitV n d ≤ waitV m f := by
  unfold waitV
  have h1 : n * (1000 + d) ≤ m * (1000 + f) := Int.mul_le_mul hn (by omega) (by omega) (by omega)
  have a0 : 0 ≤ n * (1000 + d) := Int.mul_nonneg h0 (by omega)
  have : n * (1000 + d) / (1000 - d) ≤ m * (1000 + f) / (1000 - f) := by
    rw [Int.le_ediv_iff_mul_le (by omega)]
    have q0 : 0 ≤ n * (1000 + d) / (1000 - d) := Int.ediv_nonneg a0 (by omega)
    have h2 : n * (1000 + d) / (1000 - d) * (1000 - f) ≤ n * (1000 + d) / (1000 - d) * (1000 - d) := Int.mul_le_mul_of_nonneg_left (by omega) q0
    have h3 : n * (1000 + d) / (1000 - d) * (1000 - d) ≤ n * (1000 + d) := Int.ediv_mul_le _ (by omega)
    omega
  omega
theorem waitV_adds {n m d : Int} (h2 : 0 ≤ d) (h3 : d < 1000) : waitV (n + m) d ≤ waitV n d + waitV m d ∧ waitV n d + waitV m d - 1 ≤ waitV (n + m) d := by
  unfold waitV
  have e : (n + m) * (1000 + d) = n * (1000 + d) + m * (1000 + d) := Int.add_mul ..
  rw [e]
  generalize n * (1000 + d) = x
  generalize m * (1000 + d) = y
  have hk : (0 : Int) < 1000 - d := by omega
  generalize 1000 - d = k at hk
  have x1 := Int.emod_add_mul_ediv x k
  have x2 := Int.emod_nonneg x (show k ≠ 0 by omega)
  have x3 := Int.emod_lt_of_pos x hk
  have y1 := Int.emod_add_mul_ediv y k
  have y2 := Int.emod_nonneg y (show k ≠ 0 by omega)
  have y3 := Int.emod_lt_of_pos y hk
  have lo : x / k + y / k ≤ (x + y) / k := by
    rw [Int.le_ediv_iff_mul_le hk, Int.add_mul, Int.mul_comm (x / k), Int.mul_comm (y / k)]
    omega
  have hi : (x + y) / k < x / k + y / k + 2 := by
    rw [Int.ediv_lt_iff_lt_mul hk, Int.add_mul, Int.add_mul, Int.mul_comm (x / k), Int.mul_comm (y / k)]
    omega
  omega

/-! Clocks -/
theorem stepA_le {d f x y : Int} {fast t : Bool} (hdf : d ≤ f) (hxy : y ≤ x) : stepA f fast t y ≤ stepA d fast t x := by
  unfold stepA; split <;> omega
theorem ahead_mono {d f : Int} {fast : Bool} (hdf : d ≤ f) : ∀ (ts : List Bool) (x y : Int), y ≤ x → ahead d fast ts x = true → ahead f fast ts y = true
  | [], _, _, _, _ => rfl
  | t :: ts, x, y, hxy, h => by
    rw [ahead_cons] at h ⊢
    have := stepA_le (fast := fast) (t := t) hdf hxy
    exact ⟨by omega, ahead_mono hdf ts _ _ (by omega) h.2⟩
theorem ahead_take {d : Int} {fast : Bool} : ∀ (ts : List Bool) (n : Nat) (x : Int), ahead d fast ts x = true → ahead d fast (ts.take n) x = true
  | [], n, _, _ => by simp [ahead]
  | t :: ts, 0, _, _ => by simp [ahead]
  | t :: ts, n + 1, x, h => by
    rw [List.take_succ_cons]
    rw [ahead_cons] at h ⊢
    exact ⟨h.1, ahead_take ts n _ h.2⟩
theorem ahead_drop {d : Int} {fast : Bool} : ∀ (n : Nat) (ts : List Bool) (x : Int), 0 ≤ x → ahead d fast ts x = true → ahead d fast (ts.drop n) 0 = true
  | 0, ts, x, hx, h => by simpa using ahead_mono (Int.le_refl d) ts x 0 hx h
  | n + 1, [], _, _, _ => by simp [ahead]
  | n + 1, t :: ts, x, hx, h => by
    rw [ahead_cons] at h
    exact ahead_drop n ts _ (by omega) h.2
theorem ahead_not {d : Int} {fast : Bool} : ∀ (ts : List Bool) (x : Int), ahead d fast (ts.map (!·)) x = ahead d (!fast) ts x
  | [], _ => rfl
  | t :: ts, x => by
    simp only [ahead, List.map_cons]
    rw [show stepA d fast (!t) x = stepA d (!fast) t x by unfold stepA; cases t <;> cases fast <;> rfl, ahead_not ts]
theorem tog_not (ts : List Bool) (d : Int) : tog (ts.map (!·)) d = tog ts d := by
  unfold tog
  rw [ahead_not, ahead_not, Bool.and_comm (ahead d (!true) ts 0)]
  rfl
theorem tog_part (ts : List Bool) (d : Int) (a b : Nat) (h : tog ts d = true) : tog ((ts.drop a).take b) d = true := by
  unfold tog at h ⊢
  simp only [Bool.and_eq_true] at h ⊢
  obtain ⟨h1, h2, h3⟩ := h
  exact ⟨h1, ahead_take _ _ _ (ahead_drop _ _ 0 (Int.le_refl _) h2), ahead_take _ _ _ (ahead_drop _ _ 0 (Int.le_refl _) h3)⟩
theorem tog_more (ts : List Bool) (d f : Int) (hf : f ≤ 999) (hdf : d ≤ f) (h : tog ts d = true) : tog ts f = true := by
  unfold tog at h ⊢
  simp only [Bool.and_eq_true] at h ⊢
  obtain ⟨h1, h2, h3⟩ := h
  have := inD_iff.1 h1
  exact ⟨inD_iff.2 (by omega), ahead_mono hdf _ _ _ (Int.le_refl _) h2, ahead_mono hdf _ _ _ (Int.le_refl _) h3⟩
/-- Ticks in turn. -/
def turns : Nat → Bool → List Bool
  | 0, _ => []
  | n + 1, b => b :: turns n !b
theorem turns_length : ∀ (n : Nat) (b : Bool), (turns n b).length = n
  | 0, _ => rfl
  | n + 1, b => by simp [turns, turns_length n]
theorem ahead_turns {d : Int} {fast : Bool} (h0 : 0 ≤ d) : ∀ (n : Nat) (b : Bool) (x : Int), 0 ≤ x → x ≤ 1000 - d → (b = fast → x = 0) → ahead d fast (turns n b) x = true
  | 0, _, _, _, _, _ => rfl
  | n + 1, b, x, hx0, hx1, hb => by
    simp only [turns, ahead_cons]
    by_cases e : b = fast
    · have := hb e
      rw [stepA, if_pos e]
      exact ⟨by omega, ahead_turns h0 n _ _ (by omega) (by omega) (fun e' => by subst e; cases b <;> simp at e')⟩
    · rw [stepA, if_neg e]
      exact ⟨by omega, ahead_turns h0 n _ _ (by omega) (by omega) (fun _ => by omega)⟩
theorem tog_turns {d : Int} (h0 : 0 ≤ d) (h1 : d < 1000) (n : Nat) : tog (turns n true) d = true := by
  unfold tog
  simp only [Bool.and_eq_true]
  exact ⟨inD_iff.2 ⟨h0, h1⟩, ahead_turns h0 _ _ _ (by omega) (by omega) (fun _ => rfl), ahead_turns h0 _ _ _ (by omega) (by omega) (fun _ => rfl)⟩

/-! The document's answer -/
/-- From a time on, with so many ticks of each behind it. -/
def fine (d a b : Int) : Bool := decide (a * (1000 - d) ≤ (b + 1) * (1000 + d)) && decide (b * (1000 - d) ≤ (a + 1) * (1000 + d))
def scan (d : Int) : List Bool → Int → Int → Bool
  | [], _, _ => true
  | t :: ts, a, b => fine d (if t then a + 1 else a) (if t then b else b + 1) && scan d ts (if t then a + 1 else a) (if t then b else b + 1)
def scans (d : Int) : List Bool → Bool
  | [] => true
  | t :: ts => scan d (t :: ts) 0 0 && scans d ts
def rtog (ts : List Bool) (d : Int) : Bool := inD d && scans d ts
theorem scans_drop {d : Int} : ∀ (n : Nat) (ts : List Bool), scans d ts = true → scan d (ts.drop n) 0 0 = true
  | 0, [], _ => rfl
  | 0, t :: ts, h => by simp only [scans, Bool.and_eq_true] at h; exact h.1
  | n + 1, [], _ => rfl
  | n + 1, t :: ts, h => by simp only [scans, Bool.and_eq_true] at h; exact scans_drop n ts h.2

/-- The law's own count: is there a time at which a is enough and b is too few? -/
def late (w n : Int) : List Bool → Int → Int → Bool
  | [], _, _ => false
  | t :: ts, a, b => (decide (w ≤ if t then a + 1 else a) && decide ((if t then b else b + 1) < n)) || late w n ts (if t then a + 1 else a) (if t then b else b + 1)
theorem enough {n d a b : Int} (h2 : 0 ≤ d) (h3 : d < 1000) (h : a * (1000 - d) ≤ (b + 1) * (1000 + d)) (hw : waitV n d ≤ a) : n ≤ b := by
  unfold waitV at hw
  have hk : (0 : Int) < 1000 - d := by omega
  have h1 : n * (1000 + d) < a * (1000 - d) := by
    have : n * (1000 + d) / (1000 - d) < a := by omega
    rwa [Int.ediv_lt_iff_lt_mul hk] at this
  have h4 : n * (1000 + d) < (b + 1) * (1000 + d) := by omega
  have := Int.lt_of_mul_lt_mul_right h4 (by omega : (0 : Int) ≤ 1000 + d)
  omega
theorem never_late {n d : Int} (h2 : 0 ≤ d) (h3 : d < 1000) : ∀ (ts : List Bool) (a b : Int), scan d ts a b = true → late (waitV n d) n ts a b = false
  | [], _, _, _ => rfl
  | t :: ts, a, b, h => by
    simp only [scan, fine, Bool.and_eq_true, decide_eq_true_eq] at h
    simp only [late, Bool.or_eq_false_iff, Bool.and_eq_false_iff, decide_eq_false_iff_not]
    refine ⟨?_, never_late h2 h3 ts _ _ h.2⟩
    by_cases hw : waitV n d ≤ if t = true then a + 1 else a
    · exact .inr (by have := enough h2 h3 h.1.1 hw; omega)
    · exact .inl hw

end Go.Proofs.Ytppbjcjnheamnaa
