/- Plain numbers: magnitudes in base 10^9 as functions from places to words, sums, comparison, the carry and the estimate. No program here. -/
namespace Mb


def B : Int := 1000000000
theorem B_eq : B = 1000000000 := rfl

/-- the value of the first k words -/
def val (f : Nat → Int) : Nat → Int
  | 0 => 0
  | k + 1 => val f k + f k * B ^ k

theorem pow_pos' (k : Nat) : 0 < B ^ k := Int.pow_pos (by decide)
theorem pow_succ' (k : Nat) : B ^ (k + 1) = B ^ k * B := Int.pow_succ _ _

/-- words below the base -/
def Wd (f : Nat → Int) (k : Nat) : Prop := ∀ i, i < k → 0 ≤ f i ∧ f i < B

theorem val_bd {f : Nat → Int} : ∀ {k : Nat}, Wd f k → 0 ≤ val f k ∧ val f k < B ^ k
  | 0, _ => by simp [val]
  | k + 1, h => by
    have ih := val_bd (f := f) (k := k) (fun i hi => h i (by omega))
    have hk := h k (by omega)
    have hp := pow_pos' k
    have h1 : 0 ≤ f k * B ^ k := Int.mul_nonneg hk.1 (by omega)
    have h2 : f k * B ^ k ≤ (B - 1) * B ^ k := Int.mul_le_mul_of_nonneg_right (by omega) (by omega)
    have h3 : (B - 1) * B ^ k = B ^ (k + 1) - B ^ k := by rw [pow_succ', Int.sub_mul, Int.mul_comm B, Int.one_mul]
    simp only [val]; omega

theorem val_congr {f g : Nat → Int} : ∀ {k : Nat}, (∀ i, i < k → f i = g i) → val f k = val g k
  | 0, _ => rfl
  | k + 1, h => by simp only [val]; rw [val_congr (fun i hi => h i (by omega)), h k (by omega)]

theorem val_ext {f : Nat → Int} {n : Nat} : ∀ {m : Nat}, n ≤ m → (∀ i, n ≤ i → i < m → f i = 0) → val f m = val f n
  | 0, h, _ => by have : n = 0 := by omega
                  subst this; rfl
  | m + 1, h, hz => by
    by_cases e : n = m + 1
    · subst e; rfl
    · simp only [val]; rw [val_ext (n := n) (m := m) (by omega) (fun i a b => hz i a (by omega)), hz m (by omega) (by omega)]; simp

/-- shifted words -/
def sh (f : Nat → Int) (up : Nat) : Nat → Int := fun i => f (up + i)

theorem val_split (f : Nat → Int) (up : Nat) : ∀ k, val f (up + k) = val f up + val (sh f up) k * B ^ up
  | 0 => by simp [val]
  | k + 1 => by
    show val f (up + k) + f (up + k) * B ^ (up + k) = _
    rw [val_split f up k]
    simp only [val, sh]
    rw [Int.pow_add]; grind

/-- one word changed -/
def upd (f : Nat → Int) (k : Nat) (v : Int) : Nat → Int := fun i => if i = k then v else f i
theorem upd_same (f : Nat → Int) (k : Nat) (v : Int) : upd f k v k = v := by simp [upd]
theorem upd_other {f : Nat → Int} {k i : Nat} {v : Int} (h : i ≠ k) : upd f k v i = f i := by simp [upd, h]

/-- a right magnitude: n words, nothing behind them, the last one not 0 -/
structure Mag (f : Nat → Int) (n : Nat) : Prop where
  le : n ≤ 232
  wd : ∀ i, 0 ≤ f i ∧ f i < B
  z : ∀ i, n ≤ i → f i = 0
  top : n = 0 ∨ f (n - 1) ≠ 0

theorem Mag.bd {f n} (h : Mag f n) : 0 ≤ val f n ∧ val f n < B ^ n := val_bd (fun i _ => h.wd i)
theorem Mag.ext {f n} (h : Mag f n) {m : Nat} (hm : n ≤ m) : val f m = val f n := val_ext hm (fun i a _ => h.z i a)

theorem Mag.low {f n} (h : Mag f (n + 1)) : B ^ n ≤ val f (n + 1) := by
  have ht := h.top
  have hw := h.wd n
  have h1 : 1 ≤ f n := by rcases ht with h0 | h0; · omega
                          · simp at h0; omega
  have hb := (val_bd (f := f) (k := n) (fun i _ => h.wd i)).1
  have h2 : 1 * B ^ n ≤ f n * B ^ n := Int.mul_le_mul_of_nonneg_right h1 (by have := pow_pos' n; omega)
  simp only [val]; omega

theorem pow_mono {a b : Nat} (h : a ≤ b) : B ^ a ≤ B ^ b := by
  induction b with
  | zero => have : a = 0 := by omega
            subst this; exact Int.le_refl _
  | succ b ih =>
    by_cases e : a = b + 1
    · subst e; exact Int.le_refl _
    · have h1 := ih (by omega)
      have h2 := pow_pos' b
      rw [pow_succ', B_eq] at *
      omega

/-- fewer words: less -/
theorem Mag.lt_of_n {f g n m} (hf : Mag f n) (hg : Mag g m) (h : n < m) : val f n < val g m := by
  obtain ⟨m, rfl⟩ : ∃ k, m = k + 1 := ⟨m - 1, by omega⟩
  have h1 := hg.low
  have h2 := hf.bd.2
  have h3 := pow_mono (show n ≤ m by omega)
  omega

/-- the first difference from above decides -/
theorem val_lt_of_top {f g : Nat → Int} {n k : Nat} (hf : Wd f n) (hg : Wd g n) (hk : k < n) (he : ∀ i, k < i → i < n → f i = g i) (hlt : f k < g k) : val f n < val g n := by
  have key : val f (k + 1) < val g (k + 1) := by
    have a := val_bd (f := f) (k := k) (fun i hi => hf i (by omega))
    have b := val_bd (f := g) (k := k) (fun i hi => hg i (by omega))
    have c : (f k + 1) * B ^ k ≤ g k * B ^ k := Int.mul_le_mul_of_nonneg_right (by omega) (by have := pow_pos' k; omega)
    rw [Int.add_mul] at c
    simp only [val]; omega
  have hs : ∀ m, k + 1 + m ≤ n → val f (k + 1 + m) < val g (k + 1 + m) := by
    intro m
    induction m with
    | zero => intro _; exact key
    | succ m ih =>
      intro hm
      have h1 := ih (by omega)
      have h2 := he (k + 1 + m) (by omega) (by omega)
      show val f (k + 1 + m) + f (k + 1 + m) * _ < val g (k + 1 + m) + g (k + 1 + m) * _
      rw [h2]; omega
  have := hs (n - (k + 1)) (by omega)
  rwa [show k + 1 + (n - (k + 1)) = n by omega] at this

/-- the magnitude is told by its value -/
theorem Mag.n_eq {f g n m} (hf : Mag f n) (hg : Mag g m) (h : val f n = val g m) : n = m := by
  rcases Nat.lt_trichotomy n m with h1 | h1 | h1
  · have := hf.lt_of_n hg h1; omega
  · exact h1
  · have := hg.lt_of_n hf h1; omega

theorem val_inj {f g : Nat → Int} : ∀ {n : Nat}, Wd f n → Wd g n → val f n = val g n → ∀ i, i < n → f i = g i
  | 0, _, _, _ => fun i hi => by omega
  | n + 1, hf, hg, h => by
    have htop : f n = g n := by
      rcases Int.lt_trichotomy (f n) (g n) with h1 | h1 | h1
      · have := val_lt_of_top hf hg (Nat.lt_succ_self n) (fun i a b => by omega) h1; omega
      · exact h1
      · have := val_lt_of_top hg hf (Nat.lt_succ_self n) (fun i a b => by omega) h1; omega
    simp only [val] at h
    rw [htop] at h
    have ih := val_inj (f := f) (g := g) (n := n) (fun i hi => hf i (by omega)) (fun i hi => hg i (by omega)) (by omega)
    intro i hi
    by_cases e : i = n
    · subst e; exact htop
    · exact ih i (by omega)

theorem Mag.unique {f g n m} (hf : Mag f n) (hg : Mag g m) (h : val f n = val g m) : n = m ∧ ∀ i, f i = g i := by
  have hn := hf.n_eq hg h
  subst hn
  refine ⟨rfl, fun i => ?_⟩
  by_cases hi : i < n
  · exact val_inj (fun i _ => hf.wd i) (fun i _ => hg.wd i) h i hi
  · rw [hf.z i (by omega), hg.z i (by omega)]

theorem Mag.zero : Mag (fun _ => 0) 0 := ⟨by omega, fun _ => by simp [B], fun _ _ => rfl, .inl rfl⟩

theorem val_zero : ∀ k, val (fun _ => 0) k = 0
  | 0 => rfl
  | k + 1 => by simp [val, val_zero k]

theorem Mag.eq_zero {f n} (h : Mag f n) : val f n = 0 ↔ n = 0 := by
  constructor
  · intro hv
    rcases n with _ | n
    · rfl
    · have := h.low; have := pow_pos' n; omega
  · intro hn; subst hn; rfl

/-! ### the carry -/
/-- what the loop of carry holds behind k rounds: x0 the words before, x the words now, y the summand -/
structure Carry (x0 y : Nat → Int) (yn : Nat) (fac : Int) (up : Nat) (k : Nat) (rest : Int) (x : Nat → Int) : Prop where
  eq : val (sh x up) k + rest * B ^ k = val (sh x0 up) k + fac * val y (min k yn)
  wd : ∀ i, 0 ≤ x i ∧ x i < B
  same : ∀ i, (i < up ∨ up + k ≤ i) → x i = x0 i
  rb : -B ≤ rest ∧ rest ≤ B

theorem Carry.start {x0 y : Nat → Int} {yn : Nat} {fac : Int} {up : Nat} (hx : ∀ i, 0 ≤ x0 i ∧ x0 i < B) : Carry x0 y yn fac up 0 0 x0 :=
  ⟨by simp [val], hx, fun _ _ => rfl, by decide⟩

/-- floor by the base, as the code does it -/
theorem floor_div (s : Int) : s / B * B + s % B = s ∧ 0 ≤ s % B ∧ s % B < B := by unfold B; omega

theorem mulbd {a b : Int} (ha : -(B - 1) ≤ a ∧ a ≤ B - 1) (hb : 0 ≤ b ∧ b < B) : -((B - 1) * (B - 1)) ≤ a * b ∧ a * b ≤ (B - 1) * (B - 1) := by
  have h1 : a * b ≤ (B - 1) * b := Int.mul_le_mul_of_nonneg_right ha.2 hb.1
  have h2 : (B - 1) * b ≤ (B - 1) * (B - 1) := Int.mul_le_mul_of_nonneg_left (by omega) (by decide)
  have h3 : -(B - 1) * b ≤ a * b := Int.mul_le_mul_of_nonneg_right ha.1 hb.1
  have h4 : -(B - 1) * b = -((B - 1) * b) := Int.neg_mul _ _
  omega

theorem Carry.sum_bd {x0 y : Nat → Int} {yn : Nat} {fac : Int} {up k : Nat} {rest : Int} {x : Nat → Int} (h : Carry x0 y yn fac up k rest x)
    (hy : 0 ≤ y k ∧ y k < B) (hf : -(B - 1) ≤ fac ∧ fac ≤ B - 1) :
    -(B - 1) * (B - 1) - B ≤ x (up + k) + rest + fac * y k ∧ x (up + k) + rest + fac * y k ≤ B * B := by
  have := h.wd (up + k); have := h.rb; have := mulbd hf hy
  unfold B at *; omega

theorem Carry.step {x0 y : Nat → Int} {yn : Nat} {fac : Int} {up k : Nat} {rest : Int} {x : Nat → Int} (h : Carry x0 y yn fac up k rest x)
    (hy : k < yn → 0 ≤ y k ∧ y k < B) (hf : -(B - 1) ≤ fac ∧ fac ≤ B - 1) (s : Int) (hs : s = x (up + k) + rest + if k < yn then fac * y k else 0) :
    Carry x0 y yn fac up (k + 1) (s / B) (upd x (up + k) (s % B)) := by
  have hfl := floor_div s
  refine ⟨?_, ?_, ?_, ?_⟩
  · have e1 : val (sh (upd x (up + k) (s % B)) up) (k + 1) = val (sh x up) k + s % B * B ^ k := by
      simp only [val]
      rw [show val (sh (upd x (up + k) (s % B)) up) k = val (sh x up) k from val_congr (fun i hi => by simp only [sh]; exact upd_other (by omega))]
      simp only [sh]; rw [upd_same]
    have e2 : val (sh x0 up) (k + 1) = val (sh x0 up) k + x (up + k) * B ^ k := by
      simp only [val, sh]; rw [h.same (up + k) (.inr (by omega))]
    have e3 : fac * val y (min (k + 1) yn) = fac * val y (min k yn) + (if k < yn then fac * y k else 0) * B ^ k := by
      by_cases hk : k < yn
      · rw [if_pos hk, show min (k + 1) yn = k + 1 by omega, show min k yn = k by omega]; simp only [val]; grind
      · rw [if_neg hk, show min (k + 1) yn = yn by omega, show min k yn = yn by omega]; simp
    rw [e1, e2, e3, pow_succ']
    have h0 := h.eq
    generalize (if k < yn then fac * y k else 0) = t at *
    generalize B ^ k = P at *
    have h1 : s / B * (P * B) + s % B * P = s * P := by
      have := hfl.1; calc _ = (s / B * B + s % B) * P := by grind
                        _ = _ := by rw [this]
    grind
  · intro i
    by_cases e : i = up + k
    · subst e; rw [upd_same]; exact hfl.2
    · rw [upd_other e]; exact h.wd i
  · intro i hi
    rw [upd_other (by omega)]; exact h.same i (by omega)
  · have hwd := h.wd (up + k); have hrb := h.rb
    by_cases hk : k < yn
    · have hm := mulbd hf (hy hk)
      rw [if_pos hk] at hs
      unfold B at *; omega
    · rw [if_neg hk] at hs
      unfold B at *; omega

/-- at the end of the room nothing is left to carry -/
theorem Carry.rest_zero {x0 y : Nat → Int} {yn : Nat} {fac : Int} {up k : Nat} {rest : Int} {x : Nat → Int} (h : Carry x0 y yn fac up k rest x) (hk : yn ≤ k)
    (h0 : 0 ≤ val (sh x0 up) k + fac * val y yn) (h1 : val (sh x0 up) k + fac * val y yn < B ^ k) : rest = 0 := by
  have hv := h.eq
  rw [show min k yn = yn by omega] at hv
  have hb := val_bd (f := sh x up) (k := k) (fun i _ => h.wd _)
  have hp := pow_pos' k
  rcases Int.lt_trichotomy rest 0 with hr | hr | hr
  · have : rest * B ^ k ≤ -1 * B ^ k := Int.mul_le_mul_of_nonneg_right (by omega) (by omega)
    omega
  · exact hr
  · have : 1 * B ^ k ≤ rest * B ^ k := Int.mul_le_mul_of_nonneg_right (by omega) (by omega)
    omega

/-- the end of carry -/
theorem Carry.done {x0 y : Nat → Int} {xn yn : Nat} {fac : Int} {up k : Nat} {x : Nat → Int} (h : Carry x0 y yn fac up k 0 x) (hk : yn ≤ k) (m : Nat) (hm : xn ≤ m) (hm2 : up + k ≤ m)
    (hx0 : ∀ i, xn ≤ i → x0 i = 0) : val x m = val x0 xn + fac * val y yn * B ^ up := by
  have hv := h.eq
  rw [show min k yn = yn by omega] at hv
  have s1 := val_split x up (m - up)
  have s2 := val_split x0 up (m - up)
  rw [show up + (m - up) = m by omega] at s1 s2
  have t1 : val (sh x up) (m - up) = val (sh x up) k + (val (sh x0 up) (m - up) - val (sh x0 up) k) := by
    have a1 := val_split (sh x up) k (m - up - k)
    have a2 := val_split (sh x0 up) k (m - up - k)
    rw [show k + (m - up - k) = m - up by omega] at a1 a2
    have a3 : val (sh (sh x up) k) (m - up - k) = val (sh (sh x0 up) k) (m - up - k) := val_congr (fun i _ => h.same _ (.inr (by omega)))
    rw [a1, a2, a3]; omega
  have t2 : val x up = val x0 up := val_congr (fun i hi => h.same i (.inl hi))
  have t3 : val x0 m = val x0 xn := val_ext hm (fun i a _ => hx0 i a)
  rw [s1, t1, t2, ← t3, s2]
  have hv' : val (sh x up) k = val (sh x0 up) k + fac * val y yn := by simpa using hv
  rw [hv']; grind

theorem mag_words_le {r y : Nat → Int} {rn yn : Nat} (hr : Mag r rn) (hy : Mag y yn) (h : val r rn < B * val y yn) : rn ≤ yn + 1 := by
  by_cases hc : rn ≤ yn + 1
  · exact hc
  · obtain ⟨m, rfl⟩ : ∃ m, rn = m + 1 := ⟨rn - 1, by omega⟩
    have h1 := hr.low
    have h2 := hy.bd.2
    have h3 : B * val y yn ≤ B * B ^ yn := Int.mul_le_mul_of_nonneg_left (by omega) (by decide)
    have h4 : B * B ^ yn = B ^ (yn + 1) := by rw [pow_succ', Int.mul_comm]
    have h5 := pow_mono (show yn + 1 ≤ m by omega)
    omega

/-- the guess of a digit -/
def est (a b : Int) : Int := if 0 < a / b then min (a / b) (B - 1) else 1

theorem est_ok {r y : Nat → Int} {rn yn : Nat} (hr : Mag r rn) (hy : Mag y (yn + 1)) (hle : val y (yn + 1) ≤ val r rn) (hlt : val r rn < B * val y (yn + 1))
    (a b : Int) (ha : a = r (yn + 1) * B + r yn) (hb : b = y yn + if 1 < yn + 1 then 1 else 0) :
    1 ≤ b ∧ b ≤ B ∧ 0 ≤ a ∧ a < B * B ∧ 1 ≤ est a b ∧ est a b ≤ B - 1 ∧ est a b * val y (yn + 1) ≤ val r rn := by
  have hn := mag_words_le hr hy hlt
  have hyt : 1 ≤ y yn := by have := hy.wd yn; rcases hy.top with h | h
                            · omega
                            · simp at h; omega
  have hyw := hy.wd yn
  have hr0 := hr.wd yn; have hr1 := hr.wd (yn + 1)
  have hb1 : 1 ≤ b ∧ b ≤ B := by subst hb; split <;> omega
  have ha1 : 0 ≤ a ∧ a < B * B := by
    subst ha; unfold B at *; omega
  -- val r = low + a * B^yn
  have hval : val r rn = val r yn + a * B ^ yn := by
    rw [← hr.ext (m := yn + 2) (by omega), ha]
    show val r yn + r yn * B ^ yn + r (yn + 1) * B ^ (yn + 1) = _
    rw [pow_succ']; grind
  have hlow := val_bd (f := r) (k := yn) (fun i _ => hr.wd i)
  have hp := pow_pos' yn
  have hk : ∀ e : Int, 0 ≤ e → e ≤ a / b → e * val y (yn + 1) ≤ val r rn := by
    intro e he hee
    have h1 : e * b ≤ a := by
      have := Int.mul_le_mul_of_nonneg_right hee (show 0 ≤ b by omega)
      have h2 := Int.ediv_mul_le a (show b ≠ 0 by omega)
      omega
    have h3 : val y (yn + 1) ≤ b * B ^ yn := by
      have hyl := val_bd (f := y) (k := yn) (fun i _ => hy.wd i)
      show val y yn + y yn * B ^ yn ≤ _
      by_cases h0 : yn = 0
      · subst h0; simp [val] at *; omega
      · rw [hb, if_pos (by omega), Int.add_mul]; omega
    have h4 := Int.mul_le_mul_of_nonneg_left h3 he
    have h5 : e * b * B ^ yn ≤ a * B ^ yn := Int.mul_le_mul_of_nonneg_right h1 (by omega)
    have h6 : e * (b * B ^ yn) = e * b * B ^ yn := by grind
    omega
  refine ⟨hb1.1, hb1.2, ha1.1, ha1.2, ?_⟩
  unfold est
  split
  · rename_i hpos
    refine ⟨by unfold B at *; omega, by omega, hk _ (by unfold B at *; omega) (by omega)⟩
  · exact ⟨by omega, by decide, by omega⟩

/-- one word is taken in below -/
def push (f : Nat → Int) (v : Int) : Nat → Int := fun i => match i with | 0 => v | j + 1 => f j

theorem val_push (f : Nat → Int) (v : Int) : ∀ k, val (push f v) (k + 1) = v + B * val f k
  | 0 => by simp [val, push]
  | k + 1 => by
    show val (push f v) (k + 1) + f k * B ^ (k + 1) = v + B * (val f k + f k * B ^ k)
    rw [val_push f v k, pow_succ']; grind

/-- quotient and remainder by their sizes -/
theorem quo_unique {x y q r : Int} (hy : 0 < y) (h : x = q * y + r) (h0 : 0 ≤ r) (h1 : r < y) : q = x / y ∧ r = x % y := by
  have hq : x / y = q := by
    rw [h, Int.add_comm, Int.add_mul_ediv_right _ _ (by omega), Int.ediv_eq_zero_of_lt h0 h1, Int.zero_add]
  have := Int.emod_add_mul_ediv x y
  refine ⟨hq.symm, ?_⟩
  rw [hq, Int.mul_comm] at this; omega

/-- leaving out words of 0 -/
structure Pre (f : Nat → Int) (n : Nat) : Prop where
  le : n ≤ 232
  wd : ∀ i, 0 ≤ f i ∧ f i < B
  z : ∀ i, n ≤ i → f i = 0

theorem Pre.mag {f n} (h : Pre f n) (ht : n = 0 ∨ f (n - 1) ≠ 0) : Mag f n := ⟨h.le, h.wd, h.z, ht⟩
theorem Pre.down {f n} (h : Pre f (n + 1)) (hz : f n = 0) : Pre f n ∧ val f n = val f (n + 1) :=
  ⟨⟨by have := h.le; omega, h.wd, fun i hi => by by_cases e : i = n
                                                 · subst e; exact hz
                                                 · exact h.z i (by omega)⟩, by show _ = val f n + f n * _; rw [hz]; simp⟩
theorem Mag.pre {f n} (h : Mag f n) : Pre f n := ⟨h.le, h.wd, h.z⟩

/-- the sign of the comparison -/
theorem cmp_n {f g n m} (hf : Mag f n) (hg : Mag g m) (h : n ≠ m) : (0 ≤ (n : Int) - m ↔ val g m ≤ val f n) := by
  rcases Nat.lt_or_gt_of_ne h with h1 | h1
  · have := hf.lt_of_n hg h1; omega
  · have := hg.lt_of_n hf h1; omega

theorem cmp_w {f g n k} (hf : Mag f n) (hg : Mag g n) (hk : k < n) (he : ∀ i, k < i → i < n → f i = g i) (hne : f k ≠ g k) : (0 ≤ f k - g k ↔ val g n ≤ val f n) := by
  rcases Int.lt_or_gt_of_ne hne with h1 | h1
  · have := val_lt_of_top (fun i _ => hf.wd i) (fun i _ => hg.wd i) hk he h1; omega
  · have := val_lt_of_top (fun i _ => hg.wd i) (fun i _ => hf.wd i) hk (fun i a b => (he i a b).symm) h1; omega

end Mb
