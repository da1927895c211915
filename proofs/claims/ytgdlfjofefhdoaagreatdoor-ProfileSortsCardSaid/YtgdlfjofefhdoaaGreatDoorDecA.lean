/- Plain numbers: magnitudes in base 10^9 as functions from places to words, sums, comparison, the carry and the estimate. No program here. Plain decimal texts: digits and their values, words and texts, quotients in lowest terms. No program here. Plain texts: the comparison of decimal texts, the cut at the slash. No program here. Plain arithmetic on decimal digits, as on paper: zeros in front, sums and differences with a carry, products by columns, long division. No program here. Plain geometry: points in the plane and in space with whole coordinates. No program here. -/
import Derived.Lib.ItoaNum
import Derived.Lib.AtoiAll
import Derived.Lib.Atoi
import Derived.Lib.IndexMore
import Derived.Lib.Strings
namespace Mb


def B : Int := 1000000000
theorem B_eq : B = 1000000000 := rfl

/-- the value of the first k words -/
def val (f : Nat → Int) : Nat → Int
  | 0 => 0
  | k + 1 => val f k + f k * B ^ k

theorem pow_pos' (k : Nat) : 0 < B ^ k := Int.pow_pos (by decide)
theorem pow_succ' (k : Nat) : B ^ (k + 1) = B ^ k * B := Int.pow_succ _ _

/-- words below the base -/
def Wd (f : Nat → Int) (k : Nat) : Prop := ∀ i, i < k → 0 ≤ f i ∧ f i < B

theorem val_bd {f : Nat → Int} : ∀ {k : Nat}, Wd f k → 0 ≤ val f k ∧ val f k < B ^ k
  | 0, _ => by simp [val]
  | k + 1, h => by
    have ih := val_bd (f := f) (k := k) (fun i hi => h i (by omega))
    have hk := h k (by omega)
    have hp := pow_pos' k
    have h1 : 0 ≤ f k * B ^ k := Int.mul_nonneg hk.1 (by omega)
    have h2 : f k * B ^ k ≤ (B - 1) * B ^ k := Int.mul_le_mul_of_nonneg_right (by omega) (by omega)
    have h3 : (B - 1) * B ^ k = B ^ (k + 1) - B ^ k := by rw [pow_succ', Int.sub_mul, Int.mul_comm B, Int.one_mul]
    simp only [val]; omega

theorem val_congr {f g : Nat → Int} : ∀ {k : Nat}, (∀ i, i < k → f i = g i) → val f k = val g k
  | 0, _ => rfl
  | k + 1, h => by simp only [val]; rw [val_congr (fun i hi => h i (by omega)), h k (by omega)]

theorem val_ext {f : Nat → Int} {n : Nat} : ∀ {m : Nat}, n ≤ m → (∀ i, n ≤ i → i < m → f i = 0) → val f m = val f n
  | 0, h, _ => by have : n = 0 := by omega
                  subst this; rfl
  | m + 1, h, hz => by
    by_cases e : n = m + 1
    · subst e; rfl
    · simp only [val]; rw [val_ext (n := n) (m := m) (by omega) (fun i a b => hz i a (by omega)), hz m (by omega) (by omega)]; simp

/-- shifted words -/
def sh (f : Nat → Int) (up : Nat) : Nat → Int := fun i => f (up + i)

theorem val_split (f : Nat → Int) (up : Nat) : ∀ k, val f (up + k) = val f up + val (sh f up) k * B ^ up
  | 0 => by simp [val]
  | k + 1 => by
    show val f (up + k) + f (up + k) * B ^ (up + k) = _
    rw [val_split f up k]
    simp only [val, sh]
    rw [Int.pow_add]; grind

/-- one word changed -/
def upd (f : Nat → Int) (k : Nat) (v : Int) : Nat → Int := fun i => if i = k then v else f i
theorem upd_same (f : Nat → Int) (k : Nat) (v : Int) : upd f k v k = v := by simp [upd]
theorem upd_other {f : Nat → Int} {k i : Nat} {v : Int} (h : i ≠ k) : upd f k v i = f i := by simp [upd, h]

/-- a right magnitude: n words, nothing behind them, the last one not 0 -/
structure Mag (f : Nat → Int) (n : Nat) : Prop where
  le : n ≤ 232
  wd : ∀ i, 0 ≤ f i ∧ f i < B
  z : ∀ i, n ≤ i → f i = 0
  top : n = 0 ∨ f (n - 1) ≠ 0

theorem Mag.bd {f n} (h : Mag f n) : 0 ≤ val f n ∧ val f n < B ^ n := val_bd (fun i _ => h.wd i)
theorem Mag.ext {f n} (h : Mag f n) {m : Nat} (hm : n ≤ m) : val f m = val f n := val_ext hm (fun i a _ => h.z i a)

theorem Mag.low {f n} (h : Mag f (n + 1)) : B ^ n ≤ val f (n + 1) := by
  have ht := h.top
  have hw := h.wd n
  have h1 : 1 ≤ f n := by rcases ht with h0 | h0; · omega
                          · simp at h0; omega
  have hb := (val_bd (f := f) (k := n) (fun i _ => h.wd i)).1
  have h2 : 1 * B ^ n ≤ f n * B ^ n := Int.mul_le_mul_of_nonneg_right h1 (by have := pow_pos' n; omega)
  simp only [val]; omega

theorem pow_mono {a b : Nat} (h : a ≤ b) : B ^ a ≤ B ^ b := by
  induction b with
  | zero => have : a = 0 := by omega
            subst this; exact Int.le_refl _
  | succ b ih =>
    by_cases e : a = b + 1
    · subst e; exact Int.le_refl _
    · have h1 := ih (by omega)
      have h2 := pow_pos' b
      rw [pow_succ', B_eq] at *
      omega

/-- fewer words: less -/
theorem Mag.lt_of_n {f g n m} (hf : Mag f n) (hg : Mag g m) (h : n < m) : val f n < val g m := by
  obtain ⟨m, rfl⟩ : ∃ k, m = k + 1 := ⟨m - 1, by omega⟩
  have h1 := hg.low
  have h2 := hf.bd.2
  have h3 := pow_mono (show n ≤ m by omega)
  omega

/-- the first difference from above decides -/
theorem val_lt_of_top {f g : Nat → Int} {n k : Nat} (hf : Wd f n) (hg : Wd g n) (hk : k < n) (he : ∀ i, k < i → i < n → f i = g i) (hlt : f k < g k) : val f n < val g n := by
  have key : val f (k + 1) < val g (k + 1) := by
    have a := val_bd (f := f) (k := k) (fun i hi => hf i (by omega))
    have b := val_bd (f := g) (k := k) (fun i hi => hg i (by omega))
    have c : (f k + 1) * B ^ k ≤ g k * B ^ k := Int.mul_le_mul_of_nonneg_right (by omega) (by have := pow_pos' k; omega)
    rw [Int.add_mul] at c
    simp only [val]; omega
  have hs : ∀ m, k + 1 + m ≤ n → val f (k + 1 + m) < val g (k + 1 + m) := by
    intro m
    induction m with
    | zero => intro _; exact key
    | succ m ih =>
      intro hm
      have h1 := ih (by omega)
      have h2 := he (k + 1 + m) (by omega) (by omega)
      show val f (k + 1 + m) + f (k + 1 + m) * _ < val g (k + 1 + m) + g (k + 1 + m) * _
      rw [h2]; omega
  have := hs (n - (k + 1)) (by omega)
  rwa [show k + 1 + (n - (k + 1)) = n by omega] at this

/-- the magnitude is told by its value -/
theorem Mag.n_eq {f g n m} (hf : Mag f n) (hg : Mag g m) (h : val f n = val g m) : n = m := by
  rcases Nat.lt_trichotomy n m with h1 | h1 | h1
  · have := hf.lt_of_n hg h1; omega
  · exact h1
  · have := hg.lt_of_n hf h1; omega

theorem val_inj {f g : Nat → Int} : ∀ {n : Nat}, Wd f n → Wd g n → val f n = val g n → ∀ i, i < n → f i = g i
  | 0, _, _, _ => fun i hi => by omega
  | n + 1, hf, hg, h => by
    have htop : f n = g n := by
      rcases Int.lt_trichotomy (f n) (g n) with h1 | h1 | h1
      · have := val_lt_of_top hf hg (Nat.lt_succ_self n) (fun i a b => by omega) h1; omega
      · exact h1
      · have := val_lt_of_top hg hf (Nat.lt_succ_self n) (fun i a b => by omega) h1; omega
    simp only [val] at h
    rw [htop] at h
    have ih := val_inj (f := f) (g := g) (n := n) (fun i hi => hf i (by omega)) (fun i hi => hg i (by omega)) (by omega)
    intro i hi
    by_cases e : i = n
    · subst e; exact htop
    · exact ih i (by omega)

theorem Mag.unique {f g n m} (hf : Mag f n) (hg : Mag g m) (h : val f n = val g m) : n = m ∧ ∀ i, f i = g i := by
  have hn := hf.n_eq hg h
  subst hn
  refine ⟨rfl, fun i => ?_⟩
  by_cases hi : i < n
  · exact val_inj (fun i _ => hf.wd i) (fun i _ => hg.wd i) h i hi
  · rw [hf.z i (by omega), hg.z i (by omega)]

theorem Mag.zero : Mag (fun _ => 0) 0 := ⟨by omega, fun _ => by simp [B], fun _ _ => rfl, .inl rfl⟩

theorem val_zero : ∀ k, val (fun _ => 0) k = 0
  | 0 => rfl
  | k + 1 => by simp [val, val_zero k]

theorem Mag.eq_zero {f n} (h : Mag f n) : val f n = 0 ↔ n = 0 := by
  constructor
  · intro hv
    rcases n with _ | n
    · rfl
    · have := h.low; have := pow_pos' n; omega
  · intro hn; subst hn; rfl

/-! ### the carry -/
/-- what the loop of carry holds behind k rounds: x0 the words before, x the words now, y the summand -/
structure Carry (x0 y : Nat → Int) (yn : Nat) (fac : Int) (up : Nat) (k : Nat) (rest : Int) (x : Nat → Int) : Prop where
  eq : val (sh x up) k + rest * B ^ k = val (sh x0 up) k + fac * val y (min k yn)
  wd : ∀ i, 0 ≤ x i ∧ x i < B
  same : ∀ i, (i < up ∨ up + k ≤ i) → x i = x0 i
  rb : -B ≤ rest ∧ rest ≤ B

theorem Carry.start {x0 y : Nat → Int} {yn : Nat} {fac : Int} {up : Nat} (hx : ∀ i, 0 ≤ x0 i ∧ x0 i < B) : Carry x0 y yn fac up 0 0 x0 :=
  ⟨by simp [val], hx, fun _ _ => rfl, by decide⟩

/-- floor by the base, as the code does it -/
theorem floor_div (s : Int) : s / B * B + s % B = s ∧ 0 ≤ s % B ∧ s % B < B := by unfold B; omega

theorem mulbd {a b : Int} (ha : -(B - 1) ≤ a ∧ a ≤ B - 1) (hb : 0 ≤ b ∧ b < B) : -((B - 1) * (B - 1)) ≤ a * b ∧ a * b ≤ (B - 1) * (B - 1) := by
  have h1 : a * b ≤ (B - 1) * b := Int.mul_le_mul_of_nonneg_right ha.2 hb.1
  have h2 : (B - 1) * b ≤ (B - 1) * (B - 1) := Int.mul_le_mul_of_nonneg_left (by omega) (by decide)
  have h3 : -(B - 1) * b ≤ a * b := Int.mul_le_mul_of_nonneg_right ha.1 hb.1
  have h4 : -(B - 1) * b = -((B - 1) * b) := Int.neg_mul _ _
  omega

theorem Carry.sum_bd {x0 y : Nat → Int} {yn : Nat} {fac : Int} {up k : Nat} {rest : Int} {x : Nat → Int} (h : Carry x0 y yn fac up k rest x)
    (hy : 0 ≤ y k ∧ y k < B) (hf : -(B - 1) ≤ fac ∧ fac ≤ B - 1) :
    -(B - 1) * (B - 1) - B ≤ x (up + k) + rest + fac * y k ∧ x (up + k) + rest + fac * y k ≤ B * B := by
  have := h.wd (up + k); have := h.rb; have := mulbd hf hy
  unfold B at *; omega

theorem Carry.step {x0 y : Nat → Int} {yn : Nat} {fac : Int} {up k : Nat} {rest : Int} {x : Nat → Int} (h : Carry x0 y yn fac up k rest x)
    (hy : k < yn → 0 ≤ y k ∧ y k < B) (hf : -(B - 1) ≤ fac ∧ fac ≤ B - 1) (s : Int) (hs : s = x (up + k) + rest + if k < yn then fac * y k else 0) :
    Carry x0 y yn fac up (k + 1) (s / B) (upd x (up + k) (s % B)) := by
  have hfl := floor_div s
  refine ⟨?_, ?_, ?_, ?_⟩
  · have e1 : val (sh (upd x (up + k) (s % B)) up) (k + 1) = val (sh x up) k + s % B * B ^ k := by
      simp only [val]
      rw [show val (sh (upd x (up + k) (s % B)) up) k = val (sh x up) k from val_congr (fun i hi => by simp only [sh]; exact upd_other (by omega))]
      simp only [sh]; rw [upd_same]
    have e2 : val (sh x0 up) (k + 1) = val (sh x0 up) k + x (up + k) * B ^ k := by
      simp only [val, sh]; rw [h.same (up + k) (.inr (by omega))]
    have e3 : fac * val y (min (k + 1) yn) = fac * val y (min k yn) + (if k < yn then fac * y k else 0) * B ^ k := by
      by_cases hk : k < yn
      · rw [if_pos hk, show min (k + 1) yn = k + 1 by omega, show min k yn = k by omega]; simp only [val]; grind
      · rw [if_neg hk, show min (k + 1) yn = yn by omega, show min k yn = yn by omega]; simp
    rw [e1, e2, e3, pow_succ']
    have h0 := h.eq
    generalize (if k < yn then fac * y k else 0) = t at *
    generalize B ^ k = P at *
    have h1 : s / B * (P * B) + s % B * P = s * P := by
      have := hfl.1; calc _ = (s / B * B + s % B) * P := by grind
                        _ = _ := by rw [this]
    grind
  · intro i
    by_cases e : i = up + k
    · subst e; rw [upd_same]; exact hfl.2
    · rw [upd_other e]; exact h.wd i
  · intro i hi
    rw [upd_other (by omega)]; exact h.same i (by omega)
  · have hwd := h.wd (up + k); have hrb := h.rb
    by_cases hk : k < yn
    · have hm := mulbd hf (hy hk)
      rw [if_pos hk] at hs
      unfold B at *; omega
    · rw [if_neg hk] at hs
      unfold B at *; omega

/-- at the end of the room nothing is left to carry -/
theorem Carry.rest_zero {x0 y : Nat → Int} {yn : Nat} {fac : Int} {up k : Nat} {rest : Int} {x : Nat → Int} (h : Carry x0 y yn fac up k rest x) (hk : yn ≤ k)
    (h0 : 0 ≤ val (sh x0 up) k + fac * val y yn) (h1 : val (sh x0 up) k + fac * val y yn < B ^ k) : rest = 0 := by
  have hv := h.eq
  rw [show min k yn = yn by omega] at hv
  have hb := val_bd (f := sh x up) (k := k) (fun i _ => h.wd _)
  have hp := pow_pos' k
  rcases Int.lt_trichotomy rest 0 with hr | hr | hr
  · have : rest * B ^ k ≤ -1 * B ^ k := Int.mul_le_mul_of_nonneg_right (by omega) (by omega)
    omega
  · exact hr
  · have : 1 * B ^ k ≤ rest * B ^ k := Int.mul_le_mul_of_nonneg_right (by omega) (by omega)
    omega

/-- the end of carry -/
theorem Carry.done {x0 y : Nat → Int} {xn yn : Nat} {fac : Int} {up k : Nat} {x : Nat → Int} (h : Carry x0 y yn fac up k 0 x) (hk : yn ≤ k) (m : Nat) (hm : xn ≤ m) (hm2 : up + k ≤ m)
    (hx0 : ∀ i, xn ≤ i → x0 i = 0) : val x m = val x0 xn + fac * val y yn * B ^ up := by
  have hv := h.eq
  rw [show min k yn = yn by omega] at hv
  have s1 := val_split x up (m - up)
  have s2 := val_split x0 up (m - up)
  rw [show up + (m - up) = m by omega] at s1 s2
  have t1 : val (sh x up) (m - up) = val (sh x up) k + (val (sh x0 up) (m - up) - val (sh x0 up) k) := by
    have a1 := val_split (sh x up) k (m - up - k)
    have a2 := val_split (sh x0 up) k (m - up - k)
    rw [show k + (m - up - k) = m - up by omega] at a1 a2
    have a3 : val (sh (sh x up) k) (m - up - k) = val (sh (sh x0 up) k) (m - up - k) := val_congr (fun i _ => h.same _ (.inr (by omega)))
    rw [a1, a2, a3]; omega
  have t2 : val x up = val x0 up := val_congr (fun i hi => h.same i (.inl hi))
  have t3 : val x0 m = val x0 xn := val_ext hm (fun i a _ => hx0 i a)
  rw [s1, t1, t2, ← t3, s2]
  have hv' : val (sh x up) k = val (sh x0 up) k + fac * val y yn := by simpa using hv
  rw [hv']; grind

theorem mag_words_le {r y : Nat → Int} {rn yn : Nat} (hr : Mag r rn) (hy : Mag y yn) (h : val r rn < B * val y yn) : rn ≤ yn + 1 := by
  by_cases hc : rn ≤ yn + 1
  · exact hc
  · obtain ⟨m, rfl⟩ : ∃ m, rn = m + 1 := ⟨rn - 1, by omega⟩
    have h1 := hr.low
    have h2 := hy.bd.2
    have h3 : B * val y yn ≤ B * B ^ yn := Int.mul_le_mul_of_nonneg_left (by omega) (by decide)
    have h4 : B * B ^ yn = B ^ (yn + 1) := by rw [pow_succ', Int.mul_comm]
    have h5 := pow_mono (show yn + 1 ≤ m by omega)
    omega

/-- the guess of a digit -/
def est (a b : Int) : Int := if 0 < a / b then min (a / b) (B - 1) else 1

theorem est_ok {r y : Nat → Int} {rn yn : Nat} (hr : Mag r rn) (hy : Mag y (yn + 1)) (hle : val y (yn + 1) ≤ val r rn) (hlt : val r rn < B * val y (yn + 1))
    (a b : Int) (ha : a = r (yn + 1) * B + r yn) (hb : b = y yn + if 1 < yn + 1 then 1 else 0) :
    1 ≤ b ∧ b ≤ B ∧ 0 ≤ a ∧ a < B * B ∧ 1 ≤ est a b ∧ est a b ≤ B - 1 ∧ est a b * val y (yn + 1) ≤ val r rn := by
  have hn := mag_words_le hr hy hlt
  have hyt : 1 ≤ y yn := by have := hy.wd yn; rcases hy.top with h | h
                            · omega
                            · simp at h; omega
  have hyw := hy.wd yn
  have hr0 := hr.wd yn; have hr1 := hr.wd (yn + 1)
  have hb1 : 1 ≤ b ∧ b ≤ B := by subst hb; split <;> omega
  have ha1 : 0 ≤ a ∧ a < B * B := by
    subst ha; unfold B at *; omega
  -- val r = low + a * B^yn
  have hval : val r rn = val r yn + a * B ^ yn := by
    rw [← hr.ext (m := yn + 2) (by omega), ha]
    show val r yn + r yn * B ^ yn + r (yn + 1) * B ^ (yn + 1) = _
    rw [pow_succ']; grind
  have hlow := val_bd (f := r) (k := yn) (fun i _ => hr.wd i)
  have hp := pow_pos' yn
  have hk : ∀ e : Int, 0 ≤ e → e ≤ a / b → e * val y (yn + 1) ≤ val r rn := by
    intro e he hee
    have h1 : e * b ≤ a := by
      have := Int.mul_le_mul_of_nonneg_right hee (show 0 ≤ b by omega)
      have h2 := Int.ediv_mul_le a (show b ≠ 0 by omega)
      omega
    have h3 : val y (yn + 1) ≤ b * B ^ yn := by
      have hyl := val_bd (f := y) (k := yn) (fun i _ => hy.wd i)
      show val y yn + y yn * B ^ yn ≤ _
      by_cases h0 : yn = 0
      · subst h0; simp [val] at *; omega
      · rw [hb, if_pos (by omega), Int.add_mul]; omega
    have h4 := Int.mul_le_mul_of_nonneg_left h3 he
    have h5 : e * b * B ^ yn ≤ a * B ^ yn := Int.mul_le_mul_of_nonneg_right h1 (by omega)
    have h6 : e * (b * B ^ yn) = e * b * B ^ yn := by grind
    omega
  refine ⟨hb1.1, hb1.2, ha1.1, ha1.2, ?_⟩
  unfold est
  split
  · rename_i hpos
    refine ⟨by unfold B at *; omega, by omega, hk _ (by unfold B at *; omega) (by omega)⟩
  · exact ⟨by omega, by decide, by omega⟩

/-- one word is taken in below -/
def push (f : Nat → Int) (v : Int) : Nat → Int := fun i => match i with | 0 => v | j + 1 => f j

theorem val_push (f : Nat → Int) (v : Int) : ∀ k, val (push f v) (k + 1) = v + B * val f k
  | 0 => by simp [val, push]
  | k + 1 => by
    show val (push f v) (k + 1) + f k * B ^ (k + 1) = v + B * (val f k + f k * B ^ k)
    rw [val_push f v k, pow_succ']; grind

/-- quotient and remainder by their sizes -/
theorem quo_unique {x y q r : Int} (hy : 0 < y) (h : x = q * y + r) (h0 : 0 ≤ r) (h1 : r < y) : q = x / y ∧ r = x % y := by
  have hq : x / y = q := by
    rw [h, Int.add_comm, Int.add_mul_ediv_right _ _ (by omega), Int.ediv_eq_zero_of_lt h0 h1, Int.zero_add]
  have := Int.emod_add_mul_ediv x y
  refine ⟨hq.symm, ?_⟩
  rw [hq, Int.mul_comm] at this; omega

/-- leaving out words of 0 -/
structure Pre (f : Nat → Int) (n : Nat) : Prop where
  le : n ≤ 232
  wd : ∀ i, 0 ≤ f i ∧ f i < B
  z : ∀ i, n ≤ i → f i = 0

theorem Pre.mag {f n} (h : Pre f n) (ht : n = 0 ∨ f (n - 1) ≠ 0) : Mag f n := ⟨h.le, h.wd, h.z, ht⟩
theorem Pre.down {f n} (h : Pre f (n + 1)) (hz : f n = 0) : Pre f n ∧ val f n = val f (n + 1) :=
  ⟨⟨by have := h.le; omega, h.wd, fun i hi => by by_cases e : i = n
                                                 · subst e; exact hz
                                                 · exact h.z i (by omega)⟩, by show _ = val f n + f n * _; rw [hz]; simp⟩
theorem Mag.pre {f n} (h : Mag f n) : Pre f n := ⟨h.le, h.wd, h.z⟩

/-- the sign of the comparison -/
theorem cmp_n {f g n m} (hf : Mag f n) (hg : Mag g m) (h : n ≠ m) : (0 ≤ (n : Int) - m ↔ val g m ≤ val f n) := by
  rcases Nat.lt_or_gt_of_ne h with h1 | h1
  · have := hf.lt_of_n hg h1; omega
  · have := hg.lt_of_n hf h1; omega

theorem cmp_w {f g n k} (hf : Mag f n) (hg : Mag g n) (hk : k < n) (he : ∀ i, k < i → i < n → f i = g i) (hne : f k ≠ g k) : (0 ≤ f k - g k ↔ val g n ≤ val f n) := by
  rcases Int.lt_or_gt_of_ne hne with h1 | h1
  · have := val_lt_of_top (fun i _ => hf.wd i) (fun i _ => hg.wd i) hk he h1; omega
  · have := val_lt_of_top (fun i _ => hg.wd i) (fun i _ => hf.wd i) hk (fun i a b => (he i a b).symm) h1; omega

end Mb

namespace Mb

open Go.Lib

def Dig (l : List UInt8) : Prop := ∀ b ∈ l, 48 ≤ b.toNat ∧ b.toNat ≤ 57
/-- the value of digits -/
def dvf (a : Nat) : List UInt8 → Nat
  | [] => a
  | b :: r => dvf (a * 10 + (b.toNat - 48)) r
def dv (l : List UInt8) : Nat := dvf 0 l

theorem dvf_eq (l : List UInt8) : ∀ a : Nat, dvf a l = a * 10 ^ l.length + dv l := by
  induction l with
  | nil => intro a; show a = a * 10 ^ 0 + 0; rw [Nat.pow_zero, Nat.mul_one, Nat.add_zero]
  | cons b r ih =>
    intro a
    have h2 : dv (b :: r) = (0 * 10 + (b.toNat - 48)) * 10 ^ r.length + dv r := ih _
    rw [h2]
    show dvf (a * 10 + (b.toNat - 48)) r = _
    rw [ih, List.length_cons, Nat.pow_succ, Nat.add_mul, Nat.add_mul]
    have : a * 10 * 10 ^ r.length = a * (10 ^ r.length * 10) := by rw [Nat.mul_assoc, Nat.mul_comm 10]
    omega

theorem dvf_append (l m : List UInt8) : ∀ a : Nat, dvf a (l ++ m) = dvf (dvf a l) m := by
  induction l with
  | nil => intro a; rfl
  | cons b r ih => intro a; exact ih _

theorem dv_append (l m : List UInt8) : dv (l ++ m) = dv l * 10 ^ m.length + dv m := by
  show dvf 0 (l ++ m) = _; rw [dvf_append, dvf_eq]; rfl

theorem dv_one (b : UInt8) : dv [b] = b.toNat - 48 := by show 0 * 10 + (b.toNat - 48) = _; omega

theorem decFrom_dvf (l : List UInt8) : ∀ a : Nat, Dig l → decFrom a l = some (dvf a l) := by
  induction l with
  | nil => intro a _; rfl
  | cons b r ih =>
    intro a h
    have hb := h b (by simp)
    have hr : Dig r := fun x hx => h x (by simp [hx])
    simp only [decFrom, digitVal, if_pos hb]
    exact ih _ hr

theorem dv_lt {l : List UInt8} (h : Dig l) : dv l < 10 ^ l.length := by
  have := decFrom_lt l 0 _ (decFrom_dvf l 0 h)
  rw [Nat.zero_add, Nat.one_mul] at this
  exact this

theorem toNat_digit {d : Nat} (h : d < 10) : (UInt8.ofNat (48 + d)).toNat = 48 + d := by
  rw [UInt8.toNat_ofNat']; omega

theorem dig_decDigits (u : Nat) : Dig (decDigits u) := by
  induction u using Nat.strongRecOn with
  | _ u ih =>
    rw [decDigits]
    split
    · rename_i h
      intro b hb
      simp at hb; subst hb
      have := toNat_digit h; simp at this ⊢; omega
    · intro b hb
      rw [List.mem_append] at hb
      rcases hb with hb | hb
      · exact ih (u / 10) (by omega) b hb
      · simp at hb; subst hb
        have := toNat_digit (show u % 10 < 10 by omega); simp at this ⊢; omega

theorem dv_decDigits (u : Nat) : dv (decDigits u) = u := by
  induction u using Nat.strongRecOn with
  | _ u ih =>
    rw [decDigits]
    split
    · rename_i h
      rw [dv_one, toNat_digit h]; omega
    · rw [dv_append, ih (u / 10) (by omega), dv_one, toNat_digit (by omega)]; simp; omega

theorem decDigits_ne (u : Nat) : decDigits u ≠ [] := by
  rw [decDigits]; split <;> simp

/-- digits without a 0 in front, or the one digit -/
def Can (l : List UInt8) : Prop := Dig l ∧ l ≠ [] ∧ (l.head? = some 48 → l.length = 1)

theorem can_snoc {l : List UInt8} {b : UInt8} (h : Can (l ++ [b])) (hl : l ≠ []) : Can l := by
  refine ⟨fun x hx => h.1 x (by simp [hx]), hl, fun hh => ?_⟩
  have := h.2.2 (by rw [List.head?_append]; simp [hh])
  simp at this; exact absurd this hl

theorem dv_pos {l : List UInt8} (h : Can l) (h0 : l.head? ≠ some 48) : 1 ≤ dv l := by
  obtain ⟨hd, hn, -⟩ := h
  cases l with
  | nil => exact absurd rfl hn
  | cons b r =>
    have hb := hd b (by simp)
    have : b.toNat ≠ 48 := fun e => h0 (by simp; exact UInt8.toNat_inj.1 (by simpa using e))
    show 1 ≤ dvf (0 * 10 + (b.toNat - 48)) r
    rw [dvf_eq]
    have : 1 * 10 ^ r.length ≤ (0 * 10 + (b.toNat - 48)) * 10 ^ r.length := Nat.mul_le_mul_right _ (by omega)
    have := Nat.pow_pos (n := r.length) (show 0 < 10 by decide)
    omega

theorem digit_of {b : UInt8} (h : 48 ≤ b.toNat ∧ b.toNat ≤ 57) : UInt8.ofNat (48 + (b.toNat - 48)) = b := by
  apply UInt8.toNat_inj.1; rw [UInt8.toNat_ofNat']; omega

theorem can_eq : ∀ (n : Nat) (l : List UInt8), l.length = n → Can l → decDigits (dv l) = l
  | 0, l, hl, h => absurd (List.length_eq_zero_iff.1 hl) h.2.1
  | n + 1, l, hl, h => by
    obtain ⟨m, b, rfl⟩ : ∃ m b, l = m ++ [b] := ⟨l.dropLast, l.getLast h.2.1, (List.dropLast_concat_getLast h.2.1).symm⟩
    have hb := h.1 b (by simp)
    by_cases hm : m = []
    · subst hm
      rw [List.nil_append, dv_one, decDigits, dif_pos (by omega), digit_of hb]
    · have hc := can_snoc h hm
      have ih := can_eq n m (by simp at hl; omega) hc
      have h48 : m.head? ≠ some 48 := fun e => by
        have := h.2.2 (by rw [List.head?_append]; simp [e])
        simp at this; exact hm this
      have hp := dv_pos hc h48
      rw [dv_append, dv_one]
      simp only [List.length_singleton, Nat.pow_one]
      rw [decDigits, dif_neg (by omega), show (dv m * 10 + (b.toNat - 48)) / 10 = dv m by omega, show (dv m * 10 + (b.toNat - 48)) % 10 = b.toNat - 48 by omega, ih, digit_of hb]

theorem Can.eq {l : List UInt8} (h : Can l) : decDigits (dv l) = l := can_eq _ l rfl h

theorem can_decDigits (u : Nat) : Can (decDigits u) := by
  refine ⟨dig_decDigits u, decDigits_ne u, fun hh => ?_⟩
  rw [decDigits_length]
  -- a first digit 0 says: the number is 0
  have key : ∀ u : Nat, 1 ≤ u → (decDigits u).head? ≠ some 48 := by
    intro u
    induction u using Nat.strongRecOn with
    | _ u ih =>
      intro hu
      rw [decDigits]
      split
      · rename_i h
        simp
        intro e
        have := toNat_digit h
        have h2 : (UInt8.ofNat u).toNat = 0 := by rw [e]; rfl
        rw [UInt8.toNat_ofNat'] at h2; omega
      · rw [List.head?_append]
        cases hx : (decDigits (u / 10)).head? with
        | none => simp at hx; exact absurd hx (decDigits_ne _)
        | some c => simp; intro e; exact ih (u / 10) (by omega) (by omega) (by rw [hx, e])
  by_cases hu : u = 0
  · subst hu; exact nDigits_small (by omega)
  · exact absurd hh (key u (by omega))

theorem decDigits_inj {u v : Nat} (h : decDigits u = decDigits v) : u = v := by rw [← dv_decDigits u, h, dv_decDigits]

theorem decDigits_len_le {u k : Nat} (hk : 1 ≤ k) : (decDigits u).length ≤ k ↔ u < 10 ^ k := by
  constructor
  · intro h
    have h1 := dv_lt (dig_decDigits u)
    rw [dv_decDigits] at h1
    exact Nat.lt_of_lt_of_le h1 (Nat.pow_le_pow_right (by decide) h)
  · intro h
    rw [decDigits_length]
    by_cases hc : nDigits u ≤ k
    · exact hc
    · obtain ⟨m, hm⟩ : ∃ m, nDigits u = m + 1 := ⟨nDigits u - 1, by omega⟩
      have hlow : 10 ^ m ≤ u := by
        by_cases hm0 : m = 0
        · omega
        · have hu1 : 1 ≤ u := by
            by_cases h0 : u = 0
            · subst h0; rw [nDigits_small (by omega)] at hm; omega
            · omega
          -- nDigits u = m+1 → 10^m ≤ u
          have : ∀ (m u : Nat), nDigits u = m + 1 → 1 ≤ m → 10 ^ m ≤ u := by
            intro m
            induction m with
            | zero => intro u _ h; omega
            | succ m ih =>
              intro u hu _
              by_cases h10 : u < 10
              · rw [nDigits_small h10] at hu; omega
              · rw [nDigits_big h10] at hu
                rcases Nat.eq_zero_or_pos m with e | e
                · subst e; omega
                · have := ih (u / 10) (by omega) e
                  rw [Nat.pow_succ]; omega
          exact this m u hm (by omega)
      have := Nat.pow_le_pow_right (n := 10) (by decide) (show k ≤ m by omega)
      omega

/-- digits of a length with zeros in front -/
theorem dv_inj : ∀ (n : Nat) (l m : List UInt8), l.length = n → m.length = n → Dig l → Dig m → dv l = dv m → l = m
  | 0, l, m, hl, hm, _, _, _ => by rw [List.length_eq_zero_iff.1 hl, List.length_eq_zero_iff.1 hm]
  | n + 1, a :: l, b :: m, hl, hm, da, db, h => by
    simp only [List.length_cons, Nat.add_right_cancel_iff] at hl hm
    have e1 : dv (a :: l) = (a.toNat - 48) * 10 ^ n + dv l := by show dvf _ l = _; rw [dvf_eq, hl]; simp
    have e2 : dv (b :: m) = (b.toNat - 48) * 10 ^ n + dv m := by show dvf _ m = _; rw [dvf_eq, hm]; simp
    have h1 := dv_lt (l := l) (fun x hx => da x (by simp [hx])); rw [hl] at h1
    have h2 := dv_lt (l := m) (fun x hx => db x (by simp [hx])); rw [hm] at h2
    have ha := da a (by simp); have hb := db b (by simp)
    have hab : a.toNat - 48 = b.toNat - 48 := by
      have p := Nat.pow_pos (n := n) (show 0 < 10 by decide)
      have q1 : dv (a :: l) / 10 ^ n = a.toNat - 48 := by rw [e1, Nat.add_comm, Nat.add_mul_div_right _ _ p, Nat.div_eq_of_lt h1]; omega
      have q2 : dv (b :: m) / 10 ^ n = b.toNat - 48 := by rw [e2, Nat.add_comm, Nat.add_mul_div_right _ _ p, Nat.div_eq_of_lt h2]; omega
      rw [← q1, ← q2, h]
    have hE : a = b := UInt8.toNat_inj.1 (by omega)
    subst hE
    rw [dv_inj n l m hl hm (fun x hx => da x (by simp [hx])) (fun x hx => db x (by simp [hx])) (by omega)]

/-- a word with zeros in front, as nine digits -/
def pad9 (v : Nat) : List UInt8 := List.replicate (9 - (decDigits v).length) 48 ++ decDigits v

theorem dvf_zeros (k : Nat) : ∀ a : Nat, dvf a (List.replicate k 48) = a * 10 ^ k := by
  induction k with
  | zero => intro a; show a = a * 10 ^ 0; rw [Nat.pow_zero, Nat.mul_one]
  | succ k ih =>
    intro a
    show dvf (a * 10 + 0) (List.replicate k 48) = _
    rw [ih, Nat.pow_succ, Nat.add_zero, Nat.mul_assoc, Nat.mul_comm 10]

theorem pad9_len {v : Nat} (h : v < 1000000000) : (pad9 v).length = 9 := by
  have := (decDigits_len_le (u := v) (k := 9) (by omega)).2 (by simpa using h)
  simp [pad9]; omega
theorem pad9_dig (v : Nat) : Dig (pad9 v) := by
  intro b hb
  rw [pad9, List.mem_append] at hb
  rcases hb with hb | hb
  · rw [List.mem_replicate] at hb; rw [hb.2]; decide
  · exact dig_decDigits v b hb
theorem pad9_dv (v : Nat) : dv (pad9 v) = v := by
  show dvf 0 (List.replicate _ 48 ++ decDigits v) = v
  rw [dvf_append, dvf_zeros, Nat.zero_mul]
  exact dv_decDigits v

theorem decDigits_join {u v : Nat} (hu : 1 ≤ u) (hv : v < 1000000000) : decDigits (u * 1000000000 + v) = decDigits u ++ pad9 v := by
  have hc : Can (decDigits u ++ pad9 v) := by
    have c := can_decDigits u
    refine ⟨fun b hb => ?_, by simp [decDigits_ne], fun hh => ?_⟩
    · rw [List.mem_append] at hb
      rcases hb with hb | hb
      · exact c.1 b hb
      · exact pad9_dig v b hb
    · exfalso
      rw [List.head?_append] at hh
      cases hx : (decDigits u).head? with
      | none => simp at hx; exact decDigits_ne _ hx
      | some d =>
        rw [hx] at hh; simp at hh; subst hh
        have h1 := c.2.2 hx
        have h2 : decDigits u = [48] := by
          match hd : decDigits u, h1, hx with
          | [x], _, hx => simp at hx; rw [hx]
        have := dv_decDigits u; rw [h2, dv_one] at this; simp at this; omega
  rw [← hc.eq, dv_append, dv_decDigits, pad9_dv, pad9_len hv]

/-! ### parsing -/
theorem parseUint10_dig (l : List UInt8) : ∀ a : Nat, Dig l → dvf a l < 1000000000000000000 → parseUint10 a l = .ok (dvf a l) := by
  induction l with
  | nil => intro a _ _; rfl
  | cons b r ih =>
    intro a h hlt
    have hb := h b (by simp)
    have hr : Dig r := fun x hx => h x (by simp [hx])
    have hlt' : dvf (a * 10 + (b.toNat - 48)) r < 1000000000000000000 := hlt
    have hle : a * 10 + (b.toNat - 48) ≤ dvf (a * 10 + (b.toNat - 48)) r := by
      rw [dvf_eq]
      have : (a * 10 + (b.toNat - 48)) * 1 ≤ (a * 10 + (b.toNat - 48)) * 10 ^ r.length := Nat.mul_le_mul_left _ (Nat.pow_pos (by decide))
      omega
    simp only [parseUint10, if_pos hb]
    rw [if_neg (by omega), if_neg (by omega)]
    exact ih _ hr hlt'

theorem dv_lt18 {l : List UInt8} (h : Dig l) (hl : l.length ≤ 18) : dv l < 1000000000000000000 :=
  Nat.lt_of_lt_of_le (dv_lt h) (Nat.le_trans (Nat.pow_le_pow_right (n := 10) (by decide) hl) (by decide))

theorem atoiAll_dig {l : List UInt8} (h : Dig l) (hn : l ≠ []) (hl : l.length ≤ 18) : atoiAll l = .ok (dv l) := by
  have hlt := dv_lt18 h hl
  have hp : parseUint10 0 l = .ok (dv l) := parseUint10_dig l 0 h hlt
  cases l with
  | nil => exact absurd rfl hn
  | cons c r =>
    have hc := h c (by simp)
    have e43 : ¬ (c.toNat = 43 ∨ c.toNat = 45) := by omega
    have e45 : ¬ c.toNat = 45 := by omega
    simp only [atoiAll, if_neg e43, parseMag, if_neg hn, hp]
    simp only [e45, not_false_eq_true, true_and, false_and, if_false]
    rw [if_neg (by omega)]

theorem atoiAll_neg {l : List UInt8} (h : Dig l) (hn : l ≠ []) (hl : l.length ≤ 18) : atoiAll (45 :: l) = .ok (-(dv l : Int)) := by
  have hlt := dv_lt18 h hl
  have hp : parseUint10 0 l = .ok (dv l) := parseUint10_dig l 0 h hlt
  have e45 : (45 : UInt8).toNat = 45 := rfl
  have hm : parseMag l = .ok (dv l) := by rw [parseMag, if_neg hn, hp]
  simp only [atoiAll, e45]
  simp [hm]
  omega

/-! ### numbers as texts -/
theorem itoa_inj {a b : Int} (h : itoa a = itoa b) : a = b := by
  unfold itoa at h
  have hd : ∀ u, (decDigits u).head? ≠ some 45 := fun u e => by
    have := dig_decDigits u 45 (List.mem_of_mem_head? (by rw [e]; rfl))
    simp at this
  split at h <;> split at h
  · have := decDigits_inj (List.cons.inj h).2; omega
  · exact absurd (by rw [← h]; rfl) (hd b.toNat)
  · exact absurd (by rw [h]; rfl) (hd a.toNat)
  · have := decDigits_inj h; omega

theorem itoa_neg {n : Int} (h : n < 0) : itoa n = 45 :: decDigits n.natAbs := by unfold itoa; rw [if_pos h]
theorem itoa_nonneg {n : Int} (h : 0 ≤ n) : itoa n = decDigits n.natAbs := by
  unfold itoa; rw [if_neg (by omega), show n.toNat = n.natAbs by omega]

theorem no_slash (n : Int) : (47 : UInt8) ∉ itoa n := by
  intro h
  unfold itoa at h
  split at h
  · rw [List.mem_cons] at h
    rcases h with h | h
    · cases h
    · have := dig_decDigits _ _ h; simp at this
  · have := dig_decDigits _ _ h; simp at this

/-! ### words from above, for the text -/
def hi (f : Nat → Int) (n j : Nat) : Nat := (val (sh f j) (n - j)).toNat

theorem val_sh_cons (f : Nat → Int) (j k : Nat) : val (sh f j) (k + 1) = val (sh f (j + 1)) k * B + f j := by
  have h := val_split (sh f j) 1 k
  rw [Nat.add_comm 1 k] at h
  rw [h]
  have e1 : val (sh f j) 1 = f j := by simp [val, sh]
  have e2 : val (sh (sh f j) 1) k = val (sh f (j + 1)) k := val_congr (fun i _ => by simp only [sh]; congr 1; omega)
  rw [e1, e2, Int.pow_succ, Int.pow_zero, Int.one_mul, Int.add_comm]

theorem hi_step {f n j} (hf : ∀ i, 0 ≤ f i ∧ f i < B) (hj : j < n) : hi f n j = hi f n (j + 1) * 1000000000 + (f j).toNat := by
  unfold hi
  rw [show n - j = (n - (j + 1)) + 1 by omega, val_sh_cons]
  have h1 := (val_bd (f := sh f (j + 1)) (k := n - (j + 1)) (fun i _ => hf _)).1
  have h2 := hf j
  unfold B at *; omega

theorem hi_top {f n} : hi f (n + 1) n = (f n).toNat := by
  unfold hi; rw [show n + 1 - n = 1 by omega]; simp [val, sh]

theorem hi_zero {f n} : hi f n 0 = (val f n).toNat := by
  unfold hi; congr 1; exact val_congr (fun i _ => by simp [sh])

theorem hi_pos {f n j} (h : Mag f (n + 1)) (hj : j ≤ n) : 1 ≤ hi f (n + 1) j := by
  have key : ∀ d, d ≤ n → 1 ≤ hi f (n + 1) (n - d) := by
    intro d
    induction d with
    | zero =>
      intro _
      rw [Nat.sub_zero, hi_top]
      have := h.wd n; rcases h.top with h0 | h0
      · omega
      · simp at h0; omega
    | succ d ih =>
      intro hd
      rw [hi_step h.wd (by omega), show n - (d + 1) + 1 = n - d by omega]
      have := ih (by omega); omega
  have := key (n - j) (by omega)
  rwa [show n - (n - j) = j by omega] at this

theorem text_step {f n j} (h : Mag f (n + 1)) (hj : j < n) : decDigits (hi f (n + 1) j) = decDigits (hi f (n + 1) (j + 1)) ++ pad9 (f j).toNat := by
  have h2 := h.wd j
  rw [hi_step h.wd (by omega), decDigits_join (hi_pos h (by omega)) (by unfold B at h2; omega)]

/-! ### words out of digits -/
theorem dv_nil : dv [] = 0 := rfl

/-- what the loop of read holds: m digits are left, k words are read -/
structure Rd (l : List UInt8) (m k : Nat) (f : Nat → Int) : Prop where
  eq : (dv l : Int) = dv (l.take m) * B ^ k + val f k
  wd : ∀ i, 0 ≤ f i ∧ f i < B
  z : ∀ i, k ≤ i → f i = 0
  len : m ≤ l.length ∧ (0 < m → m + 9 * k = l.length) ∧ 9 * k ≤ l.length + 8

theorem Rd.start (l : List UInt8) : Rd l l.length 0 (fun _ => 0) :=
  ⟨by simp [val], fun _ => by simp [B], fun _ _ => rfl, by omega⟩

theorem dig_take {l : List UInt8} (h : Dig l) (m : Nat) : Dig (l.take m) := fun b hb => h b (List.mem_of_mem_take hb)
theorem dig_drop {l : List UInt8} (h : Dig l) (m : Nat) : Dig (l.drop m) := fun b hb => h b (List.mem_of_mem_drop hb)

theorem Rd.step {l m k f} (h : Rd l m k f) (hd : Dig l) (hm : 0 < m) :
    Rd l (m - 9) (k + 1) (upd f k (dv ((l.take m).drop (m - 9)))) := by
  have hl := h.len
  have hc := dv_lt (dig_drop (dig_take hd m) (m - 9))
  have hlen : ((l.take m).drop (m - 9)).length = m - (m - 9) := by simp; omega
  rw [hlen] at hc
  have hcB : (dv ((l.take m).drop (m - 9)) : Int) < B := by
    have := Nat.pow_le_pow_right (n := 10) (by decide) (show m - (m - 9) ≤ 9 by omega)
    have e : (10 : Nat) ^ 9 = 1000000000 := by decide
    unfold B; omega
  have hsplit : dv (l.take m) = dv (l.take (m - 9)) * 10 ^ (m - (m - 9)) + dv ((l.take m).drop (m - 9)) := by
    have e : l.take m = l.take (m - 9) ++ (l.take m).drop (m - 9) := by
      conv => lhs; rw [← List.take_append_drop (m - 9) (l.take m)]
      rw [List.take_take, show min (m - 9) m = m - 9 by omega]
    conv => lhs; rw [e]
    rw [dv_append, hlen]
  have hpow : (dv (l.take (m - 9)) : Int) * ((10 ^ (m - (m - 9)) : Nat) : Int) = dv (l.take (m - 9)) * B := by
    by_cases h9 : 9 ≤ m
    · rw [show m - (m - 9) = 9 by omega]; rfl
    · rw [show m - 9 = 0 by omega, List.take_zero, dv_nil]; simp
  have hval : val (upd f k (dv ((l.take m).drop (m - 9)))) (k + 1) = val f k + dv ((l.take m).drop (m - 9)) * B ^ k := by
    simp only [val]; rw [upd_same, val_congr (f := upd f k _) (g := f) (fun i hi => upd_other (by omega))]
  refine ⟨?_, ?_, ?_, by omega, by omega, by omega⟩
  · rw [hval, h.eq, hsplit, pow_succ']
    have : ((dv (l.take (m - 9)) * 10 ^ (m - (m - 9)) + dv ((l.take m).drop (m - 9)) : Nat) : Int) = dv (l.take (m - 9)) * B + dv ((l.take m).drop (m - 9)) := by
      rw [Int.natCast_add, Int.natCast_mul, hpow]
    rw [this]; grind
  · intro i
    by_cases e : i = k
    · subst e; rw [upd_same]; omega
    · rw [upd_other e]; exact h.wd i
  · intro i hi; rw [upd_other (by omega)]; exact h.z i (by omega)

theorem Rd.done {l k f} (h : Rd l 0 k f) : val f k = dv l := by
  have := h.eq; rw [List.take_zero, dv_nil] at this; omega

/-! ### quotients in lowest terms -/
def rg (n d : Int) : Int := if d < 0 then -(Int.gcd n d : Int) else Int.gcd n d
def rn (n d : Int) : Int := n / rg n d
def rd (n d : Int) : Int := d / rg n d

theorem rg_dvd (n d : Int) : rg n d ∣ n ∧ rg n d ∣ d := by
  unfold rg; split
  · exact ⟨Int.neg_dvd.2 (Int.gcd_dvd_left ..), Int.neg_dvd.2 (Int.gcd_dvd_right ..)⟩
  · exact ⟨Int.gcd_dvd_left .., Int.gcd_dvd_right ..⟩

theorem gcd_pos' {n d : Int} (hd : d ≠ 0) : 0 < (Int.gcd n d : Int) := by
  have := Int.gcd_pos_of_ne_zero_right n hd; omega

theorem rg_ne {n d : Int} (hd : d ≠ 0) : rg n d ≠ 0 := by
  have := gcd_pos' (n := n) hd; unfold rg; split <;> omega

theorem rn_mul (n d : Int) : rn n d * rg n d = n := Int.ediv_mul_cancel (rg_dvd n d).1
theorem rd_mul (n d : Int) : rd n d * rg n d = d := Int.ediv_mul_cancel (rg_dvd n d).2

theorem rd_pos {n d : Int} (hd : d ≠ 0) : 0 < rd n d := by
  have h := rd_mul n d
  have hg := gcd_pos' (n := n) hd
  rcases Int.lt_trichotomy (rd n d) 0 with h1 | h1 | h1
  · exfalso
    unfold rg at h
    split at h
    · have : 0 < rd n d * -(Int.gcd n d : Int) := Int.mul_pos_of_neg_of_neg h1 (by omega)
      omega
    · have : rd n d * (Int.gcd n d : Int) < 0 := Int.mul_neg_of_neg_of_pos h1 hg
      omega
  · rw [h1] at h; omega
  · exact h1

theorem r_coprime {n d : Int} (hd : d ≠ 0) : Int.gcd (rn n d) (rd n d) = 1 := by
  have h1 := Int.gcd_mul_right (rn n d) (rg n d) (rd n d)
  rw [rn_mul, rd_mul] at h1
  have hg := gcd_pos' (n := n) hd
  have h2 : (rg n d).natAbs = Int.gcd n d := by unfold rg; split <;> omega
  rw [h2] at h1
  have h3 : Int.gcd (rn n d) (rd n d) * Int.gcd n d = 1 * Int.gcd n d := by omega
  exact Nat.eq_of_mul_eq_mul_right (by omega) h3

theorem r_cross (n d : Int) : rn n d * d = n * rd n d := by
  have h1 := rn_mul n d; have h2 := rd_mul n d
  calc rn n d * d = rn n d * (rd n d * rg n d) := by rw [h2]
    _ = (rn n d * rg n d) * rd n d := by grind
    _ = _ := by rw [h1]

/-- two quotients in lowest terms that are equal are the same -/
theorem low_unique {p q p' q' : Int} (hq : 0 < q) (hq' : 0 < q') (h1 : Int.gcd p q = 1) (h2 : Int.gcd p' q' = 1) (h : p * q' = p' * q) : p = p' ∧ q = q' := by
  have d1 : q ∣ q' := by
    have : q ∣ p * q' := ⟨p', by rw [h, Int.mul_comm]⟩
    have hc : Nat.Coprime q.natAbs p.natAbs := by rw [Nat.coprime_comm]; exact h1
    have h3 := Int.natAbs_dvd_natAbs.2 this
    rw [Int.natAbs_mul] at h3
    exact Int.natAbs_dvd_natAbs.1 (hc.dvd_of_dvd_mul_left h3)
  have d2 : q' ∣ q := by
    have : q' ∣ p' * q := ⟨p, by rw [← h, Int.mul_comm]⟩
    have hc : Nat.Coprime q'.natAbs p'.natAbs := by rw [Nat.coprime_comm]; exact h2
    have h3 := Int.natAbs_dvd_natAbs.2 this
    rw [Int.natAbs_mul] at h3
    exact Int.natAbs_dvd_natAbs.1 (hc.dvd_of_dvd_mul_left h3)
  have e := Int.dvd_antisymm (by omega) (by omega) d1 d2
  subst e
  exact ⟨Int.eq_of_mul_eq_mul_right (by omega) h, rfl⟩

theorem r_of_low {n d p q : Int} (hd : d ≠ 0) (hq : 0 < q) (h1 : Int.gcd p q = 1) (h : p * d = n * q) : rn n d = p ∧ rd n d = q := by
  refine low_unique (rd_pos hd) hq (r_coprime hd) h1 ?_
  have h2 := r_cross n d
  have h3 : (rn n d * q) * d = (p * rd n d) * d := by
    calc (rn n d * q) * d = (rn n d * d) * q := by grind
      _ = n * rd n d * q := by rw [h2]
      _ = (n * q) * rd n d := by grind
      _ = (p * d) * rd n d := by rw [h]
      _ = _ := by grind
  exact Int.eq_of_mul_eq_mul_right hd h3

theorem r_eq {n d n' d' : Int} (hd : d ≠ 0) (hd' : d' ≠ 0) (h : n * d' = n' * d) : rn n d = rn n' d' ∧ rd n d = rd n' d' := by
  refine r_of_low hd (rd_pos hd') (r_coprime hd') ?_
  have h2 := r_cross n' d'
  have : (rn n' d' * d) * d' = (n * rd n' d') * d' := by
    calc (rn n' d' * d) * d' = (rn n' d' * d') * d := by grind
      _ = n' * rd n' d' * d := by rw [h2]
      _ = (n' * d) * rd n' d' := by grind
      _ = (n * d') * rd n' d' := by rw [h]
      _ = _ := by grind
  exact Int.eq_of_mul_eq_mul_right hd' this

/-- the text of a quotient in lowest terms -/
def rtxt (p q : Int) : List UInt8 := if q = 1 then itoa p else itoa p ++ 47 :: itoa q

theorem split_slash {a b c d : List UInt8} (ha : (47 : UInt8) ∉ a) (hc : (47 : UInt8) ∉ c) (h : a ++ 47 :: b = c ++ 47 :: d) : a = c ∧ b = d := by
  induction a generalizing c with
  | nil =>
    cases c with
    | nil => exact ⟨rfl, (List.cons.inj h).2⟩
    | cons x c => have := (List.cons.inj h).1; subst this; simp at hc
  | cons y a ih =>
    cases c with
    | nil => have := (List.cons.inj h).1; subst this; simp at ha
    | cons x c =>
      obtain ⟨h1, h2⟩ := List.cons.inj h
      subst h1
      obtain ⟨e1, e2⟩ := ih (fun hx => ha (by simp [hx])) (fun hx => hc (by simp [hx])) h2
      exact ⟨by rw [e1], e2⟩

theorem rtxt_inj {p q p' q' : Int} (h : rtxt p q = rtxt p' q') : p = p' ∧ q = q' := by
  unfold rtxt at h
  split at h <;> split at h
  · rename_i h1 h2; exact ⟨itoa_inj h, by omega⟩
  · exact absurd (by rw [h]; simp) (no_slash p)
  · exact absurd (by rw [← h]; simp) (no_slash p')
  · obtain ⟨h1, h2⟩ := split_slash (no_slash _) (no_slash _) h
    exact ⟨itoa_inj h1, itoa_inj h2⟩

end Mb

namespace Mb
open Go.Lib

def cmp3 (a b : Int) : Int := if a < b then -1 else if b < a then 1 else 0

theorem cmp3_add (k x y : Int) : cmp3 (k + x) (k + y) = cmp3 x y := by
  unfold cmp3; repeat' split
  all_goals first | rfl | omega

theorem dv_cons (b : UInt8) (l : List UInt8) : dv (b :: l) = (b.toNat - 48) * 10 ^ l.length + dv l := by
  rw [show b :: l = [b] ++ l from rfl, dv_append, dv_one]

/-- digits of one length compare as their values do -/
theorem compare_dig : ∀ {l m : List UInt8}, l.length = m.length → Dig l → Dig m → compareBytes l m = cmp3 (dv l) (dv m)
  | [], [], _, _, _ => by rw [dv_nil, show compareBytes [] [] = 0 by simp only [compareBytes]]; rfl
  | [], _ :: _, h, _, _ => by simp at h
  | _ :: _, [], h, _, _ => by simp at h
  | a :: l, b :: m, h, hl, hm => by
    have hlen : l.length = m.length := by simpa using h
    have ih := compare_dig hlen (fun x hx => hl x (by simp [hx])) (fun x hx => hm x (by simp [hx]))
    have ha := hl a (by simp)
    have hb := hm b (by simp)
    have l1 := dv_lt (l := l) (fun x hx => hl x (by simp [hx]))
    have l2 := dv_lt (l := m) (fun x hx => hm x (by simp [hx]))
    rw [dv_cons, dv_cons, hlen]
    rw [hlen] at l1
    have hp : 0 < 10 ^ m.length := Nat.pow_pos (by decide)
    unfold compareBytes
    generalize 10 ^ m.length = P at *
    by_cases h1 : a < b
    · rw [if_pos h1]
      have h1' : a.toNat < b.toNat := h1
      have h2 : (a.toNat - 48 + 1) * P ≤ (b.toNat - 48) * P := Nat.mul_le_mul_right _ (by omega)
      rw [Nat.add_mul] at h2
      unfold cmp3
      rw [if_pos (by omega)]
    · rw [if_neg h1]
      have h1' : ¬ a.toNat < b.toNat := h1
      by_cases h2 : b < a
      · rw [if_pos h2]
        have h2' : b.toNat < a.toNat := h2
        have h3 : (b.toNat - 48 + 1) * P ≤ (a.toNat - 48) * P := Nat.mul_le_mul_right _ (by omega)
        rw [Nat.add_mul] at h3
        unfold cmp3
        rw [if_neg (by omega), if_pos (by omega)]
      · rw [if_neg h2, ih]
        have h2' : ¬ b.toNat < a.toNat := h2
        have e : a.toNat = b.toNat := by omega
        rw [e]
        rw [Int.natCast_add, Int.natCast_add, cmp3_add]

/-- the order of magnitudes by length, then by bytes -/
def ordL (l m : List UInt8) : Int := if l.length ≠ m.length then (if l.length < m.length then -1 else 1) else compareBytes l m

theorem len_lt {u v : Nat} (h : (decDigits u).length < (decDigits v).length) : u < v := by
  have hp : 1 ≤ (decDigits u).length := by have := decDigits_ne u; cases hx : decDigits u <;> simp_all
  have h1 := (decDigits_len_le (u := u) hp).1 (Nat.le_refl _)
  rcases Nat.lt_or_ge v (10 ^ (decDigits u).length) with h2 | h2
  · have := (decDigits_len_le (u := v) hp).2 h2; omega
  · omega

theorem ordL_dec (u v : Nat) : ordL (decDigits u) (decDigits v) = cmp3 u v := by
  unfold ordL
  by_cases h : (decDigits u).length ≠ (decDigits v).length
  · rw [if_pos h]
    by_cases h1 : (decDigits u).length < (decDigits v).length
    · rw [if_pos h1]; have := len_lt h1; unfold cmp3; rw [if_pos (by omega)]
    · rw [if_neg h1]; have := len_lt (u := v) (v := u) (by omega); unfold cmp3; rw [if_neg (by omega), if_pos (by omega)]
  · rw [if_neg h, compare_dig (by omega) (dig_decDigits _) (dig_decDigits _), dv_decDigits, dv_decDigits]

/-- the sign of an integer -/
def sg (n : Int) : Int := if n = 0 then 0 else if n < 0 then -1 else 1

theorem cmp_signed (a b : Int) : (if sg a < sg b then -1 else if sg b < sg a then 1 else sg a * cmp3 (a.natAbs : Int) (b.natAbs : Int)) = cmp3 a b := by
  have e1 : ∀ {n : Int}, n < 0 → sg n = -1 := fun h => by unfold sg; rw [if_neg (by omega), if_pos h]
  have e2 : ∀ {n : Int}, n = 0 → sg n = 0 := fun h => by unfold sg; rw [if_pos h]
  have e3 : ∀ {n : Int}, 0 < n → sg n = 1 := fun h => by unfold sg; rw [if_neg (by omega), if_neg (by omega)]
  rcases Int.lt_trichotomy a 0 with ha | ha | ha <;> rcases Int.lt_trichotomy b 0 with hb | hb | hb <;> simp only [e1, e2, e3, ha, hb] <;> unfold cmp3 <;> repeat' split
  all_goals first | rfl | omega

theorem index_none : ∀ {l : List UInt8}, (47 : UInt8) ∉ l → index l [47] = -1
  | [], _ => by simp [index]
  | b :: l, h => by
    have h1 : (47 == b) = false := by rw [beq_eq_false_iff_ne]; intro e; subst e; simp at h
    unfold index
    rw [index_none (fun hx => h (by simp [hx]))]
    simp [List.isPrefixOf, h1]

theorem index_some : ∀ {l : List UInt8} (m : List UInt8), (47 : UInt8) ∉ l → index (l ++ 47 :: m) [47] = (l.length : Int)
  | [], m, _ => by simp [index, List.isPrefixOf]
  | b :: l, m, h => by
    have h1 : (47 == b) = false := by rw [beq_eq_false_iff_ne]; intro e; subst e; simp at h
    rw [List.cons_append]
    unfold index
    rw [index_some m (fun hx => h (by simp [hx]))]
    have h2 : ((l.length : Int) == -1) = false := by rw [beq_eq_false_iff_ne]; omega
    simp [List.isPrefixOf, h1, h2]

theorem cut_none {l : List UInt8} (h : (47 : UInt8) ∉ l) : Go.Lib.cut l [47] = (l, [], false) := by
  unfold Go.Lib.cut; rw [index_none h]; rfl

theorem cut_some {l : List UInt8} (m : List UInt8) (h : (47 : UInt8) ∉ l) : Go.Lib.cut (l ++ 47 :: m) [47] = (l, m, true) := by
  unfold Go.Lib.cut
  rw [index_some m h, if_pos (by omega)]
  simp

end Mb

namespace Mb
open Go.Lib

abbrev pw (k : Nat) : Int := (10 : Int) ^ k
theorem pw_pos (k : Nat) : 0 < pw k := Int.pow_pos (by decide)
theorem pw_succ (k : Nat) : pw (k + 1) = pw k * 10 := Int.pow_succ _ _
theorem pw_add (j k : Nat) : pw (j + k) = pw j * pw k := Int.pow_add _ _ _
theorem pw_mono {j k : Nat} (h : j ≤ k) : pw j ≤ pw k := by
  obtain ⟨d, rfl⟩ : ∃ d, k = j + d := ⟨k - j, by omega⟩
  rw [pw_add]
  have h1 := pw_pos j
  have h2 := pw_pos d
  have h3 : pw j * 1 ≤ pw j * pw d := Int.mul_le_mul_of_nonneg_left (by omega) (by omega)
  omega
theorem pw_nat (k : Nat) : ((10 ^ k : Nat) : Int) = pw k := by simp [pw]

theorem dvz_cons (b : UInt8) (l : List UInt8) : (dv (b :: l) : Int) = ((b.toNat - 48 : Nat) : Int) * pw l.length + dv l := by
  rw [dv_cons, Int.natCast_add, Int.natCast_mul, pw_nat]
theorem dvz_snoc (l : List UInt8) (b : UInt8) : (dv (l ++ [b]) : Int) = dv l * 10 + ((b.toNat - 48 : Nat) : Int) := by
  rw [dv_append, dv_one]; simp
theorem dvz_lt {l : List UInt8} (h : Dig l) : (dv l : Int) < pw l.length := by
  have := dv_lt h; rw [← pw_nat]; omega
theorem dvz_drop {l : List UInt8} {i : Nat} (h : i < l.length) : (dv (l.drop i) : Int) = ((l[i].toNat - 48 : Nat) : Int) * pw (l.length - (i + 1)) + dv (l.drop (i + 1)) := by
  rw [List.drop_eq_getElem_cons h, dvz_cons, List.length_drop]
theorem dvz_take {l : List UInt8} {i : Nat} (h : i < l.length) : (dv (l.take (i + 1)) : Int) = dv (l.take i) * 10 + ((l[i].toNat - 48 : Nat) : Int) := by
  rw [List.take_succ_eq_append_getElem h, dvz_snoc]

/-- zeros in front -/
theorem dv_zeros (k : Nat) (l : List UInt8) : dv (List.replicate k 48 ++ l) = dv l := by
  show dvf 0 _ = dvf 0 l
  rw [dvf_append, dvf_zeros, Nat.zero_mul]
theorem dig_zeros {l : List UInt8} (k : Nat) (h : Dig l) : Dig (List.replicate k 48 ++ l) := by
  intro b hb
  rcases List.mem_append.1 hb with h1 | h1
  · rw [(List.mem_replicate.1 h1).2]; decide
  · exact h b h1

theorem bare_done {t : List UInt8} (hd : Dig t) (hn : t ≠ []) (h : 1 < t.length → t.head? ≠ some 48) : t = decDigits (dv t) := by
  refine (Can.eq ⟨hd, hn, fun h1 => ?_⟩).symm
  have h2 : 0 < t.length := List.length_pos_iff.2 hn
  by_cases h3 : 1 < t.length
  · exact absurd h1 (h h3)
  · omega

theorem bare_step {t : List UInt8} (ht : 1 < t.length) (h : t.head? = some 48) (hd : Dig t) : dv (t.drop 1) = dv t ∧ Dig (t.drop 1) ∧ (t.drop 1).length + 1 = t.length := by
  match t, ht with
  | b :: l, ht =>
    have hb : b = 48 := by simpa using h
    subst hb
    refine ⟨?_, fun x hx => hd x (List.mem_of_mem_drop hx), by simp⟩
    rw [dv_cons]; simp

/-- a column's digit and carry -/
def cd (n : Int) : Int := if 9 < n then n - 10 else if n < 0 then n + 10 else n
def cc (n : Int) : Int := if 9 < n then 1 else if n < 0 then 1 else 0
/-- sg is 1 where digits are added, -1 where they are taken away -/
theorem col_ok {g x y c : Int} (hg : g = 1 ∨ g = -1) (hx : 0 ≤ x ∧ x ≤ 9) (hy : 0 ≤ y ∧ y ≤ 9) (hc : c = 0 ∨ c = 1) :
    x + g * (y + c) = g * (10 * cc (x + g * (y + c))) + cd (x + g * (y + c)) ∧ 0 ≤ cd (x + g * (y + c)) ∧ cd (x + g * (y + c)) ≤ 9 ∧ (cc (x + g * (y + c)) = 0 ∨ cc (x + g * (y + c)) = 1) := by
  rcases hg with rfl | rfl <;> (unfold cd cc; repeat' split) <;> omega

/-- the columns from i on are done -/
structure Pap (A C : List UInt8) (g : Int) (i : Nat) (c : Int) (t : List UInt8) : Prop where
  len : t.length + i = A.length
  dig : Dig t
  cb : c = 0 ∨ c = 1
  eq : (dv (A.drop i) : Int) + g * dv (C.drop i) = g * c * pw t.length + dv t

theorem Pap.start (A C : List UInt8) (hl : C.length = A.length) (g : Int) : Pap A C g A.length 0 [] :=
  ⟨by simp, fun _ h => (by cases h), .inl rfl, by rw [List.drop_of_length_le (Nat.le_refl _), List.drop_of_length_le (by omega)]; simp [dv_nil]⟩

theorem Pap.step {A C : List UInt8} {g : Int} {i : Nat} {c : Int} {t : List UInt8} {d : UInt8} (h : Pap A C g (i + 1) c t) (hg : g = 1 ∨ g = -1) (hl : C.length = A.length) (hA : Dig A) (hC : Dig C) (hi : i < A.length)
    (hd : (d.toNat : Int) = 48 + cd (((A[i].toNat - 48 : Nat) : Int) + g * (((C[i]'(by omega)).toNat - 48 : Nat) + c))) :
    Pap A C g i (cc (((A[i].toNat - 48 : Nat) : Int) + g * (((C[i]'(by omega)).toNat - 48 : Nat) + c))) (d :: t) := by
  have hx := hA A[i] (List.getElem_mem _)
  have hy := hC (C[i]'(by omega)) (List.getElem_mem _)
  have e1 := dvz_drop (l := A) (i := i) hi
  have e2 := dvz_drop (l := C) (i := i) (by omega)
  have hk : A.length - (i + 1) = t.length := by have := h.len; omega
  have hk2 : C.length - (i + 1) = t.length := by omega
  rw [hk] at e1
  rw [hk2] at e2
  obtain ⟨k1, k2, k3, k4⟩ := col_ok (g := g) (x := ((A[i].toNat - 48 : Nat) : Int)) (y := (((C[i]'(by omega)).toNat - 48 : Nat) : Int)) (c := c) hg (by omega) (by omega) h.cb
  have h4 := h.eq
  have hd2 : ((d.toNat - 48 : Nat) : Int) = cd (((A[i].toNat - 48 : Nat) : Int) + g * (((C[i]'(by omega)).toNat - 48 : Nat) + c)) := by omega
  refine ⟨by have := h.len; simp only [List.length_cons]; omega, fun b hb => ?_, k4, ?_⟩
  · rcases List.mem_cons.1 hb with rfl | hb
    · omega
    · exact h.dig b hb
  · rw [e1, e2, List.length_cons, pw_succ, dvz_cons, hd2]
    generalize cd (((A[i].toNat - 48 : Nat) : Int) + g * (((C[i]'(by omega)).toNat - 48 : Nat) + c)) = D at *
    generalize cc (((A[i].toNat - 48 : Nat) : Int) + g * (((C[i]'(by omega)).toNat - 48 : Nat) + c)) = E at *
    generalize ((A[i].toNat - 48 : Nat) : Int) = X at *
    generalize (((C[i]'(by omega)).toNat - 48 : Nat) : Int) = Y at *
    generalize (dv (A.drop (i + 1)) : Int) = P at *
    generalize (dv (C.drop (i + 1)) : Int) = Q at *
    generalize (dv t : Int) = R at *
    generalize pw t.length = Z at *
    grind

theorem Pap.done {a b A C t : List UInt8} {g c : Int} (h : Pap A C g 0 c t) (hg : g = 1 ∨ g = -1) (hn : A.length = max a.length b.length + 1) (ha : dv A = dv a) (hb : dv C = dv b) (hda : Dig a) (hdb : Dig b) (hle : g = -1 → dv b ≤ dv a) :
    (dv t : Int) = dv a + g * dv b := by
  have h1 := h.eq
  have hlen := h.len
  rw [List.drop_zero, List.drop_zero, ha, hb] at h1
  have h2 := dvz_lt h.dig
  have h3 := dvz_lt hda
  have h4 := dvz_lt hdb
  have h5 := pw_mono (show a.length ≤ t.length - 1 by omega)
  have h6 := pw_mono (show b.length ≤ t.length - 1 by omega)
  have h7 : pw t.length = pw (t.length - 1) * 10 := by rw [← pw_succ]; congr 1; omega
  rcases h.cb with rfl | rfl
  · rw [Int.mul_zero, Int.zero_mul] at h1; omega
  · exfalso
    rcases hg with rfl | rfl
    · omega
    · have := hle rfl; omega

/-- prefixes of columns as numbers -/
def cv (f : Nat → Int) : Nat → Int
  | 0 => 0
  | k + 1 => cv f k * 10 + f k

theorem cv_upd (f : Nat → Int) (j : Nat) (v : Int) : ∀ k, cv (upd f j v) k = if j < k then cv f k + (v - f j) * pw (k - 1 - j) else cv f k
  | 0 => by simp [cv]
  | k + 1 => by
    have ih := cv_upd f j v k
    simp only [cv]
    rw [ih]
    by_cases h1 : j < k
    · rw [if_pos h1, if_pos (by omega), upd_other (by omega)]
      have : k + 1 - 1 - j = (k - 1 - j) + 1 := by omega
      rw [this, pw_succ]
      generalize pw (k - 1 - j) = Z
      grind
    · rw [if_neg h1]
      by_cases h2 : j = k
      · subst h2; rw [upd_same, if_pos (by omega)]
        have : j + 1 - 1 - j = 0 := by omega
        rw [this]; simp [pw]
        omega
      · rw [if_neg (by omega), upd_other (by omega)]

theorem cv_zero : ∀ k, cv (fun _ => 0) k = 0
  | 0 => rfl
  | k + 1 => by simp [cv, cv_zero k]

/-- the columns of a product, i rows and k digits of the next one -/
structure Col (a b : List UInt8) (i k : Nat) (f : Nat → Int) : Prop where
  eq : cv f (a.length + b.length) = dv (a.take i) * pw (a.length - i) * dv b + ((a.getD i 48).toNat - 48 : Nat) * pw (a.length - 1 - i) * (dv (b.take k) * pw (b.length - k))
  bd : ∀ j, 0 ≤ f j ∧ f j ≤ 81 * (i * b.length + k)

theorem Col.start (a b : List UInt8) : Col a b 0 0 (fun _ => 0) := ⟨by rw [cv_zero]; simp [dv_nil], fun _ => by simp⟩

theorem dig9 {l : List UInt8} (h : Dig l) (i : Nat) : ((l.getD i 48).toNat - 48 : Nat) ≤ 9 := by
  unfold List.getD
  cases hh : l[i]? with
  | none => simp
  | some b => have := h b (List.mem_of_getElem? hh); simp; omega

theorem Col.step {a b : List UInt8} {i k : Nat} {f : Nat → Int} (h : Col a b i k f) (ha : Dig a) (hb : Dig b) (hi : i < a.length) (hk : k < b.length) :
    Col a b i (k + 1) (upd f (i + k + 1) (f (i + k + 1) + ((a.getD i 48).toNat - 48 : Nat) * ((b.getD k 48).toNat - 48 : Nat))) := by
  have hx := dig9 ha i
  have hy := dig9 hb k
  refine ⟨?_, fun j => ?_⟩
  · rw [cv_upd, if_pos (by omega), h.eq, dvz_take hk]
    have e1 : a.length + b.length - 1 - (i + k + 1) = (a.length - 1 - i) + (b.length - (k + 1)) := by omega
    have e2 : b.length - k = (b.length - (k + 1)) + 1 := by omega
    have e3 : (b.getD k 48) = b[k] := by simp [List.getD, hk]
    rw [e1, pw_add, e2, pw_succ, e3]
    generalize (((a.getD i 48).toNat - 48 : Nat) : Int) = X
    generalize ((b[k].toNat - 48 : Nat) : Int) = Y
    generalize pw (a.length - 1 - i) = P
    generalize pw (b.length - (k + 1)) = Q
    grind
  · have hj := h.bd j
    have hm : 0 ≤ ((((a.getD i 48).toNat - 48 : Nat) : Int) * (((b.getD k 48).toNat - 48 : Nat) : Int)) ∧ ((((a.getD i 48).toNat - 48 : Nat) : Int) * (((b.getD k 48).toNat - 48 : Nat) : Int)) ≤ 81 := by
      have := Nat.mul_le_mul hx hy
      rw [← Int.natCast_mul]; omega
    have e : (81 * ((i : Int) * b.length + ((k + 1 : Nat) : Int))) = 81 * (i * b.length + k) + 81 := by rw [Int.natCast_add]; grind
    rw [e]
    by_cases h1 : j = i + k + 1
    · subst h1; rw [upd_same]; omega
    · rw [upd_other h1]; omega

theorem Col.row {a b : List UInt8} {i : Nat} {f : Nat → Int} (h : Col a b i b.length f) (hi : i < a.length) : Col a b (i + 1) 0 f := by
  refine ⟨?_, fun j => ?_⟩
  · have e1 : a.length - i = (a.length - (i + 1)) + 1 := by omega
    have e2 : a.length - 1 - i = a.length - (i + 1) := by omega
    have e3 : (a.getD i 48) = a[i] := by simp [List.getD, hi]
    have h1 := h.eq
    rw [h1, dvz_take hi, List.take_of_length_le (Nat.le_refl _), e1, pw_succ, e2, e3, List.take_zero, dv_nil]
    have e4 : b.length - b.length = 0 := by omega
    rw [e4]
    generalize ((a[i].toNat - 48 : Nat) : Int) = X
    generalize pw (a.length - (i + 1)) = P
    simp only [pw, Int.pow_zero]
    grind
  · have := h.bd j
    have e : (81 * (((i + 1 : Nat) : Int) * b.length + (0 : Nat))) = 81 * (i * b.length + b.length) := by rw [Int.natCast_add]; grind
    rw [e]; exact this

theorem Col.done {a b : List UInt8} {f : Nat → Int} (h : Col a b a.length 0 f) : cv f (a.length + b.length) = dv a * dv b := by
  have h1 := h.eq
  rw [h1, List.take_of_length_le (Nat.le_refl _), List.take_zero, dv_nil]
  have e4 : a.length - a.length = 0 := by omega
  rw [e4]; simp [pw]

/-- the columns from i on are carried -/
structure Car (f : Nat → Int) (n i : Nat) (c : Int) (t : List UInt8) : Prop where
  len : t.length + i = n
  dig : Dig t
  eq : cv f n = (cv f i + c) * pw t.length + dv t

theorem Car.start (f : Nat → Int) (n : Nat) : Car f n n 0 [] := ⟨by simp, fun _ h => (by cases h), by simp [pw, dv_nil]⟩

theorem Car.step {f : Nat → Int} {n i : Nat} {c : Int} {t : List UInt8} {d : UInt8} (h : Car f n (i + 1) c t) (hd : (d.toNat : Int) = 48 + (c + f i) % 10) : Car f n i ((c + f i) / 10) (d :: t) := by
  have h4 := h.eq
  have hd2 : ((d.toNat - 48 : Nat) : Int) = (c + f i) % 10 := by omega
  refine ⟨by have := h.len; simp only [List.length_cons]; omega, fun b hb => ?_, ?_⟩
  · rcases List.mem_cons.1 hb with rfl | hb
    · omega
    · exact h.dig b hb
  · rw [h4, List.length_cons, pw_succ, dvz_cons, hd2]
    simp only [cv]
    have hs : c + f i = 10 * ((c + f i) / 10) + (c + f i) % 10 := by omega
    generalize (c + f i) / 10 = E at *
    generalize (c + f i) % 10 = D at *
    generalize pw t.length = Z at *
    generalize (dv t : Int) = R at *
    generalize cv f i = V at *
    grind

theorem Car.done {f : Nat → Int} {n : Nat} {c : Int} {t : List UInt8} (h : Car f n 0 c t) (hc : 0 ≤ c) (hlt : cv f n < pw n) : (dv t : Int) = cv f n := by
  have h1 := h.eq
  have hl : t.length = n := by have := h.len; omega
  rw [hl] at h1
  have hz : c = 0 := by
    by_cases h0 : c = 0
    · exact h0
    · exfalso
      have h2 : 1 * pw n ≤ c * pw n := Int.mul_le_mul_of_nonneg_right (by omega) (Int.le_of_lt (pw_pos n))
      simp only [cv] at h1
      rw [Int.zero_add] at h1
      omega
  subst hz
  simp only [cv] at h1
  rw [h1]; simp

theorem prod_lt {a b : List UInt8} (ha : Dig a) (hb : Dig b) : (dv a : Int) * dv b < pw (a.length + b.length) := by
  have h1 := dvz_lt ha
  have h2 := dvz_lt hb
  rw [pw_add]
  refine Int.lt_of_le_of_lt (Int.mul_le_mul_of_nonneg_left (Int.le_of_lt h2) (by omega)) ?_
  exact Int.mul_lt_mul_of_pos_right h1 (pw_pos _)

/-- a digit of a long division -/
theorem div_step {r v x d : Nat} (hr : r < v) (hx : x ≤ 9) (h : d * v ≤ r * 10 + x) : d ≤ 9 := by
  by_cases h1 : d ≤ 9
  · exact h1
  · exfalso
    have h2 : 10 * v ≤ d * v := Nat.mul_le_mul_right _ (by omega)
    omega

end Mb

namespace Mb


structure P2 where
  x : Int
  y : Int
deriving DecidableEq

structure P3 where
  x : Int
  y : Int
  z : Int
deriving DecidableEq

def Rt1 (n : Int) : Prop := -100000 ≤ n ∧ n ≤ 100000
def Rt2 (p : P2) : Prop := Rt1 p.x ∧ Rt1 p.y
def Rt3 (p : P3) : Prop := Rt1 p.x ∧ Rt1 p.y ∧ Rt1 p.z
instance (n) : Decidable (Rt1 n) := by unfold Rt1; infer_instance
instance (p) : Decidable (Rt2 p) := by unfold Rt2; infer_instance
instance (p) : Decidable (Rt3 p) := by unfold Rt3; infer_instance

def crs (a b c : P2) : Int := (b.x - a.x) * (c.y - a.y) - (b.y - a.y) * (c.x - a.x)
def dt (a b : P2) : Int := a.x * b.x + a.y * b.y
def far (a b : P2) : Int := (b.x - a.x) * (b.x - a.x) + (b.y - a.y) * (b.y - a.y)

def sub3 (a b : P3) : P3 := ⟨a.x - b.x, a.y - b.y, a.z - b.z⟩
def vec (a b : P3) : P3 := ⟨a.y * b.z - a.z * b.y, a.z * b.x - a.x * b.z, a.x * b.y - a.y * b.x⟩
def dt3 (a b : P3) : Int := a.x * b.x + a.y * b.y + a.z * b.z
def nrm (a b c : P3) : P3 := vec (sub3 b a) (sub3 c a)
def six (a b c d : P3) : Int := dt3 (nrm a b c) (sub3 d a)

theorem six_perm1 (a b c d : P3) : six b a c d = - six a b c d := by simp only [six, nrm, dt3, vec, sub3]; grind
theorem six_perm2 (a b c d : P3) : six a c b d = - six a b c d := by simp only [six, nrm, dt3, vec, sub3]; grind
theorem six_perm3 (a b c d : P3) : six a b d c = - six a b c d := by simp only [six, nrm, dt3, vec, sub3]; grind
theorem six_rot (a b c d : P3) : six b c d a = - six a b c d := by simp only [six, nrm, dt3, vec, sub3]; grind

/-- if all normals at o vanish, so does every volume -/
theorem six_flat {o a b c d : P3} (h1 : nrm o a b = ⟨0,0,0⟩) (h2 : nrm o a c = ⟨0,0,0⟩) (h3 : nrm o b c = ⟨0,0,0⟩) (h4 : nrm o a d = ⟨0,0,0⟩) (h5 : nrm o b d = ⟨0,0,0⟩) (h6 : nrm o c d = ⟨0,0,0⟩) : six a b c d = 0 := by
  simp only [nrm, vec, sub3, P3.mk.injEq] at h1 h2 h3 h4 h5 h6
  simp only [six, nrm, dt3, vec, sub3]
  obtain ⟨a1, a2, a3⟩ := h1
  obtain ⟨b1, b2, b3⟩ := h2
  obtain ⟨c1, c2, c3⟩ := h3
  grind

/-- if a normal that is not 0 is square to all, every volume is 0 -/
theorem six_plane {n o a b c d : P3} (hn : n ≠ ⟨0,0,0⟩) (ha : dt3 n (sub3 a o) = 0) (hb : dt3 n (sub3 b o) = 0) (hc : dt3 n (sub3 c o) = 0) (hd : dt3 n (sub3 d o) = 0) : six a b c d = 0 := by
  obtain ⟨n1, n2, n3⟩ := n
  simp only [dt3, sub3] at ha hb hc hd
  have k1 : six a b c d * n1 = 0 := by simp only [six, nrm, dt3, vec, sub3]; grind
  have k2 : six a b c d * n2 = 0 := by simp only [six, nrm, dt3, vec, sub3]; grind
  have k3 : six a b c d * n3 = 0 := by simp only [six, nrm, dt3, vec, sub3]; grind
  rcases Int.mul_eq_zero.1 k1 with h | h
  · exact h
  rcases Int.mul_eq_zero.1 k2 with h2 | h2
  · exact h2
  rcases Int.mul_eq_zero.1 k3 with h3 | h3
  · exact h3
  subst h h2 h3; exact absurd rfl hn

theorem crs_line {a b p q r : P2} (hab : a ≠ b) (hp : crs a b p = 0) (hq : crs a b q = 0) (hr : crs a b r = 0) : crs p q r = 0 := by
  simp only [crs] at *
  have k1 : ((q.x - p.x) * (r.y - p.y) - (q.y - p.y) * (r.x - p.x)) * (b.x - a.x) = 0 := by grind
  have k2 : ((q.x - p.x) * (r.y - p.y) - (q.y - p.y) * (r.x - p.x)) * (b.y - a.y) = 0 := by grind
  rcases Int.mul_eq_zero.1 k1 with h | h
  · exact h
  rcases Int.mul_eq_zero.1 k2 with h2 | h2
  · exact h2
  exfalso; apply hab; obtain ⟨a1, a2⟩ := a; obtain ⟨b1, b2⟩ := b; simp only [P2.mk.injEq] at *; omega

theorem crs_rot (a b c : P2) : crs b c a = crs a b c := by simp only [crs]; grind
theorem crs_swap (a b c : P2) : crs b a c = - crs a b c := by simp only [crs]; grind
theorem crs_swap2 (a b c : P2) : crs a c b = - crs a b c := by simp only [crs]; grind
theorem lagrange (a b c : P2) : crs a b c * crs a b c + dt ⟨b.x - a.x, b.y - a.y⟩ ⟨c.x - a.x, c.y - a.y⟩ * dt ⟨b.x - a.x, b.y - a.y⟩ ⟨c.x - a.x, c.y - a.y⟩ = far a b * far a c := by
  simp only [crs, dt, far]; grind

def sumN (f : Nat → Int) : Nat → Int
  | 0 => 0
  | k + 1 => sumN f k + f k

theorem sumN_congr {f g : Nat → Int} : ∀ {k}, (∀ i, i < k → f i = g i) → sumN f k = sumN g k
  | 0, _ => rfl
  | k + 1, h => by simp only [sumN]; rw [sumN_congr (fun i hi => h i (by omega)), h k (by omega)]

theorem sumN_add (f g : Nat → Int) : ∀ k, sumN (fun i => f i + g i) k = sumN f k + sumN g k
  | 0 => rfl
  | k + 1 => by simp only [sumN]; rw [sumN_add f g k]; omega

theorem sumN_sub (f g : Nat → Int) : ∀ k, sumN (fun i => f i - g i) k = sumN f k - sumN g k
  | 0 => rfl
  | k + 1 => by simp only [sumN]; rw [sumN_sub f g k]; omega

theorem sumN_shift (g : Nat → Int) : ∀ k, sumN (fun i => g (i + 1)) k + g 0 = sumN g (k + 1)
  | 0 => by simp [sumN]
  | k + 1 => by have := sumN_shift g k; simp only [sumN] at *; omega

theorem sumN_cycle (g : Nat → Int) (n : Nat) : sumN (fun i => g ((i + 1) % n)) n = sumN g n := by
  cases n with
  | zero => rfl
  | succ k =>
    have h1 : sumN (fun i => g ((i + 1) % (k + 1))) (k + 1) = sumN (fun i => g (i + 1)) k + g 0 := by
      show sumN (fun i => g ((i + 1) % (k + 1))) k + g ((k + 1) % (k + 1)) = _
      rw [Nat.mod_self, sumN_congr (g := fun i => g (i + 1)) (fun i hi => by rw [Nat.mod_eq_of_lt (by omega)])]
    rw [h1, sumN_shift]

def tw (a b : P2) : Int := a.x * b.y - a.y * b.x

theorem split_area (p : P2) (l : Nat → P2) (n : Nat) :
    sumN (fun i => crs p (l i) (l ((i + 1) % n))) n = sumN (fun i => tw (l i) (l ((i + 1) % n))) n := by
  have h : ∀ i, crs p (l i) (l ((i + 1) % n)) = tw (l i) (l ((i + 1) % n)) + (tw p (l i) - tw p (l ((i + 1) % n))) := fun i => by simp only [crs, tw]; grind
  rw [sumN_congr (fun i _ => h i), sumN_add, sumN_sub, sumN_cycle (fun i => tw p (l i))]
  omega

theorem mul_bd {a b A C : Int} (ha : -A ≤ a ∧ a ≤ A) (hb : -C ≤ b ∧ b ≤ C) : -(A * C) ≤ a * b ∧ a * b ≤ A * C := by
  have hA : 0 ≤ A := by omega
  have hC : 0 ≤ C := by omega
  have h1 : 0 ≤ (A - a) * (C - b) := Int.mul_nonneg (by omega) (by omega)
  have h2 : 0 ≤ (A + a) * (C + b) := Int.mul_nonneg (by omega) (by omega)
  have h3 : 0 ≤ (A - a) * (C + b) := Int.mul_nonneg (by omega) (by omega)
  have h4 : 0 ≤ (A + a) * (C - b) := Int.mul_nonneg (by omega) (by omega)
  grind

theorem sumN_bd {f : Nat → Int} {M : Int} : ∀ {k : Nat}, (∀ i, i < k → -M ≤ f i ∧ f i ≤ M) → -(M * k) ≤ sumN f k ∧ sumN f k ≤ M * k
  | 0, _ => by simp [sumN]
  | k + 1, h => by
    have h1 := sumN_bd (fun i hi => h i (by omega)) (k := k)
    have h2 := h k (by omega)
    simp only [sumN]
    rw [Int.natCast_add, Int.mul_add]; omega

/-- where the foot is an end of the segment, the distance is that end's -/
theorem foot_end {p a b : P2} (h : (b.x - a.x) * (p.x - b.x) + (b.y - a.y) * (p.y - b.y) = 0) : crs a b p * crs a b p = far b p * far a b := by
  simp only [crs, far] at *
  grind

end Mb
