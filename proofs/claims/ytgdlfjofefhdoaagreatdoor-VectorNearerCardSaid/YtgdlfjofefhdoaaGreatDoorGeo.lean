/- Plain geometry: points in the plane and in space with whole coordinates. No program here. -/
namespace Mb


structure P2 where
  x : Int
  y : Int
deriving DecidableEq

structure P3 where
  x : Int
  y : Int
  z : Int
deriving DecidableEq

def Rt1 (n : Int) : Prop := -100000 ≤ n ∧ n ≤ 100000
def Rt2 (p : P2) : Prop := Rt1 p.x ∧ Rt1 p.y
def Rt3 (p : P3) : Prop := Rt1 p.x ∧ Rt1 p.y ∧ Rt1 p.z
instance (n) : Decidable (Rt1 n) := by unfold Rt1; infer_instance
instance (p) : Decidable (Rt2 p) := by unfold Rt2; infer_instance
instance (p) : Decidable (Rt3 p) := by unfold Rt3; infer_instance

def crs (a b c : P2) : Int := (b.x - a.x) * (c.y - a.y) - (b.y - a.y) * (c.x - a.x)
def dt (a b : P2) : Int := a.x * b.x + a.y * b.y
def far (a b : P2) : Int := (b.x - a.x) * (b.x - a.x) + (b.y - a.y) * (b.y - a.y)

def sub3 (a b : P3) : P3 := ⟨a.x - b.x, a.y - b.y, a.z - b.z⟩
def vec (a b : P3) : P3 := ⟨a.y * b.z - a.z * b.y, a.z * b.x - a.x * b.z, a.x * b.y - a.y * b.x⟩
def dt3 (a b : P3) : Int := a.x * b.x + a.y * b.y + a.z * b.z
def nrm (a b c : P3) : P3 := vec (sub3 b a) (sub3 c a)
def six (a b c d : P3) : Int := dt3 (nrm a b c) (sub3 d a)

theorem six_perm1 (a b c d : P3) : six b a c d = - six a b c d := by simp only [six, nrm, dt3, vec, sub3]; grind
theorem six_perm2 (a b c d : P3) : six a c b d = - six a b c d := by simp only [six, nrm, dt3, vec, sub3]; grind
theorem six_perm3 (a b c d : P3) : six a b d c = - six a b c d := by simp only [six, nrm, dt3, vec, sub3]; grind
theorem six_rot (a b c d : P3) : six b c d a = - six a b c d := by simp only [six, nrm, dt3, vec, sub3]; grind

/-- if all normals at o vanish, so does every volume -/
theorem six_flat {o a b c d : P3} (h1 : nrm o a b = ⟨0,0,0⟩) (h2 : nrm o a c = ⟨0,0,0⟩) (h3 : nrm o b c = ⟨0,0,0⟩) (h4 : nrm o a d = ⟨0,0,0⟩) (h5 : nrm o b d = ⟨0,0,0⟩) (h6 : nrm o c d = ⟨0,0,0⟩) : six a b c d = 0 := by
  simp only [nrm, vec, sub3, P3.mk.injEq] at h1 h2 h3 h4 h5 h6
  simp only [six, nrm, dt3, vec, sub3]
  obtain ⟨a1, a2, a3⟩ := h1
  obtain ⟨b1, b2, b3⟩ := h2
  obtain ⟨c1, c2, c3⟩ := h3
  grind

/-- if a normal that is not 0 is square to all, every volume is 0 -/
theorem six_plane {n o a b c d : P3} (hn : n ≠ ⟨0,0,0⟩) (ha : dt3 n (sub3 a o) = 0) (hb : dt3 n (sub3 b o) = 0) (hc : dt3 n (sub3 c o) = 0) (hd : dt3 n (sub3 d o) = 0) : six a b c d = 0 := by
  obtain ⟨n1, n2, n3⟩ := n
  simp only [dt3, sub3] at ha hb hc hd
  have k1 : six a b c d * n1 = 0 := by simp only [six, nrm, dt3, vec, sub3]; grind
  have k2 : six a b c d * n2 = 0 := by simp only [six, nrm, dt3, vec, sub3]; grind
  have k3 : six a b c d * n3 = 0 := by simp only [six, nrm, dt3, vec, sub3]; grind
  rcases Int.mul_eq_zero.1 k1 with h | h
  · exact h
  rcases Int.mul_eq_zero.1 k2 with h2 | h2
  · exact h2
  rcases Int.mul_eq_zero.1 k3 with h3 | h3
  · exact h3
  subst h h2 h3; exact absurd rfl hn

theorem crs_line {a b p q r : P2} (hab : a ≠ b) (hp : crs a b p = 0) (hq : crs a b q = 0) (hr : crs a b r = 0) : crs p q r = 0 := by
  simp only [crs] at *
  have k1 : ((q.x - p.x) * (r.y - p.y) - (q.y - p.y) * (r.x - p.x)) * (b.x - a.x) = 0 := by grind
  have k2 : ((q.x - p.x) * (r.y - p.y) - (q.y - p.y) * (r.x - p.x)) * (b.y - a.y) = 0 := by grind
  rcases Int.mul_eq_zero.1 k1 with h | h
  · exact h
  rcases Int.mul_eq_zero.1 k2 with h2 | h2
  · exact h2
  exfalso; apply hab; obtain ⟨a1, a2⟩ := a; obtain ⟨b1, b2⟩ := b; simp only [P2.mk.injEq] at *; omega

theorem crs_rot (a b c : P2) : crs b c a = crs a b c := by simp only [crs]; grind
theorem crs_swap (a b c : P2) : crs b a c = - crs a b c := by simp only [crs]; grind
theorem crs_swap2 (a b c : P2) : crs a c b = - crs a b c := by simp only [crs]; grind
theorem lagrange (a b c : P2) : crs a b c * crs a b c + dt ⟨b.x - a.x, b.y - a.y⟩ ⟨c.x - a.x, c.y - a.y⟩ * dt ⟨b.x - a.x, b.y - a.y⟩ ⟨c.x - a.x, c.y - a.y⟩ = far a b * far a c := by
  simp only [crs, dt, far]; grind

def sumN (f : Nat → Int) : Nat → Int
  | 0 => 0
  | k + 1 => sumN f k + f k

theorem sumN_congr {f g : Nat → Int} : ∀ {k}, (∀ i, i < k → f i = g i) → sumN f k = sumN g k
  | 0, _ => rfl
  | k + 1, h => by simp only [sumN]; rw [sumN_congr (fun i hi => h i (by omega)), h k (by omega)]

theorem sumN_add (f g : Nat → Int) : ∀ k, sumN (fun i => f i + g i) k = sumN f k + sumN g k
  | 0 => rfl
  | k + 1 => by simp only [sumN]; rw [sumN_add f g k]; omega

theorem sumN_sub (f g : Nat → Int) : ∀ k, sumN (fun i => f i - g i) k = sumN f k - sumN g k
  | 0 => rfl
  | k + 1 => by simp only [sumN]; rw [sumN_sub f g k]; omega

theorem sumN_shift (g : Nat → Int) : ∀ k, sumN (fun i => g (i + 1)) k + g 0 = sumN g (k + 1)
  | 0 => by simp [sumN]
  | k + 1 => by have := sumN_shift g k; simp only [sumN] at *; omega

theorem sumN_cycle (g : Nat → Int) (n : Nat) : sumN (fun i => g ((i + 1) % n)) n = sumN g n := by
  cases n with
  | zero => rfl
  | succ k =>
    have h1 : sumN (fun i => g ((i + 1) % (k + 1))) (k + 1) = sumN (fun i => g (i + 1)) k + g 0 := by
      show sumN (fun i => g ((i + 1) % (k + 1))) k + g ((k + 1) % (k + 1)) = _
      rw [Nat.mod_self, sumN_congr (g := fun i => g (i + 1)) (fun i hi => by rw [Nat.mod_eq_of_lt (by omega)])]
    rw [h1, sumN_shift]

def tw (a b : P2) : Int := a.x * b.y - a.y * b.x

theorem split_area (p : P2) (l : Nat → P2) (n : Nat) :
    sumN (fun i => crs p (l i) (l ((i + 1) % n))) n = sumN (fun i => tw (l i) (l ((i + 1) % n))) n := by
  have h : ∀ i, crs p (l i) (l ((i + 1) % n)) = tw (l i) (l ((i + 1) % n)) + (tw p (l i) - tw p (l ((i + 1) % n))) := fun i => by simp only [crs, tw]; grind
  rw [sumN_congr (fun i _ => h i), sumN_add, sumN_sub, sumN_cycle (fun i => tw p (l i))]
  omega

theorem mul_bd {a b A C : Int} (ha : -A ≤ a ∧ a ≤ A) (hb : -C ≤ b ∧ b ≤ C) : -(A * C) ≤ a * b ∧ a * b ≤ A * C := by
  have hA : 0 ≤ A := by omega
  have hC : 0 ≤ C := by omega
  have h1 : 0 ≤ (A - a) * (C - b) := Int.mul_nonneg (by omega) (by omega)
  have h2 : 0 ≤ (A + a) * (C + b) := Int.mul_nonneg (by omega) (by omega)
  have h3 : 0 ≤ (A - a) * (C + b) := Int.mul_nonneg (by omega) (by omega)
  have h4 : 0 ≤ (A + a) * (C - b) := Int.mul_nonneg (by omega) (by omega)
  grind

theorem sumN_bd {f : Nat → Int} {M : Int} : ∀ {k : Nat}, (∀ i, i < k → -M ≤ f i ∧ f i ≤ M) → -(M * k) ≤ sumN f k ∧ sumN f k ≤ M * k
  | 0, _ => by simp [sumN]
  | k + 1, h => by
    have h1 := sumN_bd (fun i hi => h i (by omega)) (k := k)
    have h2 := h k (by omega)
    simp only [sumN]
    rw [Int.natCast_add, Int.mul_add]; omega

/-- where the foot is an end of the segment, the distance is that end's -/
theorem foot_end {p a b : P2} (h : (b.x - a.x) * (p.x - b.x) + (b.y - a.y) * (p.y - b.y) = 0) : crs a b p * crs a b p = far b p * far a b := by
  simp only [crs, far] at *
  grind

end Mb
