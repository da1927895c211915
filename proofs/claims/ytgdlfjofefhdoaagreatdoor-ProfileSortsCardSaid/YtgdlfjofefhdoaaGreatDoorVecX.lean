/- Package vector over numbers of any size: ToLine, ToSegment, ToPlane; the plain law of a segment. -/
import Derived.Test.YtgdlfjofefhdoaaGreatDoorVecSp
import Derived.Test.YtgdlfjofefhdoaaGreatDoorRatCE
namespace Go.Proofs.YtgdlfjofefhdoaaGreatDoor
open Go.RowKit Go.Sort Go.Lib Mb

theorem dg_of_lt {n : Int} {k : Nat} (hk : 1 ≤ k) (h : n.natAbs < 10 ^ k) : (dg n).length ≤ k := (decDigits_len_le hk).2 h

theorem sqOps_any {n d : Int} (hn : -1000000000000000000 ≤ n ∧ n ≤ 1000000000000000000) (hd : 0 < d) (ld : (dg d).length ≤ 1024) : SqOps n d := by
  have hm := Mb.mul_bd (A := 1000000000000000000) (C := 1000000000000000000) hn hn
  have l0 : (dg n).length ≤ 1024 := by have := dg_of_lt (n := n) (k := 19) (by omega) (by omega); omega
  have l1 : (dg (n * n)).length ≤ 1024 := by
    generalize n * n = m at *
    have := dg_of_lt (n := m) (k := 37) (by omega) (by omega); omega
  exact ⟨fun w hg => muls_calls n n w hg l0 l0 l1, lowOps_any hd l1 ld, l1, ld, by omega⟩

theorem pc_bd {v : P3} (h : Bd3 100000000000 v) (k : Nat) : -100000000000 ≤ pc k v ∧ pc k v ≤ 100000000000 := by
  match k with
  | 0 => exact h.1
  | 1 => exact h.2.1
  | k + 2 => exact h.2.2

theorem tot_succ (k : Nat) (hk : k < 3) (v : P3) : tot k v + pc k v * pc k v = tot (k + 1) v := by
  match k, hk with
  | 0, _ => simp [tot, pc]
  | 1, _ => simp [tot, pc]
  | 2, _ => simp [tot, pc]

theorem sq_bd {a : Int} (h : -100000000000 ≤ a ∧ a ≤ 100000000000) : 0 ≤ a * a ∧ a * a ≤ 10000000000000000000000 := by
  have hm := Mb.mul_bd (A := 100000000000) (C := 100000000000) h h
  refine ⟨?_, by omega⟩
  rcases Int.le_total 0 a with h | h
  · exact Int.mul_nonneg h h
  · exact Int.mul_nonneg_of_nonpos_of_nonpos h h

theorem tot_bd {v : P3} (h : Bd3 100000000000 v) (k : Nat) : 0 ≤ tot k v ∧ tot k v ≤ 30000000000000000000000 := by
  have h0 := sq_bd h.1
  have h1 := sq_bd h.2.1
  have h2 := sq_bd h.2.2
  match k with
  | 0 => simp [tot]
  | 1 => simp only [tot]; omega
  | 2 => simp only [tot]; omega
  | k + 3 => simp only [tot]; omega

theorem plOps_any {v : P3} (h : Bd3 100000000000 v) : PlOps v := by
  have l1 : ∀ k, (dg (pc k v)).length ≤ 1024 := fun k => by
    have hp := pc_bd h k
    have := dg_of_lt (n := pc k v) (k := 12) (by omega) (by omega); omega
  have l2 : ∀ k, (dg (pc k v * pc k v)).length ≤ 1024 := fun k => by
    have hp := sq_bd (pc_bd h k)
    generalize pc k v * pc k v = m at *
    have := dg_of_lt (n := m) (k := 23) (by omega) (by omega); omega
  have l3 : ∀ k, (dg (tot k v)).length ≤ 1024 := fun k => by
    have hp := tot_bd h k
    have := dg_of_lt (n := tot k v) (k := 23) (by omega) (by omega); omega
  refine ⟨fun k _ w hg => muls_calls _ _ w hg (l1 k) (l1 k) (l2 k), fun k hk w hg => ?_, fun k _ => by have := pc_bd h k; omega⟩
  rw [← tot_succ k hk v]
  exact adds_calls _ _ w hg (l3 k) (l2 k) (by rw [tot_succ k hk v]; exact l3 (k + 1))

/-- the foot lies between the ends -/
def midB (p a b : P2) : Bool := decide (0 < dt (sub b a) (sub p a)) && decide (dt (sub b a) (sub p b) ≤ 0)
/-- the squared distance from a segment, in lowest terms -/
def segN (p a b : P2) : Int := if dt (sub b a) (sub p a) ≤ 0 then far a p else if 0 < dt (sub b a) (sub p b) then far b p else rn (crs a b p * crs a b p) (far a b)
def segD (p a b : P2) : Int := if dt (sub b a) (sub p a) ≤ 0 then 1 else if 0 < dt (sub b a) (sub p b) then 1 else rd (crs a b p * crs a b p) (far a b)

theorem dt_dt (p a b : P2) : dt (sub b a) (sub p a) = far a b + dt (sub b a) (sub p b) := by simp only [dt, sub, far]; grind

theorem sq_nonneg (t : Int) : 0 ≤ t * t := by
  rcases Int.le_total 0 t with h | h
  · exact Int.mul_nonneg h h
  · exact Int.mul_nonneg_of_nonpos_of_nonpos h h

theorem far_nonneg (a b : P2) : 0 ≤ far a b := by
  have h1 := sq_nonneg (b.x - a.x); have h2 := sq_nonneg (b.y - a.y)
  unfold far; omega

theorem sq_zero {t : Int} (h : t * t = 0) : t = 0 := by rcases Int.mul_eq_zero.1 h with h | h <;> exact h

theorem far_pos {a b : P2} (h : a ≠ b) : 0 < far a b := by
  have h1 := sq_nonneg (b.x - a.x); have h2 := sq_nonneg (b.y - a.y)
  have h3 := far_nonneg a b
  by_cases h0 : far a b = 0
  · exfalso; apply h
    unfold far at h0
    have e1 := sq_zero (show (b.x - a.x) * (b.x - a.x) = 0 by omega)
    have e2 := sq_zero (show (b.y - a.y) * (b.y - a.y) = 0 by omega)
    obtain ⟨_, _⟩ := a; obtain ⟨_, _⟩ := b
    simp only [P2.mk.injEq] at *; omega
  · omega

theorem far_zero {a b : P2} (h : far a b = 0) : a = b := by
  by_cases e : a = b
  · exact e
  · have := far_pos e; omega

theorem crs_bd {a b c : P2} (ha : Bd 100000 a) (hb : Bd 100000 b) (hc : Bd 100000 c) : -80000000000 ≤ crs a b c ∧ crs a b c ≤ 80000000000 := by
  obtain ⟨⟨_, _⟩, _, _⟩ := ha; obtain ⟨⟨_, _⟩, _, _⟩ := hb; obtain ⟨⟨_, _⟩, _, _⟩ := hc
  have h1 := Mb.mul_bd (A := 200000) (C := 200000) (a := b.x - a.x) (b := c.y - a.y) (by omega) (by omega)
  have h2 := Mb.mul_bd (A := 200000) (C := 200000) (a := b.y - a.y) (b := c.x - a.x) (by omega) (by omega)
  unfold crs; omega

theorem sqOps_line {p a b : P2} (hp : Bd 100000 p) (ha : Bd 100000 a) (hb : Bd 100000 b) (hab : a ≠ b) : SqOps (crs a b p) (far a b) := by
  have h1 := crs_bd ha hb hp
  have h2 := far_small ha hb
  have h3 := far_pos hab
  exact sqOps_any (by omega) h3 (by have := dg_of_lt (n := far a b) (k := 11) (by omega) (by omega); omega)

theorem R_one (n : Int) : R n 1 = S n := by unfold R S rtxt; rw [if_pos rfl]

theorem toLine_any (p a b : P2) (w : World) (hg : Good w) (hp : flatB p = true) (ha : flatB a = true) (hb : flatB b = true) (hab : a ≠ b) :
    Calls Tryz.prog 11 #[V p, V a, V b] w fun e w' => e = .returned (.tuple #[R (rn (crs a b p * crs a b p) (far a b)) (rd (crs a b p * crs a b p) (far a b)), .int .i64 0]) ∧ Below w.heap.size w w' :=
  ToLine_ok p a b w hg hp ha hb hab (sqOps_line (bd_flat hp) (bd_flat ha) (bd_flat hb) hab)

theorem seg_calls (p a b : P2) (w : World) (hg : Good w) (hp : flatB p = true) (ha : flatB a = true) (hb : flatB b = true) :
    Calls Tryz.prog 13 #[V p, V a, V b] w fun e w' => e = .returned (.tuple #[R (segN p a b) (segD p a b), .int .i64 0]) ∧ Below w.heap.size w w' := by
  have hd := dt_dt p a b
  have hf := far_nonneg a b
  by_cases h1 : dt (sub b a) (sub p a) ≤ 0
  · have h2 : dt (sub b a) (sub p b) ≤ 0 := by omega
    rw [show segN p a b = far a p by unfold segN; rw [if_pos h1], show segD p a b = 1 by unfold segD; rw [if_pos h1], R_one]
    exact ToSegment_a p a b w hg hp ha hb h2 h1
  · by_cases h2 : 0 < dt (sub b a) (sub p b)
    · rw [show segN p a b = far b p by unfold segN; rw [if_neg h1, if_pos h2], show segD p a b = 1 by unfold segD; rw [if_neg h1, if_pos h2], R_one]
      exact ToSegment_b p a b w hg hp ha hb h2 (by omega)
    · have hab : a ≠ b := by
        intro e; subst e
        apply h1; simp [dt, sub]
      rw [show segN p a b = rn (crs a b p * crs a b p) (far a b) by unfold segN; rw [if_neg h1, if_neg h2], show segD p a b = rd (crs a b p * crs a b p) (far a b) by unfold segD; rw [if_neg h1, if_neg h2]]
      exact ToSegment_l p a b w hg hp ha hb (by omega) (by omega) hab (sqOps_line (bd_flat hp) (bd_flat ha) (bd_flat hb) hab)

theorem rat2_one {n : Int} (h : (dg n).length ≤ 1024) : Rat2 n 1 := ⟨by omega, by simp [Int.gcd], h, by have := dg_of_lt (n := 1) (k := 1) (by omega) (by decide); omega⟩

theorem rat2_line {p a b : P2} (hp : Bd 100000 p) (ha : Bd 100000 a) (hb : Bd 100000 b) (hab : a ≠ b) : Rat2 (rn (crs a b p * crs a b p) (far a b)) (rd (crs a b p * crs a b p) (far a b)) := by
  have ho := sqOps_line hp ha hb hab
  exact low_rat (far_pos hab) ho.l1 ho.l2

/-- bounds of a distance in lowest terms -/
theorem line_bd {p a b : P2} (hp : Bd 100000 p) (ha : Bd 100000 a) (hb : Bd 100000 b) (hab : a ≠ b) :
    0 ≤ rn (crs a b p * crs a b p) (far a b) ∧ rn (crs a b p * crs a b p) (far a b) ≤ 10000000000000000000000 ∧ 0 < rd (crs a b p * crs a b p) (far a b) ∧ rd (crs a b p * crs a b p) (far a b) ≤ 80000000000 := by
  have h0 := far_pos hab
  have h1 := sq_bd (show -100000000000 ≤ crs a b p ∧ crs a b p ≤ 100000000000 by have := crs_bd ha hb hp; omega)
  have h2 := far_small ha hb
  have h3 := rn_le h1.1 h0
  have h4 := rd_pos (n := crs a b p * crs a b p) (d := far a b) (by omega)
  have h5 : rd (crs a b p * crs a b p) (far a b) ≤ far a b := by
    have g := gcd_le (n := crs a b p * crs a b p) h0
    unfold rd; rw [rg_of_pos h0]
    exact Int.ediv_le_self _ (by omega)
  omega

theorem seg_bd {p a b : P2} (hp : Bd 100000 p) (ha : Bd 100000 a) (hb : Bd 100000 b) : 0 ≤ segN p a b ∧ segN p a b ≤ 10000000000000000000000 ∧ 0 < segD p a b ∧ segD p a b ≤ 80000000000 := by
  have h1 := far_small ha hp
  have h2 := far_small hb hp
  unfold segN segD
  by_cases c1 : dt (sub b a) (sub p a) ≤ 0
  · rw [if_pos c1, if_pos c1]; omega
  · rw [if_neg c1, if_neg c1]
    by_cases c2 : 0 < dt (sub b a) (sub p b)
    · rw [if_pos c2, if_pos c2]; omega
    · rw [if_neg c2, if_neg c2]
      exact line_bd hp ha hb (by intro e; subst e; apply c1; simp [dt, sub])

theorem rat2_seg {p a b : P2} (hp : Bd 100000 p) (ha : Bd 100000 a) (hb : Bd 100000 b) : Rat2 (segN p a b) (segD p a b) := by
  have h1 := far_small ha hp
  have h2 := far_small hb hp
  unfold segN segD
  by_cases c1 : dt (sub b a) (sub p a) ≤ 0
  · rw [if_pos c1, if_pos c1]; exact rat2_one (by have := dg_of_lt (n := far a p) (k := 11) (by omega) (by omega); omega)
  · rw [if_neg c1, if_neg c1]
    by_cases c2 : 0 < dt (sub b a) (sub p b)
    · rw [if_pos c2, if_pos c2]; exact rat2_one (by have := dg_of_lt (n := far b p) (k := 11) (by omega) (by omega); omega)
    · rw [if_neg c2, if_neg c2]
      exact rat2_line hp ha hb (by intro e; subst e; apply c1; simp [dt, sub])

end Go.Proofs.YtgdlfjofefhdoaaGreatDoor
