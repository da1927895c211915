/- The walk of VectorTurns: it answers true. -/
import Derived.Test.YtocackggamifnaaGreatDoorNear
namespace Go.Proofs.YtocackggamifnaaGreatDoor
open Go.RowKit Go.Sort Go.Lib Mb

theorem pts_new4 (w : World) (a b c d : P2) (t : TypeId) : Pts (w.alloc (.cells #[.int .i64 a.x, .int .i64 a.y, .int .i64 b.x, .int .i64 b.y, .int .i64 c.x, .int .i64 c.y, .int .i64 d.x, .int .i64 d.y] t)) w.heap.size 0 [a, b, c, d] := by
  refine ⟨by simp, fun i h => ?_⟩
  match i, h with
  | 0, _ => exact ⟨cell_new _ _ _ _ _ rfl, cell_new _ _ _ _ _ rfl⟩
  | 1, _ => exact ⟨cell_new _ _ _ _ _ rfl, cell_new _ _ _ _ _ rfl⟩
  | 2, _ => exact ⟨cell_new _ _ _ _ _ rfl, cell_new _ _ _ _ _ rfl⟩
  | 3, _ => exact ⟨cell_new _ _ _ _ _ rfl, cell_new _ _ _ _ _ rfl⟩

theorem near_bd {p : P2} (h : nearB p = true) : Bd 9000 p := by
  simp only [nearB, nearI, Bool.and_eq_true, decide_eq_true_eq] at h
  exact h
theorem flat_of_bd {p : P2} (h : Bd 18000 p) : flatB p = true := by
  obtain ⟨⟨_, _⟩, _, _⟩ := h
  simp only [flatB, inB, Bool.and_eq_true, decide_eq_true_eq]
  omega

def add2 (p m : P2) : P2 := ⟨p.x + m.x, p.y + m.y⟩
theorem Bd.add {p m : P2} (hp : Bd 9000 p) (hm : Bd 9000 m) : Bd 18000 (add2 p m) := by
  obtain ⟨⟨_, _⟩, _, _⟩ := hp; obtain ⟨⟨_, _⟩, _, _⟩ := hm
  exact ⟨⟨by show _ ≤ p.x + m.x; omega, by show p.x + m.x ≤ _; omega⟩, by show _ ≤ p.y + m.y; omega, by show p.y + m.y ≤ _; omega⟩
theorem crs_rot2 (a b c : P2) : crs c a b = crs a b c := by simp only [crs]; grind
theorem crs_move (a b c m : P2) : crs (add2 a m) (add2 b m) (add2 c m) = crs a b c := by simp only [crs, add2]; grind

abbrev C6 (a b c : P2) : Array Value := #[.int .i64 a.x, .int .i64 a.y, .int .i64 b.x, .int .i64 b.y, .int .i64 c.x, .int .i64 c.y]

/-- three points in a block -/
structure Tri (w : World) (A : Nat) (a b c : P2) : Prop where
  c0 : w.cell? ⟨A, 0, none⟩ = some (.int .i64 a.x)
  c1 : w.cell? ⟨A, 1, none⟩ = some (.int .i64 a.y)
  c2 : w.cell? ⟨A, 2, none⟩ = some (.int .i64 b.x)
  c3 : w.cell? ⟨A, 3, none⟩ = some (.int .i64 b.y)
  c4 : w.cell? ⟨A, 4, none⟩ = some (.int .i64 c.x)
  c5 : w.cell? ⟨A, 5, none⟩ = some (.int .i64 c.y)
theorem Tri.to {w w' : World} {A : Nat} {a b c : P2} (h : Tri w A a b c) (hb : Below w.heap.size w w') : Tri w' A a b c :=
  ⟨cell_to h.c0 hb, cell_to h.c1 hb, cell_to h.c2 hb, cell_to h.c3 hb, cell_to h.c4 hb, cell_to h.c5 hb⟩
theorem Tri.below {w w' : World} {A B : Nat} {a b c : P2} (h : Tri w A a b c) (hb : Below B w w') (hB : A < B) : Tri w' A a b c :=
  ⟨(hb.cell (p := ⟨A, 0, none⟩) hB).trans h.c0, (hb.cell (p := ⟨A, 1, none⟩) hB).trans h.c1, (hb.cell (p := ⟨A, 2, none⟩) hB).trans h.c2, (hb.cell (p := ⟨A, 3, none⟩) hB).trans h.c3, (hb.cell (p := ⟨A, 4, none⟩) hB).trans h.c4, (hb.cell (p := ⟨A, 5, none⟩) hB).trans h.c5⟩
theorem tri_new (w : World) (a b c : P2) (t : TypeId) : Tri (w.alloc (.cells (C6 a b c) t)) w.heap.size a b c :=
  ⟨cell_new _ _ _ _ _ rfl, cell_new _ _ _ _ _ rfl, cell_new _ _ _ _ _ rfl, cell_new _ _ _ _ _ rfl, cell_new _ _ _ _ _ rfl, cell_new _ _ _ _ _ rfl⟩
theorem Blk.tri {w : World} {A : Nat} {a b c : P2} {t : TypeId} (h : Blk w A (C6 a b c) t) : Tri w A a b c :=
  ⟨h.c 0 _ rfl, h.c 1 _ rfl, h.c 2 _ rfl, h.c 3 _ rfl, h.c 4 _ rfl, h.c 5 _ rfl⟩

set_option maxRecDepth 8000 in
set_option maxHeartbeats 3200000 in
theorem turns_far (a b c m : P2) (w : World) (hg : Good w) (hn : [a, b, c, m].all nearB = false) :
    Calls Tryz.prog 11 #[.agg (C6 a b c), V m] w fun e w' => e = .returned (.bool true) ∧ Below w.heap.size w w' := by
  have h3 := (tri_new w a b c 97).to (alloc_below _ (B2 m 23))
  have hm := bx_new (w.alloc (.cells (C6 a b c) 97)) m 23
  rw [size_alloc1] at hm
  have hp := pts_new4 ((w.alloc (.cells (C6 a b c) 97)).alloc (B2 m 23)) a b c m 23
  rw [size_alloc1, size_alloc1] at hp
  have hb0 := below3 w (.cells (C6 a b c) 97) (B2 m 23) (.cells #[.int .i64 a.x, .int .i64 a.y, .int .i64 b.x, .int .i64 b.y, .int .i64 c.x, .int .i64 c.y, .int .i64 m.x, .int .i64 m.y] 23)
  have H := near_calls [a, b, c, m] _ 0 4 4 rfl _ hp (by simp)
  rw [hn] at H
  have HG := Lib.hid (And.intro hg hb0); clear hg hb0 hn
  obtain ⟨c0, c1, c2, c3, c4, c5⟩ := h3
  obtain ⟨d0, d1⟩ := hm
  clear hp
  go_enter Tryz.func11, Tryz.ntmps11
  go_wp2_with fail
  refine H.mono ?_
  rintro e w1 ⟨rfl, hb1⟩
  clear H c0 c1 c2 c3 c4 c5 d0 d1
  have hb2 := below_trans HG.out.2 hb1
  go_wp2_with fail
  refine (awake_calls _ (HG.out.1.to hb2)).mono ?_
  rintro e w2 ⟨rfl, hb3⟩
  go_wp2_with fail
  go_ret
  exact ⟨rfl, below_trans hb2 hb3⟩

theorem ix0 (x0 x1 x2 x3 x4 x5 : Int) (w : World) : (Instr.index 97 (.agg #[.int .i64 x0, .int .i64 x1, .int .i64 x2, .int .i64 x3, .int .i64 x4, .int .i64 x5]) (.int .i64 0)).run Tryz.prog w = .ok (.agg #[.int .i64 x0, .int .i64 x1]) w := by kernel_rfl
theorem ix1 (x0 x1 x2 x3 x4 x5 : Int) (w : World) : (Instr.index 97 (.agg #[.int .i64 x0, .int .i64 x1, .int .i64 x2, .int .i64 x3, .int .i64 x4, .int .i64 x5]) (.int .i64 1)).run Tryz.prog w = .ok (.agg #[.int .i64 x2, .int .i64 x3]) w := by kernel_rfl
theorem ix2 (x0 x1 x2 x3 x4 x5 : Int) (w : World) : (Instr.index 97 (.agg #[.int .i64 x0, .int .i64 x1, .int .i64 x2, .int .i64 x3, .int .i64 x4, .int .i64 x5]) (.int .i64 2)).run Tryz.prog w = .ok (.agg #[.int .i64 x4, .int .i64 x5]) w := by kernel_rfl

theorem at_exact (x y : Int) (w : World) :
    Calls Tryz.prog 31 #[.int .i64 x, .int .i64 y] w fun e w' => e = .returned (V ⟨x, y⟩) ∧ w' = w.alloc (.cells #[.int .i64 x, .int .i64 y] 23) := by
  go_enter Tryz.func31, Tryz.ntmps31
  go_wp2_with fail
  exact bodyPost_ret (v := V ⟨x, y⟩) (by simp [results, Tryz.results31, go_sem]) rfl ⟨rfl, rfl⟩

/-- the cells of three points, as a walk reads them -/
abbrev T6 (A : Nat) (a b c : P2) (w : World) : Prop := w.cell? ⟨A, 0, none⟩ = some (.int .i64 a.x) ∧ w.cell? ⟨A, 1, none⟩ = some (.int .i64 a.y) ∧ w.cell? ⟨A, 2, none⟩ = some (.int .i64 b.x) ∧ w.cell? ⟨A, 3, none⟩ = some (.int .i64 b.y) ∧ w.cell? ⟨A, 4, none⟩ = some (.int .i64 c.x) ∧ w.cell? ⟨A, 5, none⟩ = some (.int .i64 c.y)
theorem T6.mk {A : Nat} {a b c : P2} {w : World} (h : Tri w A a b c) : T6 A a b c w := ⟨h.c0, h.c1, h.c2, h.c3, h.c4, h.c5⟩
theorem T6.to {A : Nat} {a b c : P2} {w w' : World} (h : T6 A a b c w) (hb : Below w.heap.size w w') : T6 A a b c w' := ⟨cell_to h.1 hb, cell_to h.2.1 hb, cell_to h.2.2.1 hb, cell_to h.2.2.2.1 hb, cell_to h.2.2.2.2.1 hb, cell_to h.2.2.2.2.2 hb⟩
theorem T6.alloc {A : Nat} {a b c : P2} {w : World} (o : Obj) (h : T6 A a b c w) : T6 A a b c (w.alloc o) := h.to (alloc_below _ _)
theorem T6.drew {A : Nat} {a b c : P2} {w : World} (h : T6 A a b c w) : T6 A a b c w.drew := h.to ((Below.refl _ _).drew)
abbrev T7 (A : Nat) (a b c : P2) (w0 w : World) : Prop := w.cell? ⟨A, 0, none⟩ = some (.int .i64 a.x) ∧ w.cell? ⟨A, 1, none⟩ = some (.int .i64 a.y) ∧ w.cell? ⟨A, 2, none⟩ = some (.int .i64 b.x) ∧ w.cell? ⟨A, 3, none⟩ = some (.int .i64 b.y) ∧ w.cell? ⟨A, 4, none⟩ = some (.int .i64 c.x) ∧ w.cell? ⟨A, 5, none⟩ = some (.int .i64 c.y) ∧ Below w0.heap.size w0 w
theorem T7.mk {A : Nat} {a b c : P2} {w0 w : World} (h : T6 A a b c w) (hb : Below w0.heap.size w0 w) : T7 A a b c w0 w := ⟨h.1, h.2.1, h.2.2.1, h.2.2.2.1, h.2.2.2.2.1, h.2.2.2.2.2, hb⟩
theorem T7.six {A : Nat} {a b c : P2} {w0 w : World} (h : T7 A a b c w0 w) : T6 A a b c w := ⟨h.1, h.2.1, h.2.2.1, h.2.2.2.1, h.2.2.2.2.1, h.2.2.2.2.2.1⟩
theorem T7.to {A : Nat} {a b c : P2} {w0 w w' : World} (h : T7 A a b c w0 w) (hb : Below w.heap.size w w') : T7 A a b c w0 w' := T7.mk (h.six.to hb) (below_trans h.2.2.2.2.2.2 hb)
theorem T7.alloc {A : Nat} {a b c : P2} {w0 w : World} (o : Obj) (h : T7 A a b c w0 w) : T7 A a b c w0 (w.alloc o) := h.to (alloc_below _ _)
theorem T7.drew {A : Nat} {a b c : P2} {w0 w : World} (h : T7 A a b c w0 w) : T7 A a b c w0 w.drew := h.to ((Below.refl _ _).drew)

theorem sgn_facts (x : Int) : -1 ≤ sgn x * sgn x ∧ sgn x * sgn x ≤ 1 ∧ decide (0 < sgn x) = decide (0 < x) ∧ decide (sgn x < 0) = decide (x < 0) ∧ -1 ≤ sgn x ∧ sgn x ≤ 1 := by
  rcases Int.lt_trichotomy x 0 with h | h | h
  · have e : sgn x = -1 := by simp [sgn, h]
    rw [e]; simp; omega
  · subst h; decide
  · have e : sgn x = 1 := by simp [sgn, h]; omega
    rw [e]; simp; omega

theorem crs_bd {a b c : P2} (ha : Bd 9000 a) (hb : Bd 9000 b) (hc : Bd 9000 c) : -648000000 ≤ crs a b c ∧ crs a b c ≤ 648000000 := by
  have h1 := ha.sub hb
  have h2 := ha.sub hc
  have m1 := Mb.mul_bd h1.1 h2.2
  have m2 := Mb.mul_bd h1.2 h2.1
  have e : crs a b c = (sub b a).x * (sub c a).y - (sub b a).y * (sub c a).x := rfl
  omega
theorem dt_bd {u v : P2} (hu : Bd 18000 u) (hv : Bd 18000 v) : -648000000 ≤ dt u v ∧ dt u v ≤ 648000000 := by
  have m1 := Mb.mul_bd hu.1 hv.1
  have m2 := Mb.mul_bd hu.2 hv.2
  unfold dt; omega
theorem far_bd {a b : P2} (ha : Bd 9000 a) (hb : Bd 9000 b) : -648000000 ≤ far a b ∧ far a b ≤ 648000000 := by
  have e : far a b = dt (sub b a) (sub b a) := rfl
  rw [e]; exact dt_bd (ha.sub hb) (ha.sub hb)

theorem sq_bd {x : Int} (h : -648000000 ≤ x ∧ x ≤ 648000000) : 0 ≤ x * x ∧ x * x ≤ 419904000000000000 := by
  refine ⟨?_, by have := Mb.mul_bd h h; omega⟩
  rcases Int.le_total 0 x with e | e
  · exact Int.mul_nonneg e e
  · exact Int.mul_nonneg_of_nonpos_of_nonpos e e

theorem turn_facts {a b c : P2} {x : Int} (ha : Bd 9000 a) (hb : Bd 9000 b) (hc : Bd 9000 c) (hx : x = crs a b c) :
    (-648000000 ≤ x ∧ x ≤ 648000000) ∧ (0 ≤ x * x ∧ x * x ≤ 419904000000000000) ∧ (0 ≤ dt (sub b a) (sub c a) * dt (sub b a) (sub c a) ∧ dt (sub b a) (sub c a) * dt (sub b a) (sub c a) ≤ 419904000000000000) ∧
    (-648000000 * 648000000 ≤ far a b * far a c ∧ far a b * far a c ≤ 648000000 * 648000000) ∧ x * x + dt (sub b a) (sub c a) * dt (sub b a) (sub c a) = far a b * far a c := by
  subst hx
  have h1 := crs_bd ha hb hc
  have m := Mb.mul_bd (far_bd ha hb) (far_bd ha hc)
  exact ⟨h1, sq_bd h1, sq_bd (dt_bd (ha.sub hb) (ha.sub hc)), by omega, lagrange a b c⟩

theorem T6.store {A n : Nat} {a b c : P2} {w : World} (u v : Value) (hn : A < n) (h : T6 A a b c w) : T6 A a b c ((w.setCell ⟨n, 0, none⟩ u).setCell ⟨n, 1, none⟩ v) := by
  have hb : Below n w ((w.setCell ⟨n, 0, none⟩ u).setCell ⟨n, 1, none⟩ v) := ((Below.refl n w).setCell (p := ⟨n, 0, none⟩) (Nat.le_refl _) u).setCell (p := ⟨n, 1, none⟩) (Nat.le_refl _) v
  exact ⟨(hb.cell (p := ⟨A, 0, none⟩) hn).trans h.1, (hb.cell (p := ⟨A, 1, none⟩) hn).trans h.2.1, (hb.cell (p := ⟨A, 2, none⟩) hn).trans h.2.2.1, (hb.cell (p := ⟨A, 3, none⟩) hn).trans h.2.2.2.1, (hb.cell (p := ⟨A, 4, none⟩) hn).trans h.2.2.2.2.1, (hb.cell (p := ⟨A, 5, none⟩) hn).trans h.2.2.2.2.2⟩

/-- the moved points that the first k rounds have laid -/
def mvd (k : Nat) (a b c m : P2) : Array Value := match k with
  | 0 => #[.int .i64 0, .int .i64 0, .int .i64 0, .int .i64 0, .int .i64 0, .int .i64 0]
  | 1 => #[.int .i64 (a.x + m.x), .int .i64 (a.y + m.y), .int .i64 0, .int .i64 0, .int .i64 0, .int .i64 0]
  | 2 => #[.int .i64 (a.x + m.x), .int .i64 (a.y + m.y), .int .i64 (b.x + m.x), .int .i64 (b.y + m.y), .int .i64 0, .int .i64 0]
  | _ => C6 (add2 a m) (add2 b m) (add2 c m)

set_option maxRecDepth 8000 in
set_option maxHeartbeats 6400000 in
theorem turns_near (a b c m : P2) (w : World) (hg : Good w) (hn : [a, b, c, m].all nearB = true) :
    Calls Tryz.prog 11 #[.agg (C6 a b c), V m] w fun e w' => e = .returned (.bool true) ∧ Below w.heap.size w w' := by
  have h3 := (tri_new w a b c 97).to (alloc_below _ (B2 m 23))
  have hm := bx_new (w.alloc (.cells (C6 a b c) 97)) m 23
  rw [size_alloc1] at hm
  have hp := pts_new4 ((w.alloc (.cells (C6 a b c) 97)).alloc (B2 m 23)) a b c m 23
  rw [size_alloc1, size_alloc1] at hp
  have hb0 := below3 w (.cells (C6 a b c) 97) (B2 m 23) (.cells #[.int .i64 a.x, .int .i64 a.y, .int .i64 b.x, .int .i64 b.y, .int .i64 c.x, .int .i64 c.y, .int .i64 m.x, .int .i64 m.y] 23)
  have H := near_calls [a, b, c, m] _ 0 4 4 rfl _ hp (by simp)
  rw [hn] at H
  have HD : Hid (Bd 9000 a ∧ Bd 9000 b ∧ Bd 9000 c ∧ Bd 9000 m) := by
    simp at hn
    exact Lib.hid ⟨near_bd hn.1, near_bd hn.2.1, near_bd hn.2.2.1, near_bd hn.2.2.2⟩
  have HI : Hid (flatB a = true ∧ flatB b = true ∧ flatB c = true) := Lib.hid ⟨flat_of_bd (HD.out.1.mono (by omega)), flat_of_bd (HD.out.2.1.mono (by omega)), flat_of_bd (HD.out.2.2.1.mono (by omega))⟩
  have HX := Lib.hid (And.intro (h3.to (alloc_below _ (.cells #[.int .i64 a.x, .int .i64 a.y, .int .i64 b.x, .int .i64 b.y, .int .i64 c.x, .int .i64 c.y, .int .i64 m.x, .int .i64 m.y] 23))) (hm.to (alloc_below _ (.cells #[.int .i64 a.x, .int .i64 a.y, .int .i64 b.x, .int .i64 b.y, .int .i64 c.x, .int .i64 c.y, .int .i64 m.x, .int .i64 m.y] 23))))
  have HG := Lib.hid (And.intro hg hb0); clear hg hb0 hn
  obtain ⟨c0, c1, c2, c3, c4, c5⟩ := h3
  obtain ⟨d0, d1⟩ := hm
  clear hp
  go_enter Tryz.func11, Tryz.ntmps11
  go_wp2_with fail
  refine H.mono ?_
  rintro e w1 ⟨rfl, hb1⟩
  clear H c0 c1 c2 c3 c4 c5 d0 d1
  have hb2 := below_trans HG.out.2 hb1
  have HY := Lib.hid (And.intro (HX.out.1.to hb1) (HX.out.2.to hb1))
  have hlo0 : w.heap.size + 1 < w1.heap.size := HY.out.2.lt
  clear HX hb1
  have h3 := HY.out.1.to (alloc_below _ (.cells (mvd 0 a b c m) 97))
  have h4 := HY.out.2.to (alloc_below _ (.cells (mvd 0 a b c m) 97))
  have h5 := blk_new w1 (mvd 0 a b c m) 97
  have HZ := Lib.hid (And.intro h3 (And.intro h4 (And.intro h5 (below_trans hb2 (alloc_below _ (.cells (mvd 0 a b c m) 97))))))
  obtain ⟨c0, c1, c2, c3, c4, c5⟩ := h3
  clear h4 h5 HY hb2
  simp only [mvd] at c0 c1 c2 c3 c4 c5
  go_wp2_with fail
  clear c0 c1 c2 c3 c4 c5
  obtain ⟨M, hM⟩ : ∃ M, M = w1.heap.size := ⟨_, rfl⟩
  have hlo : w.heap.size + 1 < M := by rw [hM]; exact hlo0
  obtain ⟨W, hW⟩ : ∃ W, W = w1.alloc (.cells (mvd 0 a b c m) 97) := ⟨_, rfl⟩
  rw [← hW, ← hM] at HZ
  have hW' := hW
  simp only [mvd] at hW'
  rw [← hW', ← hM]
  clear hW hW' hM hlo0
  have HL := Lib.hid hlo; clear hlo
  go_loopg [38] 3 (fun g i wr => ∃ k : Nat, k + g = 3 ∧ i = .int .i64 k ∧ Below M W wr ∧ Blk wr M (mvd k a b c m) 97)
  case atStart => exact ⟨0, rfl, rfl, Below.refl _ _, HZ.out.2.2.1⟩
  case round =>
    obtain ⟨k, hk, rfl, hbel, hblk⟩ := hrel
    have h4 := HZ.out.2.1.below hbel HL.out
    have HB := Lib.hid (And.intro hbel (And.intro h4 hblk)); clear hbel hblk h4
    obtain ⟨⟨m1, m2⟩, m3, m4⟩ := HD.out.2.2.2
    have hk3 : k = 0 ∨ k = 1 ∨ k = 2 ∨ k = 3 := by omega
    rcases hk3 with rfl | rfl | rfl | rfl
    · have hix := ix0 a.x a.y b.x b.y c.x c.y
      obtain ⟨⟨x1, x2⟩, x3, x4⟩ := HD.out.1
      have h4 := HB.out.2.1.to (alloc_below _ (B2 a 23))
      obtain ⟨d0, d1⟩ := h4
      have hpt := bx_new wr a 23
      obtain ⟨e0, e1⟩ := hpt
      go_wp2_with fail
      refine (at_calls _ _ _).mono ?_
      rintro e w2 ⟨rfl, hb2⟩
      have hbw := below_trans (alloc_below wr (B2 a 23)) hb2
      have hnb := HB.out.2.2.to hbw
      have f0 := hnb.free 0
      have f1 := hnb.free 1
      have r0 := hnb.c 0 _ rfl
      have r1 := hnb.c 1 _ rfl
      have hlt := hnb.lt
      clear d0 d1 e0 e1 hb2
      go_wp2_with fail
      go_roundg (gk - 1)
      case measure => omega
      case rel =>
        refine ⟨1, by omega, by go_num, ?_, ?_⟩
        · exact (((HB.out.1.trans (hbw.mono (Nat.le_of_lt HB.out.2.2.lt))).setCell (p := ⟨M, 0, none⟩) (Nat.le_refl _) _).setCell (p := ⟨M, 1, none⟩) (Nat.le_refl _) _)
        · exact (hnb.set 0 (.int .i64 (a.x + m.x))).set 1 (.int .i64 (a.y + m.y))
    · have hix := ix1 a.x a.y b.x b.y c.x c.y
      obtain ⟨⟨x1, x2⟩, x3, x4⟩ := HD.out.2.1
      have h4 := HB.out.2.1.to (alloc_below _ (B2 b 23))
      obtain ⟨d0, d1⟩ := h4
      have hpt := bx_new wr b 23
      obtain ⟨e0, e1⟩ := hpt
      go_wp2_with fail
      refine (at_calls _ _ _).mono ?_
      rintro e w2 ⟨rfl, hb2⟩
      have hbw := below_trans (alloc_below wr (B2 b 23)) hb2
      have hnb := HB.out.2.2.to hbw
      have f0 := hnb.free 2
      have f1 := hnb.free 3
      have r0 := hnb.c 2 _ rfl
      have r1 := hnb.c 3 _ rfl
      have hlt := hnb.lt
      clear d0 d1 e0 e1 hb2
      go_wp2_with fail
      go_roundg (gk - 1)
      case measure => omega
      case rel =>
        refine ⟨2, by omega, by go_num, ?_, ?_⟩
        · exact (((HB.out.1.trans (hbw.mono (Nat.le_of_lt HB.out.2.2.lt))).setCell (p := ⟨M, 2, none⟩) (Nat.le_refl _) _).setCell (p := ⟨M, 3, none⟩) (Nat.le_refl _) _)
        · exact (hnb.set 2 (.int .i64 (b.x + m.x))).set 3 (.int .i64 (b.y + m.y))
    · have hix := ix2 a.x a.y b.x b.y c.x c.y
      obtain ⟨⟨x1, x2⟩, x3, x4⟩ := HD.out.2.2.1
      have h4 := HB.out.2.1.to (alloc_below _ (B2 c 23))
      obtain ⟨d0, d1⟩ := h4
      have hpt := bx_new wr c 23
      obtain ⟨e0, e1⟩ := hpt
      go_wp2_with fail
      refine (at_calls _ _ _).mono ?_
      rintro e w2 ⟨rfl, hb2⟩
      have hbw := below_trans (alloc_below wr (B2 c 23)) hb2
      have hnb := HB.out.2.2.to hbw
      have f0 := hnb.free 4
      have f1 := hnb.free 5
      have r0 := hnb.c 4 _ rfl
      have r1 := hnb.c 5 _ rfl
      have hlt := hnb.lt
      clear d0 d1 e0 e1 hb2
      go_wp2_with fail
      go_roundg (gk - 1)
      case measure => omega
      case rel =>
        refine ⟨3, by omega, by go_num, ?_, ?_⟩
        · exact (((HB.out.1.trans (hbw.mono (Nat.le_of_lt HB.out.2.2.lt))).setCell (p := ⟨M, 4, none⟩) (Nat.le_refl _) _).setCell (p := ⟨M, 5, none⟩) (Nat.le_refl _) _)
        · exact (hnb.set 4 (.int .i64 (c.x + m.x))).set 5 (.int .i64 (c.y + m.y))
    · clear m1 m2 m3 m4
      have h3 := HZ.out.1.below HB.out.1 (by have := HL.out; omega)
      have HV := Lib.hid (And.intro (h3) (And.intro (show Tri wr M (add2 a m) (add2 b m) (add2 c m) from Blk.tri HB.out.2.2) (HZ.out.2.2.2.trans (HB.out.1.mono (by have := HL.out; omega)))))
      obtain ⟨c0, c1, c2, c3, c4, c5⟩ := h3
      go_wp2_with fail
      refine (Cross_ok a b c _ HI.out.1 HI.out.2.1 HI.out.2.2).mono ?_
      rintro e w2 ⟨rfl, hb2⟩
      have HV2 := Lib.hid (And.intro (HV.out.1.to hb2) (And.intro (HV.out.2.1.to hb2) (below_trans HV.out.2.2 hb2)))
      clear HV hb2 c0 c1 c2 c3 c4 c5 HZ HB
      have hv := HV2.out.1
      obtain ⟨c0, c1, c2, c3, c4, c5⟩ := hv
      have hv := HV2.out.2.1
      obtain ⟨m0, m1, m2, m3, m4, m5⟩ := hv
      have hsz : w.heap.size < w2.heap.size := World.block_lt_of_cell? _ _ c0
      have hsM : M < w2.heap.size := World.block_lt_of_cell? _ _ m0
      go_wp2_with fail
      obtain ⟨N, hN⟩ : ∃ N, N = w2.heap.size := ⟨_, rfl⟩
      obtain ⟨x, hx⟩ : ∃ x, x = crs a b c := ⟨_, rfl⟩
      obtain ⟨V2, hV2⟩ : ∃ V2, V2 = w2.alloc (.cells #[.int .i64 (add2 a m).x, .int .i64 (add2 a m).y, .int .i64 (add2 b m).x, .int .i64 (add2 b m).y, .int .i64 (add2 c m).x, .int .i64 (add2 c m).y, .int .i64 b.x, .int .i64 b.y, .int .i64 c.x, .int .i64 c.y, .int .i64 a.x, .int .i64 a.y, .int .i64 c.x, .int .i64 c.y, .int .i64 a.x, .int .i64 a.y, .int .i64 b.x, .int .i64 b.y] 97) := ⟨_, rfl⟩
      have hB2 : Below w2.heap.size w2 V2 := by rw [hV2]; exact alloc_below _ _
      have hR : Blk V2 w2.heap.size #[.int .i64 (add2 a m).x, .int .i64 (add2 a m).y, .int .i64 (add2 b m).x, .int .i64 (add2 b m).y, .int .i64 (add2 c m).x, .int .i64 (add2 c m).y, .int .i64 b.x, .int .i64 b.y, .int .i64 c.x, .int .i64 c.y, .int .i64 a.x, .int .i64 a.y, .int .i64 c.x, .int .i64 c.y, .int .i64 a.x, .int .i64 a.y, .int .i64 b.x, .int .i64 b.y] 97 := by rw [hV2]; exact blk_new _ _ _
      rw [← hV2, ← hx, ← hN]
      rw [← hN] at hR
      have HQ := Lib.hid (And.intro (HV2.out.1.to hB2) (And.intro (below_trans HV2.out.2.2 hB2) hR))
      have HX := Lib.hid hx
      clear HV2 c0 c1 c2 c3 c4 c5 m0 m1 m2 m3 m4 m5 hsz hsM hB2 hR hV2 hx hN
      go_loopg [83] 3 (fun g i w' => ∃ k : Nat, k + g = 3 ∧ i = .int .i64 k ∧ Below V2.heap.size V2 w')
      case atStart => exact ⟨0, rfl, rfl, Below.refl _ _⟩
      case round =>
        obtain ⟨k, hk, rfl, hbel⟩ := hrel
        have hR := HQ.out.2.2.to hbel
        have hk3 : k = 0 ∨ k = 1 ∨ k = 2 ∨ k = 3 := by omega
        rcases hk3 with rfl | rfl | rfl | rfl
        · have q0 := hR.c 0 _ rfl
          have q1 := hR.c 1 _ rfl
          have q2 := hR.c 2 _ rfl
          have q3 := hR.c 3 _ rfl
          have q4 := hR.c 4 _ rfl
          have q5 := hR.c 5 _ rfl
          clear hR
          obtain ⟨n0, n1, n2, n3, n4, n5⟩ := tri_new wr (add2 a m) (add2 b m) (add2 c m) 97
          go_wp2_with fail
          refine (Cross_ok (add2 a m) (add2 b m) (add2 c m) _ (flat_of_bd (HD.out.1.add HD.out.2.2.2)) (flat_of_bd (HD.out.2.1.add HD.out.2.2.2)) (flat_of_bd (HD.out.2.2.1.add HD.out.2.2.2))).mono ?_
          rintro e w4 ⟨rfl, hb4⟩
          rw [crs_move a b c m, ← HX.out]
          have hb5 := below_trans hbel (below_trans (alloc_below wr (.cells (C6 (add2 a m) (add2 b m) (add2 c m)) 97)) hb4)
          clear q0 q1 q2 q3 q4 q5 n0 n1 n2 n3 n4 n5 hb4
          go_wp2_with fail
          go_roundg (gk - 1)
          case measure => omega
          case rel => exact ⟨1, by omega, by go_num, hb5⟩
        · have q0 := hR.c 6 _ rfl
          have q1 := hR.c 7 _ rfl
          have q2 := hR.c 8 _ rfl
          have q3 := hR.c 9 _ rfl
          have q4 := hR.c 10 _ rfl
          have q5 := hR.c 11 _ rfl
          clear hR
          obtain ⟨n0, n1, n2, n3, n4, n5⟩ := tri_new wr b c a 97
          go_wp2_with fail
          refine (Cross_ok b c a _ (HI.out.2.1) (HI.out.2.2) (HI.out.1)).mono ?_
          rintro e w4 ⟨rfl, hb4⟩
          rw [crs_rot a b c, ← HX.out]
          have hb5 := below_trans hbel (below_trans (alloc_below wr (.cells (C6 b c a) 97)) hb4)
          clear q0 q1 q2 q3 q4 q5 n0 n1 n2 n3 n4 n5 hb4
          go_wp2_with fail
          go_roundg (gk - 1)
          case measure => omega
          case rel => exact ⟨2, by omega, by go_num, hb5⟩
        · have q0 := hR.c 12 _ rfl
          have q1 := hR.c 13 _ rfl
          have q2 := hR.c 14 _ rfl
          have q3 := hR.c 15 _ rfl
          have q4 := hR.c 16 _ rfl
          have q5 := hR.c 17 _ rfl
          clear hR
          obtain ⟨n0, n1, n2, n3, n4, n5⟩ := tri_new wr c a b 97
          go_wp2_with fail
          refine (Cross_ok c a b _ (HI.out.2.2) (HI.out.1) (HI.out.2.1)).mono ?_
          rintro e w4 ⟨rfl, hb4⟩
          rw [crs_rot2 a b c, ← HX.out]
          have hb5 := below_trans hbel (below_trans (alloc_below wr (.cells (C6 c a b) 97)) hb4)
          clear q0 q1 q2 q3 q4 q5 n0 n1 n2 n3 n4 n5 hb4
          go_wp2_with fail
          go_roundg (gk - 1)
          case measure => omega
          case rel => exact ⟨3, by omega, by go_num, hb5⟩
        · clear hR
          have HT := Lib.hid (And.intro (HQ.out.1.to hbel) (below_trans HQ.out.2.1 hbel))
          have hv := HT.out.1
          obtain ⟨c0, c1, c2, c3, c4, c5⟩ := hv
          go_wp2_with fail
          refine (Cross_ok b a c _ HI.out.2.1 HI.out.1 HI.out.2.2).mono ?_
          rintro e w4 ⟨rfl, hb4⟩
          rw [crs_swap a b c, ← HX.out]
          clear c0 c1 c2 c3 c4 c5 HQ hbel
          have HU := Lib.hid (And.intro (HT.out.1.to hb4) (below_trans HT.out.2 hb4))
          clear HT hb4
          have hv := HU.out.1
          obtain ⟨c0, c1, c2, c3, c4, c5⟩ := hv
          go_wp2_with fail
          refine (Side_ok a b c _ HI.out.1 HI.out.2.1 HI.out.2.2).mono ?_
          rintro e w5 ⟨rfl, hb5⟩
          rw [← HX.out]
          clear c0 c1 c2 c3 c4 c5
          have HT := Lib.hid (And.intro (HU.out.1.to hb5) (below_trans HU.out.2 hb5))
          clear HU hb5
          obtain ⟨⟨a1, a2⟩, a3, a4⟩ := HD.out.1
          obtain ⟨⟨b1, b2⟩, b3, b4⟩ := HD.out.2.1
          obtain ⟨⟨g1, g2⟩, g3, g4⟩ := HD.out.2.2.1
          go_wp2_with fail
          have HZ2 := Lib.hid (And.intro (sgn_facts x) (turn_facts HD.out.1 HD.out.2.1 HD.out.2.2.1 HX.out))
          have hv := T7.mk (T6.mk HT.out.1) HT.out.2
          have hA : w.heap.size < w5.heap.size := World.block_lt_of_cell? _ _ hv.1
          have HS : Hid (flatB (sub b a) = true ∧ flatB (sub c a) = true) := Lib.hid ⟨flat_of_bd (HD.out.1.sub HD.out.2.1), flat_of_bd (HD.out.1.sub HD.out.2.2.1)⟩
          have e1 : IntKind.i64.wrap (b.x - a.x) = b.x - a.x := IntWalk.i64_in _ (by omega)
          have e2 : IntKind.i64.wrap (b.y - a.y) = b.y - a.y := IntWalk.i64_in _ (by omega)
          have e3 : IntKind.i64.wrap (c.x - a.x) = c.x - a.x := IntWalk.i64_in _ (by omega)
          have e4 : IntKind.i64.wrap (c.y - a.y) = c.y - a.y := IntWalk.i64_in _ (by omega)
          clear a1 a2 a3 a4 b1 b2 b3 b4 g1 g2 g3 g4
          go_region_held3 (fun w' => w'.cell? ⟨w.heap.size, 0, none⟩ = some (.int .i64 a.x) ∧ w'.cell? ⟨w.heap.size, 1, none⟩ = some (.int .i64 a.y) ∧ w'.cell? ⟨w.heap.size, 2, none⟩ = some (.int .i64 b.x) ∧ w'.cell? ⟨w.heap.size, 3, none⟩ = some (.int .i64 b.y) ∧ w'.cell? ⟨w.heap.size, 4, none⟩ = some (.int .i64 c.x) ∧ w'.cell? ⟨w.heap.size, 5, none⟩ = some (.int .i64 c.y) ∧ Below w.heap.size w w')
            (first | assumption | (repeat' (first | exact hv | apply T7.alloc | apply T7.drew)))
            (first | (go_at_call 31; (with_reducible refine (at_exact (b.x - a.x) (b.y - a.y) _).mono ?_); rintro e w6 ⟨rfl, rfl⟩) | (go_at_call 31; (with_reducible refine (at_exact (c.x - a.x) (c.y - a.y) _).mono ?_); rintro e w7 ⟨rfl, rfl⟩))
          all_goals
            rename_i hHeld
            have HH := Lib.hid hHeld
            clear hHeld hv e1 e2 e3 e4 HT
            go_wp2_with fail
            refine (Dot_ok (sub b a) (sub c a) _ HS.out.1 HS.out.2).mono ?_
            rintro e w8 ⟨rfl, hb8⟩
            have h8 := T7.to HH.out hb8
            clear HH hb8
            have HH := Lib.hid h8
            obtain ⟨c0, c1, c2, c3, c4, c5, -⟩ := h8
            go_wp2_with fail
            refine (Square_ok a b _ HI.out.1 HI.out.2.1).mono ?_
            rintro e w9 ⟨rfl, hb9⟩
            clear c0 c1 c2 c3 c4 c5
            have h8 := T7.to HH.out hb9
            clear HH hb9
            have HH := Lib.hid h8
            obtain ⟨c0, c1, c2, c3, c4, c5, -⟩ := h8
            go_wp2_with fail
            refine (Square_ok a c _ HI.out.1 HI.out.2.2).mono ?_
            rintro e w10 ⟨rfl, hb10⟩
            clear c0 c1 c2 c3 c4 c5
            have hW := below_trans HH.out.2.2.2.2.2.2 hb10
            clear HH hb10
            obtain ⟨z1, z2, z3, z4, z5, z6⟩ := HZ2.out.1
            obtain ⟨d, hd⟩ : ∃ d, dt (sub b a) (sub c a) = d := ⟨_, rfl⟩
            obtain ⟨f1, hf1⟩ : ∃ d, far a b = d := ⟨_, rfl⟩
            obtain ⟨f2, hf2⟩ : ∃ d, far a c = d := ⟨_, rfl⟩
            obtain ⟨s, hs⟩ : ∃ s, sgn x = s := ⟨_, rfl⟩
            have y := HZ2.out.2
            rw [hd, hf1, hf2] at y
            rw [hd, hf1, hf2, hs]
            rw [hs] at z1 z2 z3 z4 z5 z6
            obtain ⟨⟨y1, y2⟩, ⟨y3, y4⟩, ⟨y5, y6⟩, ⟨y7, y8⟩, y9⟩ := y
            clear hd hf1 hf2 hs HZ2
            go_wp2_with fail
            refine (awake_calls _ (HG.out.1.to hW)).mono ?_
            rintro e w11 ⟨rfl, hb11⟩
            go_wp2_with fail
            go_ret
            exact ⟨rfl, below_trans hW hb11⟩

end Go.Proofs.YtocackggamifnaaGreatDoor
