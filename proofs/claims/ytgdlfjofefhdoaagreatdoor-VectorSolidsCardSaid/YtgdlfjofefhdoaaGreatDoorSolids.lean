/- The walk of VectorSolids: it answers true. -/
import Derived.Test.YtgdlfjofefhdoaaGreatDoorRefZ
import Derived.Test.YtgdlfjofefhdoaaGreatDoorRefS
import Derived.Test.YtgdlfjofefhdoaaGreatDoorAwake
namespace Go.Proofs.YtgdlfjofefhdoaaGreatDoor
open Go.RowKit Go.Sort Go.Lib Mb

theorem eqSpot (d : Nat) (w : World) (a b c x y z : Int) : (Op.equalIn (d + 2) 33 (.agg #[.int .i64 a, .int .i64 b, .int .i64 c]) (.agg #[.int .i64 x, .int .i64 y, .int .i64 z])).run Tryz.prog w = .ok (a == x && (b == y && c == z)) w := by
  refine eqStruct Tryz.underlying33 (by kernel_rfl) ?_
  rw [← Bool.and_true (c == z)]
  refine eqFields_one (by decide) (by go_simp; rfl) (by go_simp; rfl) (by go_simp) ?_
  refine eqFields_one (by decide) (by go_simp; rfl) (by go_simp; rfl) (by go_simp) ?_
  exact eqFields_one (by decide) (by go_simp; rfl) (by go_simp; rfl) (by go_simp) eqFields_none

theorem nrm_bd11 {a b c : P3} (ha : Bd3 100000 a) (hb : Bd3 100000 b) (hc : Bd3 100000 c) : Bd3 100000000000 (nrm a b c) := (nrm_bd ha hb hc).mono (by omega)

theorem six_bd17 {a b c d : P3} (ha : Bd3 100000 a) (hb : Bd3 100000 b) (hc : Bd3 100000 c) (hd : Bd3 100000 d) : -1000000000000000000 ≤ six a b c d ∧ six a b c d ≤ 1000000000000000000 := by
  have h := nrm_bd ha hb hc
  have k := ha.sub hd
  have m1 := Mb.mul_bd h.1 k.1
  have m2 := Mb.mul_bd h.2.1 k.2.1
  have m3 := Mb.mul_bd h.2.2 k.2.2
  unfold six dt3
  omega

theorem sq3_zero {a : Int} (h : a * a ≤ 0) : a = 0 := by
  have := sq_nonneg a
  exact sq_zero (by omega)

theorem tot_pos {v : P3} (h : v ≠ ⟨0, 0, 0⟩) : 0 < tot 3 v := by
  have h1 := sq_nonneg v.x
  have h2 := sq_nonneg v.y
  have h3 := sq_nonneg v.z
  by_cases h0 : 0 < tot 3 v
  · exact h0
  · exfalso; apply h
    simp only [tot] at h0
    have e1 := sq3_zero (a := v.x) (by omega)
    have e2 := sq3_zero (a := v.y) (by omega)
    have e3 := sq3_zero (a := v.z) (by omega)
    obtain ⟨x, y, z⟩ := v
    simp only [P3.mk.injEq] at *
    omega

set_option maxHeartbeats 1600000 in
theorem rlong_calls (v : P3) (w : World) (h : Bd3 100000000000 v) :
    Calls Tryz.prog 129 #[V3 v] w fun e w' => e = .returned (S (tot 3 v)) ∧ Below w.heap.size w w' := by
  have l1 : ∀ k, (dg (pc k v)).length ≤ 900 := fun k => by
    have hp := pc_bd h k
    have := dg_of_lt (n := pc k v) (k := 12) (by omega) (by omega); omega
  have l2 : ∀ k, (dg (pc k v * pc k v)).length ≤ 1900 := fun k => by
    have hp := sq_bd (pc_bd h k)
    generalize pc k v * pc k v = m at *
    have := dg_of_lt (n := m) (k := 23) (by omega) (by omega); omega
  have l3 : ∀ k, (dg (tot k v)).length ≤ 1900 := fun k => by
    have hp := tot_bd h k
    have := dg_of_lt (n := tot k v) (k := 23) (by omega) (by omega); omega
  have t1 : ∀ k w, _ := fun k w => rof_calls (pc k v) w (by have := pc_bd h k; omega) (by have := pc_bd h k; omega)
  have t2 : ∀ k w, _ := fun k w => rtimes_calls (pc k v) (pc k v) w (l1 k) (l1 k)
  have t3 : ∀ k w, _ := fun k w => rplus_calls (tot k v) (pc k v * pc k v) w (l3 k) (l2 k)
  have HT := Lib.hid (And.intro t1 (And.intro t2 t3))
  clear t1 t2 t3 l1 l2 l3 h
  have hx := bx3_new w v 33
  have hl := bx3_new (w.alloc (B3 v 33)) v 3
  rw [size_alloc1] at hl
  have HX := Lib.hid (And.intro hl (below2 w (B3 v 33) (.cells #[.int .i64 v.x, .int .i64 v.y, .int .i64 v.z] 3)))
  obtain ⟨c1, c2, c3⟩ := hx
  clear hl
  go_enter Tryz.func129, Tryz.ntmps129
  go_wp2_with fail
  obtain ⟨W, hW⟩ : ∃ W, W = (w.alloc (B3 v 33)).alloc (.cells #[.int .i64 v.x, .int .i64 v.y, .int .i64 v.z] 3) := ⟨_, rfl⟩
  rw [← hW] at HX ⊢
  clear hW c1 c2 c3
  go_loopg [3, 14] 3 (fun g s i wr => ∃ k : Nat, k + g = 3 ∧ s = S (tot k v) ∧ i = .int .i64 k ∧ Below W.heap.size W wr)
  case atStart => exact ⟨0, rfl, S_zero.symm, rfl, Below.refl _ _⟩
  case round =>
    obtain ⟨k, hk, rfl, rfl, hbel⟩ := hrel
    by_cases hlt : k < 3
    · have hc : wr.cell? ⟨w.heap.size + 1, k, none⟩ = some (.int .i64 (pc k v)) := by
        have := HX.out.1.to hbel
        match k, hlt with
        | 0, _ => exact this.1
        | 1, _ => exact this.2.1
        | 2, _ => exact this.2.2
      have u1 := HT.out.1 k
      have u2 := HT.out.2.1 k
      have u3 := HT.out.2.2 k
      rw [tot_succ k hlt v] at u3
      obtain ⟨x, hx⟩ : ∃ x, pc k v = x := ⟨_, rfl⟩
      rw [hx] at u1 u2 u3 hc
      have HU := Lib.hid (And.intro u1 (And.intro u2 u3))
      clear u1 u2 u3 hx
      go_wp2_with fail
      refine (HU.out.1 _).mono ?_
      rintro e v1 ⟨rfl, e1⟩
      have f1 := Lib.hid (below_trans hbel e1); clear e1
      go_wp2_with fail
      refine (HU.out.1 _).mono ?_
      rintro e v2 ⟨rfl, e2⟩
      have f2 := Lib.hid (below_trans f1.out e2); clear e2
      go_wp2_with fail
      refine (HU.out.2.1 _).mono ?_
      rintro e v3 ⟨rfl, e3⟩
      have f3 := Lib.hid (below_trans f2.out e3); clear e3
      go_wp2_with fail
      refine (HU.out.2.2 _).mono ?_
      rintro e v4 ⟨rfl, e4⟩
      have f4 := Lib.hid (below_trans f3.out e4); clear e4
      go_wp2_with fail
      go_roundg (gk - 1)
      case measure => omega
      case rel => exact ⟨k + 1, by omega, rfl, by go_num, f4.out⟩
    · have hk3 : k = 3 := by omega
      subst hk3
      go_wp2_with fail
      go_ret
      exact ⟨rfl, below_trans HX.out.2 hbel⟩

set_option maxHeartbeats 1600000 in
theorem rfromPlane_calls (p a b c : P3) (w : World) (hp : Bd3 100000 p) (ha : Bd3 100000 a) (hb : Bd3 100000 b) (hc : Bd3 100000 c) (hn : nrm a b c ≠ ⟨0, 0, 0⟩) :
    Calls Tryz.prog 75 #[V3 p, V3 a, V3 b, V3 c] w fun e w' => e = .returned (R (rn (six a b c p * six a b c p) (tot 3 (nrm a b c))) (rd (six a b c p * six a b c p) (tot 3 (nrm a b c)))) ∧ Below w.heap.size w w' := by
  have h6 := six_bd17 ha hb hc hp
  have hnb := nrm_bd11 ha hb hc
  have htb := tot_bd hnb 3
  have hm := Mb.mul_bd (A := 1000000000000000000) (C := 1000000000000000000) h6 h6
  have l0 : (dg (six a b c p)).length ≤ 900 := by
    generalize six a b c p = z at *
    have := dg_of_lt (n := z) (k := 19) (by omega) (by omega); omega
  have l1 : (dg (six a b c p * six a b c p)).length ≤ 900 := by
    generalize six a b c p * six a b c p = z at *
    have := dg_of_lt (n := z) (k := 37) (by omega) (by omega); omega
  have l2 : (dg (tot 3 (nrm a b c))).length ≤ 900 := by
    generalize tot 3 (nrm a b c) = z at *
    have := dg_of_lt (n := z) (k := 23) (by omega) (by omega); omega
  have t1 := fun w => six_calls a b c p w ha hb hc hp
  have t2 := fun w => rof_calls (six a b c p) w (by omega) (by omega)
  have t3 := fun w => rtimes_calls (six a b c p) (six a b c p) w l0 l0
  have t4 := fun w => across_calls a b c w (ha.mono (by omega)) (hb.mono (by omega)) (hc.mono (by omega))
  have t5 := fun w => rlong_calls (nrm a b c) w hnb
  have t6 := fun w => rlowest_calls (six a b c p * six a b c p) (tot 3 (nrm a b c)) w (sq_nonneg _) (tot_pos hn) l1 l2
  obtain ⟨z, hz⟩ : ∃ z, six a b c p = z := ⟨_, rfl⟩
  rw [hz] at t1 t2 t3 t6 ⊢
  have HT := Lib.hid (And.intro t1 (And.intro t2 (And.intro t3 (And.intro t4 (And.intro t5 t6)))))
  clear t1 t2 t3 t4 t5 t6 l0 l1 l2 hm htb hnb h6 hp ha hb hc hn hz
  obtain ⟨W, hW⟩ : ∃ W, W = (((w.alloc (B3 p 33)).alloc (B3 a 33)).alloc (B3 b 33)).alloc (B3 c 33) := ⟨_, rfl⟩
  have hb0 : Below w.heap.size w W := by rw [hW]; exact below_trans (below3 _ _ _ _) (alloc_below _ _)
  have hx := bx3_4 w p a b c 33 33 33 33
  rw [← hW] at hx
  have HX := Lib.hid (And.intro hx hb0)
  obtain ⟨⟨c1, c2, c3⟩, ⟨c4, c5, c6⟩, ⟨c7, c8, c9⟩, c10, c11, c12⟩ := hx
  clear hb0
  go_enter Tryz.func75, Tryz.ntmps75
  go_wp2_with fail
  rw [← hW]
  clear hW
  refine (HT.out.1 _).mono ?_
  rintro e w1 ⟨rfl, hb1⟩
  clear c1 c2 c3 c4 c5 c6 c7 c8 c9 c10 c11 c12
  have H1 := Lib.hid hb1; clear hb1
  go_wp2_with fail
  refine (HT.out.2.1 _).mono ?_
  rintro e w2 ⟨rfl, hb2⟩
  have hb := below_trans H1.out hb2
  have HM := Lib.hid (And.intro (HX.out.1.2.1.to hb) (And.intro (HX.out.1.2.2.1.to hb) (And.intro (HX.out.1.2.2.2.to hb) (below_trans HX.out.2 hb))))
  clear hb hb2 H1 HX
  have k1 := cell_regrown HM.out.1.1
  have k2 := cell_regrown HM.out.1.2.1
  have k3 := cell_regrown HM.out.1.2.2
  have k4 := cell_regrown HM.out.2.1.1
  have k5 := cell_regrown HM.out.2.1.2.1
  have k6 := cell_regrown HM.out.2.1.2.2
  have k7 := cell_regrown HM.out.2.2.1.1
  have k8 := cell_regrown HM.out.2.2.1.2.1
  have k9 := cell_regrown HM.out.2.2.1.2.2
  have q1 : ∀ d os, Calls Tryz.prog 128 #[S z, S z] (grow (redrawn w2 d) os) fun e w'' => e = .returned (S (z * z)) ∧ ∃ p : Regrown, w'' = grow (redrawn w2 p.d) p.os := fun d os => Calls.regrown_of (HT.out.2.2.1 _)
  have q2 : ∀ d os, Calls Tryz.prog 68 #[V3 a, V3 b, V3 c] (grow (redrawn w2 d) os) fun e w'' => e = .returned (V3 (nrm a b c)) ∧ ∃ p : Regrown, w'' = grow (redrawn w2 p.d) p.os := fun d os => Calls.regrown_of (HT.out.2.2.2.1 _)
  have q3 : ∀ d os, Calls Tryz.prog 129 #[V3 (nrm a b c)] (grow (redrawn w2 d) os) fun e w'' => e = .returned (S (tot 3 (nrm a b c))) ∧ ∃ p : Regrown, w'' = grow (redrawn w2 p.d) p.os := fun d os => Calls.regrown_of (HT.out.2.2.2.2.1 _)
  have q4 : ∀ d os, Calls Tryz.prog 127 #[S (z * z), S (tot 3 (nrm a b c))] (grow (redrawn w2 d) os) fun e w'' => e = .returned (R (rn (z * z) (tot 3 (nrm a b c))) (rd (z * z) (tot 3 (nrm a b c)))) ∧ ∃ p : Regrown, w'' = grow (redrawn w2 p.d) p.os := fun d os => Calls.regrown_of (HT.out.2.2.2.2.2 _)
  go_wp2_with fail
  refine wp_region_quiet_below follows (by kernel_rfl) ?_
  repeat (quiet_step (first | with_reducible exact q1 _ _ | with_reducible exact q2 _ _ | with_reducible exact q3 _ _ | with_reducible exact q4 _ _))
  refine wpQuiet_nil ?_
  intro _ hw'
  obtain ⟨⟨dq, osq⟩, hw''⟩ := hw'
  subst hw''
  go_wp2_with fail
  go_ret
  exact ⟨rfl, below_trans HM.out.2.2.2 (below_regrown w2 dq osq)⟩

def nmV (a b c : P3) : P3 := if errOf3 [a, b, c] = 0 then nrm a b c else ⟨0, 0, 0⟩
def voV (a b c d : P3) : Int := if errOf3 [a, b, c, d] = 0 then six a b c d else 0
def ssV (a b : P3) : Int := if errOf3 [a, b] = 0 then dt3 (sub3 b a) (sub3 b a) else 0
def tpS (p a b c : P3) : ByteArray := if errOf3 [p, a, b, c] = 0 then (if nrm a b c = ⟨0, 0, 0⟩ then ⟨#[]⟩ else ⟨(rtxt (rn (six a b c p * six a b c p) (tot 3 (nrm a b c))) (rd (six a b c p * six a b c p) (tot 3 (nrm a b c)))).toArray⟩) else ⟨#[]⟩
def tpE (p a b c : P3) : Int := if errOf3 [p, a, b, c] = 0 then (if nrm a b c = ⟨0, 0, 0⟩ then 10 else 0) else 2

theorem Normal_any (a b c : P3) (w : World) : Calls Tryz.prog 16 #[V3 a, V3 b, V3 c] w fun e w' => e = .returned (.tuple #[V3 (nmV a b c), .int .i64 (errOf3 [a, b, c])]) ∧ Below w.heap.size w w' := by
  unfold nmV
  by_cases he : errOf3 [a, b, c] = 0
  · rw [if_pos he, he]; exact Normal_ok a b c w (errOf3_ok he a (by simp)) (errOf3_ok he b (by simp)) (errOf3_ok he c (by simp))
  · rw [if_neg he, errOf3_two he]; exact Normal_err a b c w (errOf3_two he)
theorem Volume_any (a b c d : P3) (w : World) : Calls Tryz.prog 18 #[V3 a, V3 b, V3 c, V3 d] w fun e w' => e = .returned (.tuple #[.int .i64 (voV a b c d), .int .i64 (errOf3 [a, b, c, d])]) ∧ Below w.heap.size w w' := by
  unfold voV
  by_cases he : errOf3 [a, b, c, d] = 0
  · rw [if_pos he, he]; exact Volume_ok a b c d w (errOf3_ok he a (by simp)) (errOf3_ok he b (by simp)) (errOf3_ok he c (by simp)) (errOf3_ok he d (by simp))
  · rw [if_neg he, errOf3_two he]; exact Volume_err a b c d w (errOf3_two he)
theorem SquareSpace_any (a b : P3) (w : World) : Calls Tryz.prog 20 #[V3 a, V3 b] w fun e w' => e = .returned (.tuple #[.int .i64 (ssV a b), .int .i64 (errOf3 [a, b])]) ∧ Below w.heap.size w w' := by
  unfold ssV
  by_cases he : errOf3 [a, b] = 0
  · rw [if_pos he, he]; exact SquareSpace_ok a b w (errOf3_ok he a (by simp)) (errOf3_ok he b (by simp))
  · rw [if_neg he, errOf3_two he]; exact SquareSpace_err a b w (errOf3_two he)
theorem ToPlane_any (p a b c : P3) (w : World) (hg : Good w) : Calls Tryz.prog 22 #[V3 p, V3 a, V3 b, V3 c] w fun e w' => e = .returned (.tuple #[.string (tpS p a b c), .int .i64 (tpE p a b c)]) ∧ Below w.heap.size w w' := by
  unfold tpS tpE
  by_cases he : errOf3 [p, a, b, c] = 0
  · rw [if_pos he, if_pos he]
    have hp := errOf3_ok he p (by simp)
    have ha := errOf3_ok he a (by simp)
    have hb := errOf3_ok he b (by simp)
    have hc := errOf3_ok he c (by simp)
    by_cases hn : nrm a b c = ⟨0, 0, 0⟩
    · rw [if_pos hn, if_pos hn]; exact ToPlane_flat p a b c w hp ha hb hc hn
    · rw [if_neg hn, if_neg hn]
      have hnb := nrm_bd11 (bd_high ha) (bd_high hb) (bd_high hc)
      have htb := tot_bd hnb 3
      have h6 := six_bd17 (bd_high ha) (bd_high hb) (bd_high hc) (bd_high hp)
      exact ToPlane_ok p a b c w hg hp ha hb hc hn (plOps_any hnb) (sqOps_any h6 (tot_pos hn) (by
        generalize tot 3 (nrm a b c) = z at *
        have := dg_of_lt (n := z) (k := 23) (by omega) (by omega); omega))
  · rw [if_neg he, if_neg he]; exact ToPlane_err p a b c w (errOf3_two he)

set_option maxRecDepth 100000 in
set_option maxHeartbeats 3200000 in
theorem rSquareSpace_any (a b : P3) (w : World) : Calls Tryz.prog 21 #[V3 a, V3 b] w fun e w' => e = .returned (.tuple #[.int .i64 (ssV a b), .int .i64 (errOf3 [a, b])]) ∧ Below w.heap.size w w' := by
  obtain ⟨W, hW⟩ : ∃ W, W = (w.alloc (B3 a 33)).alloc (B3 b 33) := ⟨_, rfl⟩
  have hb0 : Below w.heap.size w W := by rw [hW]; exact below2 _ _ _
  have hx := bx3_2 w a b 33 33
  rw [← hW] at hx
  have HX := Lib.hid (And.intro hx hb0)
  obtain ⟨⟨c1, c2, c3⟩, c4, c5, c6⟩ := hx
  clear hb0
  cases h0 : highB a with
  | false =>
    have e1 : errOf3 [a, b] = 2 := by simp [errOf3, h0]
    have HV : Hid (ssV a b = 0) := Lib.hid (by simp [ssV, e1])
    obtain ⟨vv, hvv⟩ : ∃ x, ssV a b = x := ⟨_, rfl⟩
    rw [hvv] at HV ⊢
    rw [e1]
    have r0 := fun w => rightS_calls a w
    rw [h0] at r0
    have R0 := Lib.hid r0; clear r0
    clear hvv e1 
    go_enter Tryz.func21, Tryz.ntmps21
    go_wp2_with fail
    rw [← hW]
    clear hW
    refine (R0.out _).mono ?_
    rintro e v0 ⟨rfl, hb⟩
    clear c1 c2 c3 c4 c5 c6
    have B0 := Lib.hid (And.intro (below_trans HX.out.2 hb) (And.intro (HX.out.1.1.to hb) (HX.out.1.2.to hb)))
    clear hb
    obtain ⟨-, ⟨c1, c2, c3⟩, ⟨c4, c5, c6⟩⟩ := B0.out
    clear c1 c2 c3 c4 c5 c6
    go_wp2_with fail
    go_ret2
    have hv := HV.out
    subst hv
    exact ⟨rfl, B0.out.1⟩
  | true =>
    cases h1 : highB b with
    | false =>
      have e1 : errOf3 [a, b] = 2 := by simp [errOf3, h0, h1]
      have HV : Hid (ssV a b = 0) := Lib.hid (by simp [ssV, e1])
      obtain ⟨vv, hvv⟩ : ∃ x, ssV a b = x := ⟨_, rfl⟩
      rw [hvv] at HV ⊢
      rw [e1]
      have r0 := fun w => rightS_calls a w
      rw [h0] at r0
      have R0 := Lib.hid r0; clear r0
      have r1 := fun w => rightS_calls b w
      rw [h1] at r1
      have R1 := Lib.hid r1; clear r1
      clear hvv e1 
      go_enter Tryz.func21, Tryz.ntmps21
      go_wp2_with fail
      rw [← hW]
      clear hW
      refine (R0.out _).mono ?_
      rintro e v0 ⟨rfl, hb⟩
      clear c1 c2 c3 c4 c5 c6
      have B0 := Lib.hid (And.intro (below_trans HX.out.2 hb) (And.intro (HX.out.1.1.to hb) (HX.out.1.2.to hb)))
      clear hb
      obtain ⟨-, ⟨c1, c2, c3⟩, ⟨c4, c5, c6⟩⟩ := B0.out
      go_wp2_with fail
      refine (R1.out _).mono ?_
      rintro e v1 ⟨rfl, hb⟩
      clear c1 c2 c3 c4 c5 c6
      have B1 := Lib.hid (And.intro (below_trans B0.out.1 hb) (And.intro (B0.out.2.1.to hb) (B0.out.2.2.to hb)))
      clear hb
      obtain ⟨-, ⟨c1, c2, c3⟩, ⟨c4, c5, c6⟩⟩ := B1.out
      clear c1 c2 c3 c4 c5 c6
      go_wp2_with fail
      go_ret2
      have hv := HV.out
      subst hv
      exact ⟨rfl, B1.out.1⟩
    | true =>
      have e1 : errOf3 [a, b] = 0 := by simp [errOf3, h0, h1]
      have r0 := fun w => rightS_calls a w
      rw [h0] at r0
      have R0 := Lib.hid r0; clear r0
      have d0 := bd_high h0
      have r1 := fun w => rightS_calls b w
      rw [h1] at r1
      have R1 := Lib.hid r1; clear r1
      have d1 := bd_high h1
      have ev : ssV a b = dt3 (sub3 a b) (sub3 a b) := by unfold ssV; rw [if_pos e1]; simp only [dt3, sub3]; grind
      rw [ev, e1]
      have T := Lib.hid (fun w => farS_calls a b w d0 d1)
      clear ev e1 d0 d1
      go_enter Tryz.func21, Tryz.ntmps21
      go_wp2_with fail
      rw [← hW]
      clear hW
      refine (R0.out _).mono ?_
      rintro e v0 ⟨rfl, hb⟩
      clear c1 c2 c3 c4 c5 c6
      have B0 := Lib.hid (And.intro (below_trans HX.out.2 hb) (And.intro (HX.out.1.1.to hb) (HX.out.1.2.to hb)))
      clear hb
      obtain ⟨-, ⟨c1, c2, c3⟩, ⟨c4, c5, c6⟩⟩ := B0.out
      go_wp2_with fail
      refine (R1.out _).mono ?_
      rintro e v1 ⟨rfl, hb⟩
      clear c1 c2 c3 c4 c5 c6
      have B1 := Lib.hid (And.intro (below_trans B0.out.1 hb) (And.intro (B0.out.2.1.to hb) (B0.out.2.2.to hb)))
      clear hb
      obtain ⟨-, ⟨c1, c2, c3⟩, ⟨c4, c5, c6⟩⟩ := B1.out
      go_wp2_with fail
      refine (T.out _).mono ?_
      rintro e v9 ⟨rfl, hb⟩
      have B9 := Lib.hid (below_trans B1.out.1 hb); clear hb
      go_wp2_with fail
      go_ret2
      exact ⟨rfl, B9.out⟩

set_option maxRecDepth 100000 in
set_option maxHeartbeats 3200000 in
theorem rVolume_any (a b c d : P3) (w : World) : Calls Tryz.prog 19 #[V3 a, V3 b, V3 c, V3 d] w fun e w' => e = .returned (.tuple #[.int .i64 (voV a b c d), .int .i64 (errOf3 [a, b, c, d])]) ∧ Below w.heap.size w w' := by
  obtain ⟨W, hW⟩ : ∃ W, W = (((w.alloc (B3 a 33)).alloc (B3 b 33)).alloc (B3 c 33)).alloc (B3 d 33) := ⟨_, rfl⟩
  have hb0 : Below w.heap.size w W := by rw [hW]; exact below_trans (below3 _ _ _ _) (alloc_below _ _)
  have hx := bx3_4 w a b c d 33 33 33 33
  rw [← hW] at hx
  have HX := Lib.hid (And.intro hx hb0)
  obtain ⟨⟨c1, c2, c3⟩, ⟨c4, c5, c6⟩, ⟨c7, c8, c9⟩, c10, c11, c12⟩ := hx
  clear hb0
  cases h0 : highB a with
  | false =>
    have e1 : errOf3 [a, b, c, d] = 2 := by simp [errOf3, h0]
    have HV : Hid (voV a b c d = 0) := Lib.hid (by simp [voV, e1])
    obtain ⟨vv, hvv⟩ : ∃ x, voV a b c d = x := ⟨_, rfl⟩
    rw [hvv] at HV ⊢
    rw [e1]
    have r0 := fun w => rightS_calls a w
    rw [h0] at r0
    have R0 := Lib.hid r0; clear r0
    clear hvv e1 
    go_enter Tryz.func19, Tryz.ntmps19
    go_wp2_with fail
    rw [← hW]
    clear hW
    refine (R0.out _).mono ?_
    rintro e v0 ⟨rfl, hb⟩
    clear c1 c2 c3 c4 c5 c6 c7 c8 c9 c10 c11 c12
    have B0 := Lib.hid (And.intro (below_trans HX.out.2 hb) (And.intro (HX.out.1.1.to hb) (And.intro (HX.out.1.2.1.to hb) (And.intro (HX.out.1.2.2.1.to hb) (HX.out.1.2.2.2.to hb)))))
    clear hb
    obtain ⟨-, ⟨c1, c2, c3⟩, ⟨c4, c5, c6⟩, ⟨c7, c8, c9⟩, ⟨c10, c11, c12⟩⟩ := B0.out
    clear c1 c2 c3 c4 c5 c6 c7 c8 c9 c10 c11 c12
    go_wp2_with fail
    go_ret2
    have hv := HV.out
    subst hv
    exact ⟨rfl, B0.out.1⟩
  | true =>
    cases h1 : highB b with
    | false =>
      have e1 : errOf3 [a, b, c, d] = 2 := by simp [errOf3, h0, h1]
      have HV : Hid (voV a b c d = 0) := Lib.hid (by simp [voV, e1])
      obtain ⟨vv, hvv⟩ : ∃ x, voV a b c d = x := ⟨_, rfl⟩
      rw [hvv] at HV ⊢
      rw [e1]
      have r0 := fun w => rightS_calls a w
      rw [h0] at r0
      have R0 := Lib.hid r0; clear r0
      have r1 := fun w => rightS_calls b w
      rw [h1] at r1
      have R1 := Lib.hid r1; clear r1
      clear hvv e1 
      go_enter Tryz.func19, Tryz.ntmps19
      go_wp2_with fail
      rw [← hW]
      clear hW
      refine (R0.out _).mono ?_
      rintro e v0 ⟨rfl, hb⟩
      clear c1 c2 c3 c4 c5 c6 c7 c8 c9 c10 c11 c12
      have B0 := Lib.hid (And.intro (below_trans HX.out.2 hb) (And.intro (HX.out.1.1.to hb) (And.intro (HX.out.1.2.1.to hb) (And.intro (HX.out.1.2.2.1.to hb) (HX.out.1.2.2.2.to hb)))))
      clear hb
      obtain ⟨-, ⟨c1, c2, c3⟩, ⟨c4, c5, c6⟩, ⟨c7, c8, c9⟩, ⟨c10, c11, c12⟩⟩ := B0.out
      go_wp2_with fail
      refine (R1.out _).mono ?_
      rintro e v1 ⟨rfl, hb⟩
      clear c1 c2 c3 c4 c5 c6 c7 c8 c9 c10 c11 c12
      have B1 := Lib.hid (And.intro (below_trans B0.out.1 hb) (And.intro (B0.out.2.1.to hb) (And.intro (B0.out.2.2.1.to hb) (And.intro (B0.out.2.2.2.1.to hb) (B0.out.2.2.2.2.to hb)))))
      clear hb
      obtain ⟨-, ⟨c1, c2, c3⟩, ⟨c4, c5, c6⟩, ⟨c7, c8, c9⟩, ⟨c10, c11, c12⟩⟩ := B1.out
      clear c1 c2 c3 c4 c5 c6 c7 c8 c9 c10 c11 c12
      go_wp2_with fail
      go_ret2
      have hv := HV.out
      subst hv
      exact ⟨rfl, B1.out.1⟩
    | true =>
      cases h2 : highB c with
      | false =>
        have e1 : errOf3 [a, b, c, d] = 2 := by simp [errOf3, h0, h1, h2]
        have HV : Hid (voV a b c d = 0) := Lib.hid (by simp [voV, e1])
        obtain ⟨vv, hvv⟩ : ∃ x, voV a b c d = x := ⟨_, rfl⟩
        rw [hvv] at HV ⊢
        rw [e1]
        have r0 := fun w => rightS_calls a w
        rw [h0] at r0
        have R0 := Lib.hid r0; clear r0
        have r1 := fun w => rightS_calls b w
        rw [h1] at r1
        have R1 := Lib.hid r1; clear r1
        have r2 := fun w => rightS_calls c w
        rw [h2] at r2
        have R2 := Lib.hid r2; clear r2
        clear hvv e1 
        go_enter Tryz.func19, Tryz.ntmps19
        go_wp2_with fail
        rw [← hW]
        clear hW
        refine (R0.out _).mono ?_
        rintro e v0 ⟨rfl, hb⟩
        clear c1 c2 c3 c4 c5 c6 c7 c8 c9 c10 c11 c12
        have B0 := Lib.hid (And.intro (below_trans HX.out.2 hb) (And.intro (HX.out.1.1.to hb) (And.intro (HX.out.1.2.1.to hb) (And.intro (HX.out.1.2.2.1.to hb) (HX.out.1.2.2.2.to hb)))))
        clear hb
        obtain ⟨-, ⟨c1, c2, c3⟩, ⟨c4, c5, c6⟩, ⟨c7, c8, c9⟩, ⟨c10, c11, c12⟩⟩ := B0.out
        go_wp2_with fail
        refine (R1.out _).mono ?_
        rintro e v1 ⟨rfl, hb⟩
        clear c1 c2 c3 c4 c5 c6 c7 c8 c9 c10 c11 c12
        have B1 := Lib.hid (And.intro (below_trans B0.out.1 hb) (And.intro (B0.out.2.1.to hb) (And.intro (B0.out.2.2.1.to hb) (And.intro (B0.out.2.2.2.1.to hb) (B0.out.2.2.2.2.to hb)))))
        clear hb
        obtain ⟨-, ⟨c1, c2, c3⟩, ⟨c4, c5, c6⟩, ⟨c7, c8, c9⟩, ⟨c10, c11, c12⟩⟩ := B1.out
        go_wp2_with fail
        refine (R2.out _).mono ?_
        rintro e v2 ⟨rfl, hb⟩
        clear c1 c2 c3 c4 c5 c6 c7 c8 c9 c10 c11 c12
        have B2 := Lib.hid (And.intro (below_trans B1.out.1 hb) (And.intro (B1.out.2.1.to hb) (And.intro (B1.out.2.2.1.to hb) (And.intro (B1.out.2.2.2.1.to hb) (B1.out.2.2.2.2.to hb)))))
        clear hb
        obtain ⟨-, ⟨c1, c2, c3⟩, ⟨c4, c5, c6⟩, ⟨c7, c8, c9⟩, ⟨c10, c11, c12⟩⟩ := B2.out
        clear c1 c2 c3 c4 c5 c6 c7 c8 c9 c10 c11 c12
        go_wp2_with fail
        go_ret2
        have hv := HV.out
        subst hv
        exact ⟨rfl, B2.out.1⟩
      | true =>
        cases h3 : highB d with
        | false =>
          have e1 : errOf3 [a, b, c, d] = 2 := by simp [errOf3, h0, h1, h2, h3]
          have HV : Hid (voV a b c d = 0) := Lib.hid (by simp [voV, e1])
          obtain ⟨vv, hvv⟩ : ∃ x, voV a b c d = x := ⟨_, rfl⟩
          rw [hvv] at HV ⊢
          rw [e1]
          have r0 := fun w => rightS_calls a w
          rw [h0] at r0
          have R0 := Lib.hid r0; clear r0
          have r1 := fun w => rightS_calls b w
          rw [h1] at r1
          have R1 := Lib.hid r1; clear r1
          have r2 := fun w => rightS_calls c w
          rw [h2] at r2
          have R2 := Lib.hid r2; clear r2
          have r3 := fun w => rightS_calls d w
          rw [h3] at r3
          have R3 := Lib.hid r3; clear r3
          clear hvv e1 
          go_enter Tryz.func19, Tryz.ntmps19
          go_wp2_with fail
          rw [← hW]
          clear hW
          refine (R0.out _).mono ?_
          rintro e v0 ⟨rfl, hb⟩
          clear c1 c2 c3 c4 c5 c6 c7 c8 c9 c10 c11 c12
          have B0 := Lib.hid (And.intro (below_trans HX.out.2 hb) (And.intro (HX.out.1.1.to hb) (And.intro (HX.out.1.2.1.to hb) (And.intro (HX.out.1.2.2.1.to hb) (HX.out.1.2.2.2.to hb)))))
          clear hb
          obtain ⟨-, ⟨c1, c2, c3⟩, ⟨c4, c5, c6⟩, ⟨c7, c8, c9⟩, ⟨c10, c11, c12⟩⟩ := B0.out
          go_wp2_with fail
          refine (R1.out _).mono ?_
          rintro e v1 ⟨rfl, hb⟩
          clear c1 c2 c3 c4 c5 c6 c7 c8 c9 c10 c11 c12
          have B1 := Lib.hid (And.intro (below_trans B0.out.1 hb) (And.intro (B0.out.2.1.to hb) (And.intro (B0.out.2.2.1.to hb) (And.intro (B0.out.2.2.2.1.to hb) (B0.out.2.2.2.2.to hb)))))
          clear hb
          obtain ⟨-, ⟨c1, c2, c3⟩, ⟨c4, c5, c6⟩, ⟨c7, c8, c9⟩, ⟨c10, c11, c12⟩⟩ := B1.out
          go_wp2_with fail
          refine (R2.out _).mono ?_
          rintro e v2 ⟨rfl, hb⟩
          clear c1 c2 c3 c4 c5 c6 c7 c8 c9 c10 c11 c12
          have B2 := Lib.hid (And.intro (below_trans B1.out.1 hb) (And.intro (B1.out.2.1.to hb) (And.intro (B1.out.2.2.1.to hb) (And.intro (B1.out.2.2.2.1.to hb) (B1.out.2.2.2.2.to hb)))))
          clear hb
          obtain ⟨-, ⟨c1, c2, c3⟩, ⟨c4, c5, c6⟩, ⟨c7, c8, c9⟩, ⟨c10, c11, c12⟩⟩ := B2.out
          go_wp2_with fail
          refine (R3.out _).mono ?_
          rintro e v3 ⟨rfl, hb⟩
          clear c1 c2 c3 c4 c5 c6 c7 c8 c9 c10 c11 c12
          have B3 := Lib.hid (And.intro (below_trans B2.out.1 hb) (And.intro (B2.out.2.1.to hb) (And.intro (B2.out.2.2.1.to hb) (And.intro (B2.out.2.2.2.1.to hb) (B2.out.2.2.2.2.to hb)))))
          clear hb
          obtain ⟨-, ⟨c1, c2, c3⟩, ⟨c4, c5, c6⟩, ⟨c7, c8, c9⟩, ⟨c10, c11, c12⟩⟩ := B3.out
          clear c1 c2 c3 c4 c5 c6 c7 c8 c9 c10 c11 c12
          go_wp2_with fail
          go_ret2
          have hv := HV.out
          subst hv
          exact ⟨rfl, B3.out.1⟩
        | true =>
          have e1 : errOf3 [a, b, c, d] = 0 := by simp [errOf3, h0, h1, h2, h3]
          have r0 := fun w => rightS_calls a w
          rw [h0] at r0
          have R0 := Lib.hid r0; clear r0
          have d0 := bd_high h0
          have r1 := fun w => rightS_calls b w
          rw [h1] at r1
          have R1 := Lib.hid r1; clear r1
          have d1 := bd_high h1
          have r2 := fun w => rightS_calls c w
          rw [h2] at r2
          have R2 := Lib.hid r2; clear r2
          have d2 := bd_high h2
          have r3 := fun w => rightS_calls d w
          rw [h3] at r3
          have R3 := Lib.hid r3; clear r3
          have d3 := bd_high h3
          have ev : voV a b c d = six a b c d := by unfold voV; rw [if_pos e1]
          rw [ev, e1]
          have T := Lib.hid (fun w => six_calls a b c d w d0 d1 d2 d3)
          clear ev e1 d0 d1 d2 d3
          go_enter Tryz.func19, Tryz.ntmps19
          go_wp2_with fail
          rw [← hW]
          clear hW
          refine (R0.out _).mono ?_
          rintro e v0 ⟨rfl, hb⟩
          clear c1 c2 c3 c4 c5 c6 c7 c8 c9 c10 c11 c12
          have B0 := Lib.hid (And.intro (below_trans HX.out.2 hb) (And.intro (HX.out.1.1.to hb) (And.intro (HX.out.1.2.1.to hb) (And.intro (HX.out.1.2.2.1.to hb) (HX.out.1.2.2.2.to hb)))))
          clear hb
          obtain ⟨-, ⟨c1, c2, c3⟩, ⟨c4, c5, c6⟩, ⟨c7, c8, c9⟩, ⟨c10, c11, c12⟩⟩ := B0.out
          go_wp2_with fail
          refine (R1.out _).mono ?_
          rintro e v1 ⟨rfl, hb⟩
          clear c1 c2 c3 c4 c5 c6 c7 c8 c9 c10 c11 c12
          have B1 := Lib.hid (And.intro (below_trans B0.out.1 hb) (And.intro (B0.out.2.1.to hb) (And.intro (B0.out.2.2.1.to hb) (And.intro (B0.out.2.2.2.1.to hb) (B0.out.2.2.2.2.to hb)))))
          clear hb
          obtain ⟨-, ⟨c1, c2, c3⟩, ⟨c4, c5, c6⟩, ⟨c7, c8, c9⟩, ⟨c10, c11, c12⟩⟩ := B1.out
          go_wp2_with fail
          refine (R2.out _).mono ?_
          rintro e v2 ⟨rfl, hb⟩
          clear c1 c2 c3 c4 c5 c6 c7 c8 c9 c10 c11 c12
          have B2 := Lib.hid (And.intro (below_trans B1.out.1 hb) (And.intro (B1.out.2.1.to hb) (And.intro (B1.out.2.2.1.to hb) (And.intro (B1.out.2.2.2.1.to hb) (B1.out.2.2.2.2.to hb)))))
          clear hb
          obtain ⟨-, ⟨c1, c2, c3⟩, ⟨c4, c5, c6⟩, ⟨c7, c8, c9⟩, ⟨c10, c11, c12⟩⟩ := B2.out
          go_wp2_with fail
          refine (R3.out _).mono ?_
          rintro e v3 ⟨rfl, hb⟩
          clear c1 c2 c3 c4 c5 c6 c7 c8 c9 c10 c11 c12
          have B3 := Lib.hid (And.intro (below_trans B2.out.1 hb) (And.intro (B2.out.2.1.to hb) (And.intro (B2.out.2.2.1.to hb) (And.intro (B2.out.2.2.2.1.to hb) (B2.out.2.2.2.2.to hb)))))
          clear hb
          obtain ⟨-, ⟨c1, c2, c3⟩, ⟨c4, c5, c6⟩, ⟨c7, c8, c9⟩, ⟨c10, c11, c12⟩⟩ := B3.out
          go_wp2_with fail
          refine (T.out _).mono ?_
          rintro e v9 ⟨rfl, hb⟩
          have B9 := Lib.hid (below_trans B3.out.1 hb); clear hb
          go_wp2_with fail
          go_ret2
          exact ⟨rfl, B9.out⟩

set_option maxRecDepth 100000 in
set_option maxHeartbeats 3200000 in
theorem rNormal_any (a b c : P3) (w : World) : Calls Tryz.prog 17 #[V3 a, V3 b, V3 c] w fun e w' => e = .returned (.tuple #[V3 (nmV a b c), .int .i64 (errOf3 [a, b, c])]) ∧ Below w.heap.size w w' := by
  have hr := blk_new (((w.alloc (B3 a 33)).alloc (B3 b 33)).alloc (B3 c 33)) #[.int .i64 0, .int .i64 0, .int .i64 0] 35
  rw [size_alloc1, size_alloc1, size_alloc1] at hr
  obtain ⟨W, hW⟩ : ∃ W, W = (((w.alloc (B3 a 33)).alloc (B3 b 33)).alloc (B3 c 33)).alloc (.cells #[.int .i64 0, .int .i64 0, .int .i64 0] 35) := ⟨_, rfl⟩
  have hx0 := bx3_3 w a b c 33 33 33
  have hb0 : Below w.heap.size w W := by rw [hW]; exact below_trans (below3 _ _ _ _) (alloc_below _ _)
  have hx : Bx3 W w.heap.size a ∧ Bx3 W (w.heap.size + 1) b ∧ Bx3 W (w.heap.size + 2) c := by rw [hW]; exact ⟨hx0.1.to (alloc_below _ _), hx0.2.1.to (alloc_below _ _), hx0.2.2.to (alloc_below _ _)⟩
  rw [← hW] at hr
  clear hx0
  have HX := Lib.hid (And.intro hx (And.intro hb0 hr))
  clear hr
  obtain ⟨⟨c1, c2, c3⟩, ⟨c4, c5, c6⟩, c7, c8, c9⟩ := hx
  clear hb0
  cases h0 : highB a with
  | false =>
    have e1 : errOf3 [a, b, c] = 2 := by simp [errOf3, h0]
    have HV : Hid (nmV a b c = ⟨0, 0, 0⟩) := Lib.hid (by simp [nmV, e1])
    obtain ⟨vv, hvv⟩ : ∃ x, nmV a b c = x := ⟨_, rfl⟩
    rw [hvv] at HV ⊢
    rw [e1]
    have r0 := fun w => rightS_calls a w
    rw [h0] at r0
    have R0 := Lib.hid r0; clear r0
    clear hvv e1 
    go_enter Tryz.func17, Tryz.ntmps17
    go_wp2_with fail
    rw [← hW]
    clear hW
    refine (R0.out _).mono ?_
    rintro e v0 ⟨rfl, hb⟩
    clear c1 c2 c3 c4 c5 c6 c7 c8 c9
    have B0 := Lib.hid (And.intro (below_trans HX.out.2.1 hb) (And.intro (HX.out.1.1.to hb) (And.intro (HX.out.1.2.1.to hb) (And.intro (HX.out.1.2.2.to hb) (HX.out.2.2.to hb)))))
    clear hb
    obtain ⟨-, ⟨c1, c2, c3⟩, ⟨c4, c5, c6⟩, ⟨c7, c8, c9⟩, -⟩ := B0.out
    have g4 := B0.out.2.2.2.2
    have f0 := g4.free 0
    have f1 := g4.free 1
    have f2 := g4.free 2
    have e0 := g4.c 0 _ rfl
    have e1 := g4.c 1 _ rfl
    have e2 := g4.c 2 _ rfl
    clear c1 c2 c3 c4 c5 c6 c7 c8 c9
    go_wp2_with fail
    have r0 := (g4.set 0 (.int .i64 0)).c 0 _ rfl
    have r1 := ((g4.set 0 (.int .i64 0)).set 1 (.int .i64 0)).c 1 _ rfl
    have r2 := (((g4.set 0 (.int .i64 0)).set 1 (.int .i64 0)).set 2 (.int .i64 0)).c 2 _ rfl
    refine bodyPost_ret (v := .tuple #[.agg #[.int .i64 0, .int .i64 0, .int .i64 0], .int .i64 2]) (by simp [results, Tryz.results17, go_sem, r0, r1, r2]; done) rfl ⟨by have hv := HV.out; subst hv; rfl, ?_⟩
    exact ((B0.out.1.setCell (p := ⟨w.heap.size + 3, 0, none⟩) (by show w.heap.size ≤ w.heap.size + 3; omega) _).setCell (p := ⟨w.heap.size + 3, 1, none⟩) (by show w.heap.size ≤ w.heap.size + 3; omega) _).setCell (p := ⟨w.heap.size + 3, 2, none⟩) (by show w.heap.size ≤ w.heap.size + 3; omega) _
  | true =>
    cases h1 : highB b with
    | false =>
      have e1 : errOf3 [a, b, c] = 2 := by simp [errOf3, h0, h1]
      have HV : Hid (nmV a b c = ⟨0, 0, 0⟩) := Lib.hid (by simp [nmV, e1])
      obtain ⟨vv, hvv⟩ : ∃ x, nmV a b c = x := ⟨_, rfl⟩
      rw [hvv] at HV ⊢
      rw [e1]
      have r0 := fun w => rightS_calls a w
      rw [h0] at r0
      have R0 := Lib.hid r0; clear r0
      have r1 := fun w => rightS_calls b w
      rw [h1] at r1
      have R1 := Lib.hid r1; clear r1
      clear hvv e1 
      go_enter Tryz.func17, Tryz.ntmps17
      go_wp2_with fail
      rw [← hW]
      clear hW
      refine (R0.out _).mono ?_
      rintro e v0 ⟨rfl, hb⟩
      clear c1 c2 c3 c4 c5 c6 c7 c8 c9
      have B0 := Lib.hid (And.intro (below_trans HX.out.2.1 hb) (And.intro (HX.out.1.1.to hb) (And.intro (HX.out.1.2.1.to hb) (And.intro (HX.out.1.2.2.to hb) (HX.out.2.2.to hb)))))
      clear hb
      obtain ⟨-, ⟨c1, c2, c3⟩, ⟨c4, c5, c6⟩, ⟨c7, c8, c9⟩, -⟩ := B0.out
      go_wp2_with fail
      refine (R1.out _).mono ?_
      rintro e v1 ⟨rfl, hb⟩
      clear c1 c2 c3 c4 c5 c6 c7 c8 c9
      have B1 := Lib.hid (And.intro (below_trans B0.out.1 hb) (And.intro (B0.out.2.1.to hb) (And.intro (B0.out.2.2.1.to hb) (And.intro (B0.out.2.2.2.1.to hb) (B0.out.2.2.2.2.to hb)))))
      clear hb
      obtain ⟨-, ⟨c1, c2, c3⟩, ⟨c4, c5, c6⟩, ⟨c7, c8, c9⟩, -⟩ := B1.out
      have g4 := B1.out.2.2.2.2
      have f0 := g4.free 0
      have f1 := g4.free 1
      have f2 := g4.free 2
      have e0 := g4.c 0 _ rfl
      have e1 := g4.c 1 _ rfl
      have e2 := g4.c 2 _ rfl
      clear c1 c2 c3 c4 c5 c6 c7 c8 c9
      go_wp2_with fail
      have r0 := (g4.set 0 (.int .i64 0)).c 0 _ rfl
      have r1 := ((g4.set 0 (.int .i64 0)).set 1 (.int .i64 0)).c 1 _ rfl
      have r2 := (((g4.set 0 (.int .i64 0)).set 1 (.int .i64 0)).set 2 (.int .i64 0)).c 2 _ rfl
      refine bodyPost_ret (v := .tuple #[.agg #[.int .i64 0, .int .i64 0, .int .i64 0], .int .i64 2]) (by simp [results, Tryz.results17, go_sem, r0, r1, r2]; done) rfl ⟨by have hv := HV.out; subst hv; rfl, ?_⟩
      exact ((B1.out.1.setCell (p := ⟨w.heap.size + 3, 0, none⟩) (by show w.heap.size ≤ w.heap.size + 3; omega) _).setCell (p := ⟨w.heap.size + 3, 1, none⟩) (by show w.heap.size ≤ w.heap.size + 3; omega) _).setCell (p := ⟨w.heap.size + 3, 2, none⟩) (by show w.heap.size ≤ w.heap.size + 3; omega) _
    | true =>
      cases h2 : highB c with
      | false =>
        have e1 : errOf3 [a, b, c] = 2 := by simp [errOf3, h0, h1, h2]
        have HV : Hid (nmV a b c = ⟨0, 0, 0⟩) := Lib.hid (by simp [nmV, e1])
        obtain ⟨vv, hvv⟩ : ∃ x, nmV a b c = x := ⟨_, rfl⟩
        rw [hvv] at HV ⊢
        rw [e1]
        have r0 := fun w => rightS_calls a w
        rw [h0] at r0
        have R0 := Lib.hid r0; clear r0
        have r1 := fun w => rightS_calls b w
        rw [h1] at r1
        have R1 := Lib.hid r1; clear r1
        have r2 := fun w => rightS_calls c w
        rw [h2] at r2
        have R2 := Lib.hid r2; clear r2
        clear hvv e1 
        go_enter Tryz.func17, Tryz.ntmps17
        go_wp2_with fail
        rw [← hW]
        clear hW
        refine (R0.out _).mono ?_
        rintro e v0 ⟨rfl, hb⟩
        clear c1 c2 c3 c4 c5 c6 c7 c8 c9
        have B0 := Lib.hid (And.intro (below_trans HX.out.2.1 hb) (And.intro (HX.out.1.1.to hb) (And.intro (HX.out.1.2.1.to hb) (And.intro (HX.out.1.2.2.to hb) (HX.out.2.2.to hb)))))
        clear hb
        obtain ⟨-, ⟨c1, c2, c3⟩, ⟨c4, c5, c6⟩, ⟨c7, c8, c9⟩, -⟩ := B0.out
        go_wp2_with fail
        refine (R1.out _).mono ?_
        rintro e v1 ⟨rfl, hb⟩
        clear c1 c2 c3 c4 c5 c6 c7 c8 c9
        have B1 := Lib.hid (And.intro (below_trans B0.out.1 hb) (And.intro (B0.out.2.1.to hb) (And.intro (B0.out.2.2.1.to hb) (And.intro (B0.out.2.2.2.1.to hb) (B0.out.2.2.2.2.to hb)))))
        clear hb
        obtain ⟨-, ⟨c1, c2, c3⟩, ⟨c4, c5, c6⟩, ⟨c7, c8, c9⟩, -⟩ := B1.out
        go_wp2_with fail
        refine (R2.out _).mono ?_
        rintro e v2 ⟨rfl, hb⟩
        clear c1 c2 c3 c4 c5 c6 c7 c8 c9
        have B2 := Lib.hid (And.intro (below_trans B1.out.1 hb) (And.intro (B1.out.2.1.to hb) (And.intro (B1.out.2.2.1.to hb) (And.intro (B1.out.2.2.2.1.to hb) (B1.out.2.2.2.2.to hb)))))
        clear hb
        obtain ⟨-, ⟨c1, c2, c3⟩, ⟨c4, c5, c6⟩, ⟨c7, c8, c9⟩, -⟩ := B2.out
        have g4 := B2.out.2.2.2.2
        have f0 := g4.free 0
        have f1 := g4.free 1
        have f2 := g4.free 2
        have e0 := g4.c 0 _ rfl
        have e1 := g4.c 1 _ rfl
        have e2 := g4.c 2 _ rfl
        clear c1 c2 c3 c4 c5 c6 c7 c8 c9
        go_wp2_with fail
        have r0 := (g4.set 0 (.int .i64 0)).c 0 _ rfl
        have r1 := ((g4.set 0 (.int .i64 0)).set 1 (.int .i64 0)).c 1 _ rfl
        have r2 := (((g4.set 0 (.int .i64 0)).set 1 (.int .i64 0)).set 2 (.int .i64 0)).c 2 _ rfl
        refine bodyPost_ret (v := .tuple #[.agg #[.int .i64 0, .int .i64 0, .int .i64 0], .int .i64 2]) (by simp [results, Tryz.results17, go_sem, r0, r1, r2]; done) rfl ⟨by have hv := HV.out; subst hv; rfl, ?_⟩
        exact ((B2.out.1.setCell (p := ⟨w.heap.size + 3, 0, none⟩) (by show w.heap.size ≤ w.heap.size + 3; omega) _).setCell (p := ⟨w.heap.size + 3, 1, none⟩) (by show w.heap.size ≤ w.heap.size + 3; omega) _).setCell (p := ⟨w.heap.size + 3, 2, none⟩) (by show w.heap.size ≤ w.heap.size + 3; omega) _
      | true =>
        have e1 : errOf3 [a, b, c] = 0 := by simp [errOf3, h0, h1, h2]
        have r0 := fun w => rightS_calls a w
        rw [h0] at r0
        have R0 := Lib.hid r0; clear r0
        have d0 := bd_high h0
        have r1 := fun w => rightS_calls b w
        rw [h1] at r1
        have R1 := Lib.hid r1; clear r1
        have d1 := bd_high h1
        have r2 := fun w => rightS_calls c w
        rw [h2] at r2
        have R2 := Lib.hid r2; clear r2
        have d2 := bd_high h2
        have ev : nmV a b c = nrm a b c := by unfold nmV; rw [if_pos e1]
        rw [ev, e1]
        have T := Lib.hid (fun w => across_calls a b c w (d0.mono (by omega)) (d1.mono (by omega)) (d2.mono (by omega)))
        clear ev e1 d0 d1 d2
        go_enter Tryz.func17, Tryz.ntmps17
        go_wp2_with fail
        rw [← hW]
        clear hW
        refine (R0.out _).mono ?_
        rintro e v0 ⟨rfl, hb⟩
        clear c1 c2 c3 c4 c5 c6 c7 c8 c9
        have B0 := Lib.hid (And.intro (below_trans HX.out.2.1 hb) (And.intro (HX.out.1.1.to hb) (And.intro (HX.out.1.2.1.to hb) (And.intro (HX.out.1.2.2.to hb) (HX.out.2.2.to hb)))))
        clear hb
        obtain ⟨-, ⟨c1, c2, c3⟩, ⟨c4, c5, c6⟩, ⟨c7, c8, c9⟩, -⟩ := B0.out
        go_wp2_with fail
        refine (R1.out _).mono ?_
        rintro e v1 ⟨rfl, hb⟩
        clear c1 c2 c3 c4 c5 c6 c7 c8 c9
        have B1 := Lib.hid (And.intro (below_trans B0.out.1 hb) (And.intro (B0.out.2.1.to hb) (And.intro (B0.out.2.2.1.to hb) (And.intro (B0.out.2.2.2.1.to hb) (B0.out.2.2.2.2.to hb)))))
        clear hb
        obtain ⟨-, ⟨c1, c2, c3⟩, ⟨c4, c5, c6⟩, ⟨c7, c8, c9⟩, -⟩ := B1.out
        go_wp2_with fail
        refine (R2.out _).mono ?_
        rintro e v2 ⟨rfl, hb⟩
        clear c1 c2 c3 c4 c5 c6 c7 c8 c9
        have B2 := Lib.hid (And.intro (below_trans B1.out.1 hb) (And.intro (B1.out.2.1.to hb) (And.intro (B1.out.2.2.1.to hb) (And.intro (B1.out.2.2.2.1.to hb) (B1.out.2.2.2.2.to hb)))))
        clear hb
        obtain ⟨-, ⟨c1, c2, c3⟩, ⟨c4, c5, c6⟩, ⟨c7, c8, c9⟩, -⟩ := B2.out
        go_wp2_with fail
        refine (T.out _).mono ?_
        rintro e v9 ⟨rfl, hb⟩
        clear c1 c2 c3 c4 c5 c6 c7 c8 c9
        have g4 := (B2.out.2.2.2.2.to hb).to (alloc_below _ (B3 (nrm a b c) 33))
        have hW := below_trans (below_trans B2.out.1 hb) (alloc_below _ (B3 (nrm a b c) 33))
        obtain ⟨m0, m1, m2⟩ := bx3_new v9 (nrm a b c) 33
        have f0 := g4.free 0
        have f1 := g4.free 1
        have f2 := g4.free 2
        have e0 := g4.c 0 _ rfl
        have e1 := g4.c 1 _ rfl
        have e2 := g4.c 2 _ rfl
        go_wp2_with fail
        have r0 := (g4.set 0 (.int .i64 (nrm a b c).x)).c 0 _ rfl
        have r1 := ((g4.set 0 (.int .i64 (nrm a b c).x)).set 1 (.int .i64 (nrm a b c).y)).c 1 _ rfl
        have r2 := (((g4.set 0 (.int .i64 (nrm a b c).x)).set 1 (.int .i64 (nrm a b c).y)).set 2 (.int .i64 (nrm a b c).z)).c 2 _ rfl
        refine bodyPost_ret (v := .tuple #[V3 (nrm a b c), .int .i64 0]) (by simp [results, Tryz.results17, go_sem, r0, r1, r2]; done) rfl ⟨rfl, ?_⟩
        exact ((hW.setCell (p := ⟨w.heap.size + 3, 0, none⟩) (by show w.heap.size ≤ w.heap.size + 3; omega) _).setCell (p := ⟨w.heap.size + 3, 1, none⟩) (by show w.heap.size ≤ w.heap.size + 3; omega) _).setCell (p := ⟨w.heap.size + 3, 2, none⟩) (by show w.heap.size ≤ w.heap.size + 3; omega) _

set_option maxRecDepth 100000 in
set_option maxHeartbeats 3200000 in
theorem rToPlane_any (p a b c : P3) (w : World) : Calls Tryz.prog 23 #[V3 p, V3 a, V3 b, V3 c] w fun e w' => e = .returned (.tuple #[.string (tpS p a b c), .int .i64 (tpE p a b c)]) ∧ Below w.heap.size w w' := by
  obtain ⟨W, hW⟩ : ∃ W, W = (((w.alloc (B3 p 33)).alloc (B3 a 33)).alloc (B3 b 33)).alloc (B3 c 33) := ⟨_, rfl⟩
  have hb0 : Below w.heap.size w W := by rw [hW]; exact below_trans (below3 _ _ _ _) (alloc_below _ _)
  have hx := bx3_4 w p a b c 33 33 33 33
  rw [← hW] at hx
  have HX := Lib.hid (And.intro hx hb0)
  obtain ⟨⟨c1, c2, c3⟩, ⟨c4, c5, c6⟩, ⟨c7, c8, c9⟩, c10, c11, c12⟩ := hx
  clear hb0
  cases h0 : highB p with
  | false =>
    have e1 : errOf3 [p, a, b, c] = 2 := by simp [errOf3, h0]
    have HV : Hid (tpS p a b c = ⟨#[]⟩) := Lib.hid (by simp [tpS, e1])
    obtain ⟨vv, hvv⟩ : ∃ x, tpS p a b c = x := ⟨_, rfl⟩
    rw [hvv] at HV ⊢
    have e2 : tpE p a b c = 2 := by simp [tpE, e1]
    rw [e2]
    have r0 := fun w => rightS_calls p w
    rw [h0] at r0
    have R0 := Lib.hid r0; clear r0
    clear hvv e1 e2
    go_enter Tryz.func23, Tryz.ntmps23
    go_wp2_with fail
    rw [← hW]
    clear hW
    refine (R0.out _).mono ?_
    rintro e v0 ⟨rfl, hb⟩
    clear c1 c2 c3 c4 c5 c6 c7 c8 c9 c10 c11 c12
    have B0 := Lib.hid (And.intro (below_trans HX.out.2 hb) (And.intro (HX.out.1.1.to hb) (And.intro (HX.out.1.2.1.to hb) (And.intro (HX.out.1.2.2.1.to hb) (HX.out.1.2.2.2.to hb)))))
    clear hb
    obtain ⟨-, ⟨c1, c2, c3⟩, ⟨c4, c5, c6⟩, ⟨c7, c8, c9⟩, ⟨c10, c11, c12⟩⟩ := B0.out
    clear c1 c2 c3 c4 c5 c6 c7 c8 c9 c10 c11 c12
    go_wp2_with fail
    go_ret2
    have hv := HV.out
    subst hv
    exact ⟨rfl, B0.out.1⟩
  | true =>
    cases h1 : highB a with
    | false =>
      have e1 : errOf3 [p, a, b, c] = 2 := by simp [errOf3, h0, h1]
      have HV : Hid (tpS p a b c = ⟨#[]⟩) := Lib.hid (by simp [tpS, e1])
      obtain ⟨vv, hvv⟩ : ∃ x, tpS p a b c = x := ⟨_, rfl⟩
      rw [hvv] at HV ⊢
      have e2 : tpE p a b c = 2 := by simp [tpE, e1]
      rw [e2]
      have r0 := fun w => rightS_calls p w
      rw [h0] at r0
      have R0 := Lib.hid r0; clear r0
      have r1 := fun w => rightS_calls a w
      rw [h1] at r1
      have R1 := Lib.hid r1; clear r1
      clear hvv e1 e2
      go_enter Tryz.func23, Tryz.ntmps23
      go_wp2_with fail
      rw [← hW]
      clear hW
      refine (R0.out _).mono ?_
      rintro e v0 ⟨rfl, hb⟩
      clear c1 c2 c3 c4 c5 c6 c7 c8 c9 c10 c11 c12
      have B0 := Lib.hid (And.intro (below_trans HX.out.2 hb) (And.intro (HX.out.1.1.to hb) (And.intro (HX.out.1.2.1.to hb) (And.intro (HX.out.1.2.2.1.to hb) (HX.out.1.2.2.2.to hb)))))
      clear hb
      obtain ⟨-, ⟨c1, c2, c3⟩, ⟨c4, c5, c6⟩, ⟨c7, c8, c9⟩, ⟨c10, c11, c12⟩⟩ := B0.out
      go_wp2_with fail
      refine (R1.out _).mono ?_
      rintro e v1 ⟨rfl, hb⟩
      clear c1 c2 c3 c4 c5 c6 c7 c8 c9 c10 c11 c12
      have B1 := Lib.hid (And.intro (below_trans B0.out.1 hb) (And.intro (B0.out.2.1.to hb) (And.intro (B0.out.2.2.1.to hb) (And.intro (B0.out.2.2.2.1.to hb) (B0.out.2.2.2.2.to hb)))))
      clear hb
      obtain ⟨-, ⟨c1, c2, c3⟩, ⟨c4, c5, c6⟩, ⟨c7, c8, c9⟩, ⟨c10, c11, c12⟩⟩ := B1.out
      clear c1 c2 c3 c4 c5 c6 c7 c8 c9 c10 c11 c12
      go_wp2_with fail
      go_ret2
      have hv := HV.out
      subst hv
      exact ⟨rfl, B1.out.1⟩
    | true =>
      cases h2 : highB b with
      | false =>
        have e1 : errOf3 [p, a, b, c] = 2 := by simp [errOf3, h0, h1, h2]
        have HV : Hid (tpS p a b c = ⟨#[]⟩) := Lib.hid (by simp [tpS, e1])
        obtain ⟨vv, hvv⟩ : ∃ x, tpS p a b c = x := ⟨_, rfl⟩
        rw [hvv] at HV ⊢
        have e2 : tpE p a b c = 2 := by simp [tpE, e1]
        rw [e2]
        have r0 := fun w => rightS_calls p w
        rw [h0] at r0
        have R0 := Lib.hid r0; clear r0
        have r1 := fun w => rightS_calls a w
        rw [h1] at r1
        have R1 := Lib.hid r1; clear r1
        have r2 := fun w => rightS_calls b w
        rw [h2] at r2
        have R2 := Lib.hid r2; clear r2
        clear hvv e1 e2
        go_enter Tryz.func23, Tryz.ntmps23
        go_wp2_with fail
        rw [← hW]
        clear hW
        refine (R0.out _).mono ?_
        rintro e v0 ⟨rfl, hb⟩
        clear c1 c2 c3 c4 c5 c6 c7 c8 c9 c10 c11 c12
        have B0 := Lib.hid (And.intro (below_trans HX.out.2 hb) (And.intro (HX.out.1.1.to hb) (And.intro (HX.out.1.2.1.to hb) (And.intro (HX.out.1.2.2.1.to hb) (HX.out.1.2.2.2.to hb)))))
        clear hb
        obtain ⟨-, ⟨c1, c2, c3⟩, ⟨c4, c5, c6⟩, ⟨c7, c8, c9⟩, ⟨c10, c11, c12⟩⟩ := B0.out
        go_wp2_with fail
        refine (R1.out _).mono ?_
        rintro e v1 ⟨rfl, hb⟩
        clear c1 c2 c3 c4 c5 c6 c7 c8 c9 c10 c11 c12
        have B1 := Lib.hid (And.intro (below_trans B0.out.1 hb) (And.intro (B0.out.2.1.to hb) (And.intro (B0.out.2.2.1.to hb) (And.intro (B0.out.2.2.2.1.to hb) (B0.out.2.2.2.2.to hb)))))
        clear hb
        obtain ⟨-, ⟨c1, c2, c3⟩, ⟨c4, c5, c6⟩, ⟨c7, c8, c9⟩, ⟨c10, c11, c12⟩⟩ := B1.out
        go_wp2_with fail
        refine (R2.out _).mono ?_
        rintro e v2 ⟨rfl, hb⟩
        clear c1 c2 c3 c4 c5 c6 c7 c8 c9 c10 c11 c12
        have B2 := Lib.hid (And.intro (below_trans B1.out.1 hb) (And.intro (B1.out.2.1.to hb) (And.intro (B1.out.2.2.1.to hb) (And.intro (B1.out.2.2.2.1.to hb) (B1.out.2.2.2.2.to hb)))))
        clear hb
        obtain ⟨-, ⟨c1, c2, c3⟩, ⟨c4, c5, c6⟩, ⟨c7, c8, c9⟩, ⟨c10, c11, c12⟩⟩ := B2.out
        clear c1 c2 c3 c4 c5 c6 c7 c8 c9 c10 c11 c12
        go_wp2_with fail
        go_ret2
        have hv := HV.out
        subst hv
        exact ⟨rfl, B2.out.1⟩
      | true =>
        cases h3 : highB c with
        | false =>
          have e1 : errOf3 [p, a, b, c] = 2 := by simp [errOf3, h0, h1, h2, h3]
          have HV : Hid (tpS p a b c = ⟨#[]⟩) := Lib.hid (by simp [tpS, e1])
          obtain ⟨vv, hvv⟩ : ∃ x, tpS p a b c = x := ⟨_, rfl⟩
          rw [hvv] at HV ⊢
          have e2 : tpE p a b c = 2 := by simp [tpE, e1]
          rw [e2]
          have r0 := fun w => rightS_calls p w
          rw [h0] at r0
          have R0 := Lib.hid r0; clear r0
          have r1 := fun w => rightS_calls a w
          rw [h1] at r1
          have R1 := Lib.hid r1; clear r1
          have r2 := fun w => rightS_calls b w
          rw [h2] at r2
          have R2 := Lib.hid r2; clear r2
          have r3 := fun w => rightS_calls c w
          rw [h3] at r3
          have R3 := Lib.hid r3; clear r3
          clear hvv e1 e2
          go_enter Tryz.func23, Tryz.ntmps23
          go_wp2_with fail
          rw [← hW]
          clear hW
          refine (R0.out _).mono ?_
          rintro e v0 ⟨rfl, hb⟩
          clear c1 c2 c3 c4 c5 c6 c7 c8 c9 c10 c11 c12
          have B0 := Lib.hid (And.intro (below_trans HX.out.2 hb) (And.intro (HX.out.1.1.to hb) (And.intro (HX.out.1.2.1.to hb) (And.intro (HX.out.1.2.2.1.to hb) (HX.out.1.2.2.2.to hb)))))
          clear hb
          obtain ⟨-, ⟨c1, c2, c3⟩, ⟨c4, c5, c6⟩, ⟨c7, c8, c9⟩, ⟨c10, c11, c12⟩⟩ := B0.out
          go_wp2_with fail
          refine (R1.out _).mono ?_
          rintro e v1 ⟨rfl, hb⟩
          clear c1 c2 c3 c4 c5 c6 c7 c8 c9 c10 c11 c12
          have B1 := Lib.hid (And.intro (below_trans B0.out.1 hb) (And.intro (B0.out.2.1.to hb) (And.intro (B0.out.2.2.1.to hb) (And.intro (B0.out.2.2.2.1.to hb) (B0.out.2.2.2.2.to hb)))))
          clear hb
          obtain ⟨-, ⟨c1, c2, c3⟩, ⟨c4, c5, c6⟩, ⟨c7, c8, c9⟩, ⟨c10, c11, c12⟩⟩ := B1.out
          go_wp2_with fail
          refine (R2.out _).mono ?_
          rintro e v2 ⟨rfl, hb⟩
          clear c1 c2 c3 c4 c5 c6 c7 c8 c9 c10 c11 c12
          have B2 := Lib.hid (And.intro (below_trans B1.out.1 hb) (And.intro (B1.out.2.1.to hb) (And.intro (B1.out.2.2.1.to hb) (And.intro (B1.out.2.2.2.1.to hb) (B1.out.2.2.2.2.to hb)))))
          clear hb
          obtain ⟨-, ⟨c1, c2, c3⟩, ⟨c4, c5, c6⟩, ⟨c7, c8, c9⟩, ⟨c10, c11, c12⟩⟩ := B2.out
          go_wp2_with fail
          refine (R3.out _).mono ?_
          rintro e v3 ⟨rfl, hb⟩
          clear c1 c2 c3 c4 c5 c6 c7 c8 c9 c10 c11 c12
          have B3 := Lib.hid (And.intro (below_trans B2.out.1 hb) (And.intro (B2.out.2.1.to hb) (And.intro (B2.out.2.2.1.to hb) (And.intro (B2.out.2.2.2.1.to hb) (B2.out.2.2.2.2.to hb)))))
          clear hb
          obtain ⟨-, ⟨c1, c2, c3⟩, ⟨c4, c5, c6⟩, ⟨c7, c8, c9⟩, ⟨c10, c11, c12⟩⟩ := B3.out
          clear c1 c2 c3 c4 c5 c6 c7 c8 c9 c10 c11 c12
          go_wp2_with fail
          go_ret2
          have hv := HV.out
          subst hv
          exact ⟨rfl, B3.out.1⟩
        | true =>
          have e1 : errOf3 [p, a, b, c] = 0 := by simp [errOf3, h0, h1, h2, h3]
          have r0 := fun w => rightS_calls p w
          rw [h0] at r0
          have R0 := Lib.hid r0; clear r0
          have d0 := bd_high h0
          have r1 := fun w => rightS_calls a w
          rw [h1] at r1
          have R1 := Lib.hid r1; clear r1
          have d1 := bd_high h1
          have r2 := fun w => rightS_calls b w
          rw [h2] at r2
          have R2 := Lib.hid r2; clear r2
          have d2 := bd_high h2
          have r3 := fun w => rightS_calls c w
          rw [h3] at r3
          have R3 := Lib.hid r3; clear r3
          have d3 := bd_high h3
          have heq := fun w => eqSpot 9998 w (nrm a b c).x (nrm a b c).y (nrm a b c).z 0 0 0
          simp only [Nat.reduceAdd] at heq
          have ta := fun w => across_calls a b c w (d1.mono (by omega)) (d2.mono (by omega)) (d3.mono (by omega))
          by_cases hn : nrm a b c = ⟨0, 0, 0⟩
          · have ev : tpS p a b c = ⟨#[]⟩ := by unfold tpS; rw [if_pos e1, if_pos hn]
            have ee : tpE p a b c = 10 := by unfold tpE; rw [if_pos e1, if_pos hn]
            rw [ev, ee]
            rw [show ((nrm a b c).x == 0 && ((nrm a b c).y == 0 && (nrm a b c).z == 0)) = true by rw [hn]; rfl] at heq
            have T := Lib.hid ta
            clear ta ev ee e1 hn d0 d1 d2 d3
            go_enter Tryz.func23, Tryz.ntmps23
            go_wp2_with fail
            rw [← hW]
            clear hW
            refine (R0.out _).mono ?_
            rintro e v0 ⟨rfl, hb⟩
            clear c1 c2 c3 c4 c5 c6 c7 c8 c9 c10 c11 c12
            have B0 := Lib.hid (And.intro (below_trans HX.out.2 hb) (And.intro (HX.out.1.1.to hb) (And.intro (HX.out.1.2.1.to hb) (And.intro (HX.out.1.2.2.1.to hb) (HX.out.1.2.2.2.to hb)))))
            clear hb
            obtain ⟨-, ⟨c1, c2, c3⟩, ⟨c4, c5, c6⟩, ⟨c7, c8, c9⟩, ⟨c10, c11, c12⟩⟩ := B0.out
            go_wp2_with fail
            refine (R1.out _).mono ?_
            rintro e v1 ⟨rfl, hb⟩
            clear c1 c2 c3 c4 c5 c6 c7 c8 c9 c10 c11 c12
            have B1 := Lib.hid (And.intro (below_trans B0.out.1 hb) (And.intro (B0.out.2.1.to hb) (And.intro (B0.out.2.2.1.to hb) (And.intro (B0.out.2.2.2.1.to hb) (B0.out.2.2.2.2.to hb)))))
            clear hb
            obtain ⟨-, ⟨c1, c2, c3⟩, ⟨c4, c5, c6⟩, ⟨c7, c8, c9⟩, ⟨c10, c11, c12⟩⟩ := B1.out
            go_wp2_with fail
            refine (R2.out _).mono ?_
            rintro e v2 ⟨rfl, hb⟩
            clear c1 c2 c3 c4 c5 c6 c7 c8 c9 c10 c11 c12
            have B2 := Lib.hid (And.intro (below_trans B1.out.1 hb) (And.intro (B1.out.2.1.to hb) (And.intro (B1.out.2.2.1.to hb) (And.intro (B1.out.2.2.2.1.to hb) (B1.out.2.2.2.2.to hb)))))
            clear hb
            obtain ⟨-, ⟨c1, c2, c3⟩, ⟨c4, c5, c6⟩, ⟨c7, c8, c9⟩, ⟨c10, c11, c12⟩⟩ := B2.out
            go_wp2_with fail
            refine (R3.out _).mono ?_
            rintro e v3 ⟨rfl, hb⟩
            clear c1 c2 c3 c4 c5 c6 c7 c8 c9 c10 c11 c12
            have B3 := Lib.hid (And.intro (below_trans B2.out.1 hb) (And.intro (B2.out.2.1.to hb) (And.intro (B2.out.2.2.1.to hb) (And.intro (B2.out.2.2.2.1.to hb) (B2.out.2.2.2.2.to hb)))))
            clear hb
            obtain ⟨-, ⟨c1, c2, c3⟩, ⟨c4, c5, c6⟩, ⟨c7, c8, c9⟩, ⟨c10, c11, c12⟩⟩ := B3.out
            go_wp2_with fail
            refine (T.out _).mono ?_
            rintro e v9 ⟨rfl, hb⟩
            have B9 := Lib.hid (below_trans B3.out.1 hb); clear hb
            go_wp2_with fail
            go_ret2
            exact ⟨rfl, B9.out⟩
          · have ev : tpS p a b c = ⟨(rtxt (rn (six a b c p * six a b c p) (tot 3 (nrm a b c))) (rd (six a b c p * six a b c p) (tot 3 (nrm a b c)))).toArray⟩ := by unfold tpS; rw [if_pos e1, if_neg hn]
            have ee : tpE p a b c = 0 := by unfold tpE; rw [if_pos e1, if_neg hn]
            have tf := fun w => rfromPlane_calls p a b c w d0 d1 d2 d3 hn
            have hbe : ((nrm a b c).x == 0 && ((nrm a b c).y == 0 && (nrm a b c).z == 0)) = false := by
              rw [Bool.and_eq_false_iff, Bool.and_eq_false_iff, beq_eq_false_iff_ne, beq_eq_false_iff_ne, beq_eq_false_iff_ne]
              generalize nrm a b c = v at hn
              obtain ⟨x, y, z⟩ := v
              simp only [ne_eq, P3.mk.injEq] at hn ⊢
              omega
            rw [hbe] at heq
            rw [ee, show Value.string (tpS p a b c) = R (rn (six a b c p * six a b c p) (tot 3 (nrm a b c))) (rd (six a b c p * six a b c p) (tot 3 (nrm a b c))) by rw [ev]]
            have T := Lib.hid (And.intro ta tf)
            clear ta tf hbe ev ee e1 hn d0 d1 d2 d3
            go_enter Tryz.func23, Tryz.ntmps23
            go_wp2_with fail
            rw [← hW]
            clear hW
            refine (R0.out _).mono ?_
            rintro e v0 ⟨rfl, hb⟩
            clear c1 c2 c3 c4 c5 c6 c7 c8 c9 c10 c11 c12
            have B0 := Lib.hid (And.intro (below_trans HX.out.2 hb) (And.intro (HX.out.1.1.to hb) (And.intro (HX.out.1.2.1.to hb) (And.intro (HX.out.1.2.2.1.to hb) (HX.out.1.2.2.2.to hb)))))
            clear hb
            obtain ⟨-, ⟨c1, c2, c3⟩, ⟨c4, c5, c6⟩, ⟨c7, c8, c9⟩, ⟨c10, c11, c12⟩⟩ := B0.out
            go_wp2_with fail
            refine (R1.out _).mono ?_
            rintro e v1 ⟨rfl, hb⟩
            clear c1 c2 c3 c4 c5 c6 c7 c8 c9 c10 c11 c12
            have B1 := Lib.hid (And.intro (below_trans B0.out.1 hb) (And.intro (B0.out.2.1.to hb) (And.intro (B0.out.2.2.1.to hb) (And.intro (B0.out.2.2.2.1.to hb) (B0.out.2.2.2.2.to hb)))))
            clear hb
            obtain ⟨-, ⟨c1, c2, c3⟩, ⟨c4, c5, c6⟩, ⟨c7, c8, c9⟩, ⟨c10, c11, c12⟩⟩ := B1.out
            go_wp2_with fail
            refine (R2.out _).mono ?_
            rintro e v2 ⟨rfl, hb⟩
            clear c1 c2 c3 c4 c5 c6 c7 c8 c9 c10 c11 c12
            have B2 := Lib.hid (And.intro (below_trans B1.out.1 hb) (And.intro (B1.out.2.1.to hb) (And.intro (B1.out.2.2.1.to hb) (And.intro (B1.out.2.2.2.1.to hb) (B1.out.2.2.2.2.to hb)))))
            clear hb
            obtain ⟨-, ⟨c1, c2, c3⟩, ⟨c4, c5, c6⟩, ⟨c7, c8, c9⟩, ⟨c10, c11, c12⟩⟩ := B2.out
            go_wp2_with fail
            refine (R3.out _).mono ?_
            rintro e v3 ⟨rfl, hb⟩
            clear c1 c2 c3 c4 c5 c6 c7 c8 c9 c10 c11 c12
            have B3 := Lib.hid (And.intro (below_trans B2.out.1 hb) (And.intro (B2.out.2.1.to hb) (And.intro (B2.out.2.2.1.to hb) (And.intro (B2.out.2.2.2.1.to hb) (B2.out.2.2.2.2.to hb)))))
            clear hb
            obtain ⟨-, ⟨c1, c2, c3⟩, ⟨c4, c5, c6⟩, ⟨c7, c8, c9⟩, ⟨c10, c11, c12⟩⟩ := B3.out
            go_wp2_with fail
            refine (T.out.1 _).mono ?_
            rintro e v9 ⟨rfl, hb⟩
            clear c1 c2 c3 c4 c5 c6 c7 c8 c9 c10 c11 c12
            obtain ⟨c1, c2, c3⟩ := B3.out.2.1.to hb
            obtain ⟨c4, c5, c6⟩ := B3.out.2.2.1.to hb
            obtain ⟨c7, c8, c9⟩ := B3.out.2.2.2.1.to hb
            obtain ⟨c10, c11, c12⟩ := B3.out.2.2.2.2.to hb
            have B9 := Lib.hid (below_trans B3.out.1 hb); clear hb
            go_wp2_with fail
            refine (T.out.2 _).mono ?_
            rintro e v10 ⟨rfl, hb⟩
            have B10 := Lib.hid (below_trans B9.out hb); clear hb
            go_wp2_with fail
            go_ret2
            exact ⟨rfl, B10.out⟩

abbrev V34s (a b c d : P3) : Array Value := #[.int .i64 a.x, .int .i64 a.y, .int .i64 a.z, .int .i64 b.x, .int .i64 b.y, .int .i64 b.z, .int .i64 c.x, .int .i64 c.y, .int .i64 c.z, .int .i64 d.x, .int .i64 d.y, .int .i64 d.z]

set_option maxRecDepth 100000 in
set_option maxHeartbeats 6400000 in
theorem solids_calls (a b c d : P3) (w : World) (hg : Good w) :
    Calls Tryz.prog 4 #[.agg (V34s a b c d)] w fun e w' => e = .returned (.bool true) ∧ Below w.heap.size w w' := by
  have t1 : ∀ w, _ := fun w => Normal_any a b c w
  have t2 : ∀ w, _ := fun w => rNormal_any a b c w
  have t3 : ∀ w, _ := fun w => Volume_any a b c d w
  have t4 : ∀ w, _ := fun w => rVolume_any a b c d w
  have t5 : ∀ w, _ := fun w => SquareSpace_any a b w
  have t6 : ∀ w, _ := fun w => rSquareSpace_any a b w
  have t7 : ∀ w, Good w → _ := fun w hg => ToPlane_any d a b c w hg
  have t8 : ∀ w, _ := fun w => rToPlane_any d a b c w
  obtain ⟨nm, h1⟩ : ∃ x, nmV a b c = x := ⟨_, rfl⟩
  obtain ⟨e1, h2⟩ : ∃ x, errOf3 [a, b, c] = x := ⟨_, rfl⟩
  obtain ⟨vo, h3⟩ : ∃ x, voV a b c d = x := ⟨_, rfl⟩
  obtain ⟨e2, h4⟩ : ∃ x, errOf3 [a, b, c, d] = x := ⟨_, rfl⟩
  obtain ⟨ss, h5⟩ : ∃ x, ssV a b = x := ⟨_, rfl⟩
  obtain ⟨e3, h6⟩ : ∃ x, errOf3 [a, b] = x := ⟨_, rfl⟩
  obtain ⟨tp, h7⟩ : ∃ x, tpS d a b c = x := ⟨_, rfl⟩
  obtain ⟨e4, h8⟩ : ∃ x, tpE d a b c = x := ⟨_, rfl⟩
  simp only [h1, h2, h3, h4, h5, h6, h7, h8] at t1 t2 t3 t4 t5 t6 t7 t8
  have heq := fun w => eqInts3 9998 w nm.x nm.y nm.z nm.x nm.y nm.z
  rw [show (nm.x == nm.x && (nm.y == nm.y && nm.z == nm.z)) = true by simp] at heq
  simp only [Nat.reduceAdd] at heq
  have HT := Lib.hid (And.intro t1 (And.intro t2 (And.intro t3 (And.intro t4 (And.intro t5 (And.intro t6 (And.intro t7 t8)))))))
  clear t1 t2 t3 t4 t5 t6 t7 t8 h1 h2 h3 h4 h5 h6 h7 h8
  have hbk := blk_new w (V34s a b c d) 34
  have H0 := Lib.hid (And.intro (alloc_below w (.cells (V34s a b c d) 34)) hbk)
  have HG := Lib.hid hg; clear hg
  have c0 := hbk.c 0 _ rfl
  have c1 := hbk.c 1 _ rfl
  have c2 := hbk.c 2 _ rfl
  have c3 := hbk.c 3 _ rfl
  have c4 := hbk.c 4 _ rfl
  have c5 := hbk.c 5 _ rfl
  have c6 := hbk.c 6 _ rfl
  have c7 := hbk.c 7 _ rfl
  have c8 := hbk.c 8 _ rfl
  have c9 := hbk.c 9 _ rfl
  have c10 := hbk.c 10 _ rfl
  have c11 := hbk.c 11 _ rfl
  clear hbk
  go_enter Tryz.func4, Tryz.ntmps4
  go_wp2_with fail
  refine (HT.out.1 _).mono ?_
  rintro e w1 ⟨rfl, hb⟩
  clear c0 c1 c2 c3 c4 c5 c6 c7 c8 c9 c10 c11
  have hal := alloc_below w1 (B3 nm 35)
  have H1 := Lib.hid (And.intro (below_trans (below_trans H0.out.1 hb) hal) (And.intro ((H0.out.2.to hb).to hal) (bx3_new w1 nm 35)))
  clear hb H0 hal
  have hbk := H1.out.2.1
  have c0 := hbk.c 0 _ rfl
  have c1 := hbk.c 1 _ rfl
  have c2 := hbk.c 2 _ rfl
  have c3 := hbk.c 3 _ rfl
  have c4 := hbk.c 4 _ rfl
  have c5 := hbk.c 5 _ rfl
  have c6 := hbk.c 6 _ rfl
  have c7 := hbk.c 7 _ rfl
  have c8 := hbk.c 8 _ rfl
  have c9 := hbk.c 9 _ rfl
  have c10 := hbk.c 10 _ rfl
  have c11 := hbk.c 11 _ rfl
  clear hbk
  obtain ⟨m0, m1, m2⟩ := H1.out.2.2
  go_wp2_with fail
  refine (HT.out.2.1 _).mono ?_
  rintro e w2 ⟨rfl, hb⟩
  clear c0 c1 c2 c3 c4 c5 c6 c7 c8 c9 c10 c11 m0 m1 m2
  have hal := alloc_below w2 (B3 nm 35)
  have H2 := Lib.hid (And.intro (below_trans (below_trans H1.out.1 hb) hal) (And.intro ((H1.out.2.1.to hb).to hal) (And.intro ((H1.out.2.2.to hb).to hal) (bx3_new w2 nm 35))))
  clear hb H1 hal
  have hbk := H2.out.2.1
  have c0 := hbk.c 0 _ rfl
  have c1 := hbk.c 1 _ rfl
  have c2 := hbk.c 2 _ rfl
  have c3 := hbk.c 3 _ rfl
  have c4 := hbk.c 4 _ rfl
  have c5 := hbk.c 5 _ rfl
  have c6 := hbk.c 6 _ rfl
  have c7 := hbk.c 7 _ rfl
  have c8 := hbk.c 8 _ rfl
  have c9 := hbk.c 9 _ rfl
  have c10 := hbk.c 10 _ rfl
  have c11 := hbk.c 11 _ rfl
  clear hbk
  obtain ⟨m0, m1, m2⟩ := H2.out.2.2.1
  obtain ⟨n0, n1, n2⟩ := H2.out.2.2.2
  go_wp2_with fail
  refine (HT.out.2.2.1 _).mono ?_
  rintro e w3 ⟨rfl, hb⟩
  clear c0 c1 c2 c3 c4 c5 c6 c7 c8 c9 c10 c11 m0 m1 m2 n0 n1 n2
  have H3 := Lib.hid (And.intro (below_trans H2.out.1 hb) (And.intro (H2.out.2.1.to hb) (And.intro (H2.out.2.2.1.to hb) (H2.out.2.2.2.to hb))))
  clear hb H2
  have hbk := H3.out.2.1
  have c0 := hbk.c 0 _ rfl
  have c1 := hbk.c 1 _ rfl
  have c2 := hbk.c 2 _ rfl
  have c3 := hbk.c 3 _ rfl
  have c4 := hbk.c 4 _ rfl
  have c5 := hbk.c 5 _ rfl
  have c6 := hbk.c 6 _ rfl
  have c7 := hbk.c 7 _ rfl
  have c8 := hbk.c 8 _ rfl
  have c9 := hbk.c 9 _ rfl
  have c10 := hbk.c 10 _ rfl
  have c11 := hbk.c 11 _ rfl
  clear hbk
  obtain ⟨m0, m1, m2⟩ := H3.out.2.2.1
  obtain ⟨n0, n1, n2⟩ := H3.out.2.2.2
  go_wp2_with fail
  refine (HT.out.2.2.2.1 _).mono ?_
  rintro e w4 ⟨rfl, hb⟩
  clear c0 c1 c2 c3 c4 c5 c6 c7 c8 c9 c10 c11 m0 m1 m2 n0 n1 n2
  have H4 := Lib.hid (And.intro (below_trans H3.out.1 hb) (And.intro (H3.out.2.1.to hb) (And.intro (H3.out.2.2.1.to hb) (H3.out.2.2.2.to hb))))
  clear hb H3
  have hbk := H4.out.2.1
  have c0 := hbk.c 0 _ rfl
  have c1 := hbk.c 1 _ rfl
  have c2 := hbk.c 2 _ rfl
  have c3 := hbk.c 3 _ rfl
  have c4 := hbk.c 4 _ rfl
  have c5 := hbk.c 5 _ rfl
  have c6 := hbk.c 6 _ rfl
  have c7 := hbk.c 7 _ rfl
  have c8 := hbk.c 8 _ rfl
  have c9 := hbk.c 9 _ rfl
  have c10 := hbk.c 10 _ rfl
  have c11 := hbk.c 11 _ rfl
  clear hbk
  obtain ⟨m0, m1, m2⟩ := H4.out.2.2.1
  obtain ⟨n0, n1, n2⟩ := H4.out.2.2.2
  go_wp2_with fail
  refine (HT.out.2.2.2.2.1 _).mono ?_
  rintro e w5 ⟨rfl, hb⟩
  clear c0 c1 c2 c3 c4 c5 c6 c7 c8 c9 c10 c11 m0 m1 m2 n0 n1 n2
  have H5 := Lib.hid (And.intro (below_trans H4.out.1 hb) (And.intro (H4.out.2.1.to hb) (And.intro (H4.out.2.2.1.to hb) (H4.out.2.2.2.to hb))))
  clear hb H4
  have hbk := H5.out.2.1
  have c0 := hbk.c 0 _ rfl
  have c1 := hbk.c 1 _ rfl
  have c2 := hbk.c 2 _ rfl
  have c3 := hbk.c 3 _ rfl
  have c4 := hbk.c 4 _ rfl
  have c5 := hbk.c 5 _ rfl
  have c6 := hbk.c 6 _ rfl
  have c7 := hbk.c 7 _ rfl
  have c8 := hbk.c 8 _ rfl
  have c9 := hbk.c 9 _ rfl
  have c10 := hbk.c 10 _ rfl
  have c11 := hbk.c 11 _ rfl
  clear hbk
  obtain ⟨m0, m1, m2⟩ := H5.out.2.2.1
  obtain ⟨n0, n1, n2⟩ := H5.out.2.2.2
  go_wp2_with fail
  refine (HT.out.2.2.2.2.2.1 _).mono ?_
  rintro e w6 ⟨rfl, hb⟩
  clear c0 c1 c2 c3 c4 c5 c6 c7 c8 c9 c10 c11 m0 m1 m2 n0 n1 n2
  have H6 := Lib.hid (And.intro (below_trans H5.out.1 hb) (And.intro (H5.out.2.1.to hb) (And.intro (H5.out.2.2.1.to hb) (H5.out.2.2.2.to hb))))
  clear hb H5
  have hbk := H6.out.2.1
  have c0 := hbk.c 0 _ rfl
  have c1 := hbk.c 1 _ rfl
  have c2 := hbk.c 2 _ rfl
  have c3 := hbk.c 3 _ rfl
  have c4 := hbk.c 4 _ rfl
  have c5 := hbk.c 5 _ rfl
  have c6 := hbk.c 6 _ rfl
  have c7 := hbk.c 7 _ rfl
  have c8 := hbk.c 8 _ rfl
  have c9 := hbk.c 9 _ rfl
  have c10 := hbk.c 10 _ rfl
  have c11 := hbk.c 11 _ rfl
  clear hbk
  obtain ⟨m0, m1, m2⟩ := H6.out.2.2.1
  obtain ⟨n0, n1, n2⟩ := H6.out.2.2.2
  go_wp2_with fail
  refine (HT.out.2.2.2.2.2.2.1 _ (HG.out.to H6.out.1)).mono ?_
  rintro e w7 ⟨rfl, hb⟩
  clear c0 c1 c2 c3 c4 c5 c6 c7 c8 c9 c10 c11 m0 m1 m2 n0 n1 n2
  have H7 := Lib.hid (And.intro (below_trans H6.out.1 hb) (And.intro (H6.out.2.1.to hb) (And.intro (H6.out.2.2.1.to hb) (H6.out.2.2.2.to hb))))
  clear hb H6
  have hbk := H7.out.2.1
  have c0 := hbk.c 0 _ rfl
  have c1 := hbk.c 1 _ rfl
  have c2 := hbk.c 2 _ rfl
  have c3 := hbk.c 3 _ rfl
  have c4 := hbk.c 4 _ rfl
  have c5 := hbk.c 5 _ rfl
  have c6 := hbk.c 6 _ rfl
  have c7 := hbk.c 7 _ rfl
  have c8 := hbk.c 8 _ rfl
  have c9 := hbk.c 9 _ rfl
  have c10 := hbk.c 10 _ rfl
  have c11 := hbk.c 11 _ rfl
  clear hbk
  obtain ⟨m0, m1, m2⟩ := H7.out.2.2.1
  obtain ⟨n0, n1, n2⟩ := H7.out.2.2.2
  go_wp2_with fail
  refine (HT.out.2.2.2.2.2.2.2 _).mono ?_
  rintro e w8 ⟨rfl, hb⟩
  clear c0 c1 c2 c3 c4 c5 c6 c7 c8 c9 c10 c11 m0 m1 m2 n0 n1 n2
  have H8 := Lib.hid (And.intro (below_trans H7.out.1 hb) (And.intro (H7.out.2.1.to hb) (And.intro (H7.out.2.2.1.to hb) (H7.out.2.2.2.to hb))))
  clear hb H7
  have hbk := H8.out.2.1
  have c0 := hbk.c 0 _ rfl
  have c1 := hbk.c 1 _ rfl
  have c2 := hbk.c 2 _ rfl
  have c3 := hbk.c 3 _ rfl
  have c4 := hbk.c 4 _ rfl
  have c5 := hbk.c 5 _ rfl
  have c6 := hbk.c 6 _ rfl
  have c7 := hbk.c 7 _ rfl
  have c8 := hbk.c 8 _ rfl
  have c9 := hbk.c 9 _ rfl
  have c10 := hbk.c 10 _ rfl
  have c11 := hbk.c 11 _ rfl
  clear hbk
  obtain ⟨m0, m1, m2⟩ := H8.out.2.2.1
  obtain ⟨n0, n1, n2⟩ := H8.out.2.2.2
  go_wp2_with fail
  refine (awake_calls _ (HG.out.to H8.out.1)).mono ?_
  rintro e w9 ⟨rfl, hb⟩
  clear c0 c1 c2 c3 c4 c5 c6 c7 c8 c9 c10 c11 m0 m1 m2 n0 n1 n2
  have H9 := Lib.hid (And.intro (below_trans H8.out.1 hb) (And.intro (H8.out.2.2.1.to hb) (H8.out.2.2.2.to hb)))
  clear hb H8
  obtain ⟨-, ⟨m0, m1, m2⟩, n0, n1, n2⟩ := H9.out
  go_wp2_with fail
  go_ret
  exact ⟨rfl, H9.out.1⟩

end Go.Proofs.YtgdlfjofefhdoaaGreatDoor
