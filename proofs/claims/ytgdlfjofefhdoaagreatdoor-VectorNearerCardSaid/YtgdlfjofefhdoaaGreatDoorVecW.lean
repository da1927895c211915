/- Package vector: ToPlane (over what the integers' operations do). -/
import Derived.Test.YtgdlfjofefhdoaaGreatDoorVecU
namespace Go.Proofs.YtgdlfjofefhdoaaGreatDoor
open Go.RowKit Go.Sort Go.Lib Mb

theorem eqBeam (d : Nat) (w : World) (a b c x y z : Int) : (Op.equalIn (d + 2) 104 (.agg #[.int .i64 a, .int .i64 b, .int .i64 c]) (.agg #[.int .i64 x, .int .i64 y, .int .i64 z])).run Tryz.prog w = .ok (a == x && (b == y && c == z)) w := by
  refine eqStruct Tryz.underlying104 (by kernel_rfl) ?_
  rw [← Bool.and_true (c == z)]
  refine eqFields_one (by decide) (by go_simp; rfl) (by go_simp; rfl) (by go_simp) ?_
  refine eqFields_one (by decide) (by go_simp; rfl) (by go_simp; rfl) (by go_simp) ?_
  exact eqFields_one (by decide) (by go_simp; rfl) (by go_simp; rfl) (by go_simp) eqFields_none

def pc (k : Nat) (v : P3) : Int := match k with | 0 => v.x | 1 => v.y | _ => v.z
def tot (k : Nat) (v : P3) : Int := match k with | 0 => 0 | 1 => v.x * v.x | 2 => v.x * v.x + v.y * v.y | _ => v.x * v.x + v.y * v.y + v.z * v.z

/-- what the sum of the squares asks of the integers' operations -/
structure PlOps (v : P3) : Prop where
  mul : ∀ k, k < 3 → ∀ w, Good w → Calls Tryz.prog 73 #[S (pc k v), S (pc k v)] w fun e w' => e = .returned (.tuple #[S (pc k v * pc k v), .int .i64 0]) ∧ Below w.heap.size w w'
  add : ∀ k, k < 3 → ∀ w, Good w → Calls Tryz.prog 74 #[S (tot k v), S (pc k v * pc k v)] w fun e w' => e = .returned (.tuple #[S (tot (k + 1) v), .int .i64 0]) ∧ Below w.heap.size w w'
  bd : ∀ k, k < 3 → -9223372036854775808 ≤ pc k v ∧ pc k v ≤ 9223372036854775807

theorem S_zero : S 0 = .string ⟨#[48]⟩ := by
  show Value.string ⟨(itoa 0).toArray⟩ = _
  rw [Mb.itoa_nonneg (by omega), show (0 : Int).natAbs = 0 from rfl, decDigits]; rfl

set_option maxHeartbeats 1600000 in
theorem ToPlane_ok (p a b c : P3) (w : World) (hg : Good w) (hp : highB p = true) (ha : highB a = true) (hb : highB b = true) (hc : highB c = true) (hn : nrm a b c ≠ ⟨0, 0, 0⟩) (hs : PlOps (nrm a b c)) (ho : SqOps (six a b c p) (tot 3 (nrm a b c))) :
    Calls Tryz.prog 22 #[V3 p, V3 a, V3 b, V3 c] w fun e w' => e = .returned (.tuple #[Q (six a b c p) (tot 3 (nrm a b c)), .int .i64 0]) ∧ Below w.heap.size w w' := by
  have hbe : ((nrm a b c).x == 0 && ((nrm a b c).y == 0 && (nrm a b c).z == 0)) = false := by
    rw [Bool.and_eq_false_iff, Bool.and_eq_false_iff, beq_eq_false_iff_ne, beq_eq_false_iff_ne, beq_eq_false_iff_ne]
    generalize nrm a b c = v at hn
    obtain ⟨x, y, z⟩ := v
    simp only [ne_eq, P3.mk.injEq] at hn ⊢
    omega
  have heq := fun w => eqBeam 9998 w (nrm a b c).x (nrm a b c).y (nrm a b c).z 0 0 0
  rw [hbe] at heq
  simp only [Nat.reduceAdd] at heq
  have he : errOf3 [p, a, b, c] = 0 := err3_ok (by simp [ha, hb, hc, hp])
  have hx := bx3_4 w p a b c 33 33 33 33
  have hpt := spts_new4 ((((w.alloc (B3 p 33)).alloc (B3 a 33)).alloc (B3 b 33)).alloc (B3 c 33)) p a b c 33
  rw [size_alloc1, size_alloc1, size_alloc1, size_alloc1] at hpt
  have HX := Lib.hid (And.intro hx hpt); clear hx hpt
  have HE := Lib.hid he; clear he
  have HN := Lib.hid (nrm_bd (bd_high ha) (bd_high hb) (bd_high hc))
  have HA := Lib.hid (And.intro (bd_high hp) (And.intro (bd_high ha) (And.intro (bd_high hb) (bd_high hc)))); clear ha hb hc hp
  go_enter Tryz.func22, Tryz.ntmps22
  go_wp2_with fail
  refine (allS_is [p, a, b, c] 0 HE.out _ 0 _ 4 rfl _ HX.out.2 (by simp)).mono ?_
  rintro e w1 ⟨rfl, hb1⟩
  have hb0 := below_trans (below_trans (below_trans (below3 w _ _ _) (alloc_below _ _)) (alloc_below _ _)) hb1
  have h1 := (HX.out.1.1.to (alloc_below _ _)).to hb1
  have h2 := (HX.out.1.2.1.to (alloc_below _ _)).to hb1
  have h3 := (HX.out.1.2.2.1.to (alloc_below _ _)).to hb1
  have h4 := (HX.out.1.2.2.2.to (alloc_below _ _)).to hb1
  clear HX hb1
  have HH := Lib.hid (And.intro h1 (And.intro h2 (And.intro h3 h4)))
  obtain ⟨c1, c2, c3⟩ := h1
  obtain ⟨c4, c5, c6⟩ := h2
  obtain ⟨c7, c8, c9⟩ := h3
  obtain ⟨c10, c11, c12⟩ := h4
  go_wp2_with fail
  refine (normal_calls a b c _ (HA.out.2.1.mono (by omega)) (HA.out.2.2.1.mono (by omega)) (HA.out.2.2.2.mono (by omega))).mono ?_
  rintro e w2 ⟨rfl, hb2⟩
  have hbn := bx3_new w2 (nrm a b c) 104
  have HB := Lib.hid hbn
  obtain ⟨d1, d2, d3⟩ := hbn
  go_wp2_with fail
  obtain ⟨W, hW⟩ : ∃ W, W = (w2.alloc (B3 (nrm a b c) 104)).alloc (.cells #[.int .i64 (nrm a b c).x, .int .i64 (nrm a b c).y, .int .i64 (nrm a b c).z] 3) := ⟨_, rfl⟩
  rw [← hW]
  have hbW : Below w1.heap.size w1 W := by rw [hW]; exact below_trans (below_trans hb2 (alloc_below _ _)) (alloc_below _ _)
  have hgW : Good W := hg.to (below_trans hb0 hbW)
  have hv : Bx3 W w2.heap.size (nrm a b c) := by rw [hW]; exact HB.out.to (alloc_below _ _)
  have hl : Bx3 W (w2.heap.size + 1) (nrm a b c) := by
    rw [hW]
    have := bx3_new (w2.alloc (B3 (nrm a b c) 104)) (nrm a b c) 3
    rwa [size_alloc1] at this
  have HR := Lib.hid (And.intro (HH.out.1.to hbW) (And.intro (HH.out.2.1.to hbW) (And.intro hv (And.intro hgW (below_trans hb0 hbW)))))
  have HO := Lib.hid (And.intro hs ho)
  have HL := Lib.hid hl
  clear HH HB hb0 hbW hgW hv hl hs ho c1 c2 c3 c4 c5 c6 c7 c8 c9 c10 c11 c12 d1 d2 d3 heq hbe hb2 hn hg
  clear hW
  go_loopg [12, 41] 3 (fun g s i wr => ∃ k : Nat, k + g = 3 ∧ s = S (tot k (nrm a b c)) ∧ i = .int .i64 k ∧ Below W.heap.size W wr)
  case atStart => exact ⟨0, rfl, S_zero.symm, rfl, Below.refl _ _⟩
  case round =>
    obtain ⟨k, hk, rfl, rfl, hbel⟩ := hrel
    by_cases hlt : k < 3
    · have hc : wr.cell? ⟨w2.heap.size + 1, k, none⟩ = some (.int .i64 (pc k (nrm a b c))) := by
        have := HL.out.to hbel
        match k, hlt with
        | 0, _ => exact this.1
        | 1, _ => exact this.2.1
        | 2, _ => exact this.2.2
      have hbd := HO.out.1.bd k hlt
      go_wp2_with fail
      refine (of_calls _ _ (HR.out.2.2.2.1.to hbel) hbd.1 hbd.2).mono ?_
      rintro e v1 ⟨rfl, e1⟩
      have f1 := below_trans hbel e1
      go_wp2_with fail
      refine (of_calls _ _ (HR.out.2.2.2.1.to f1) hbd.1 hbd.2).mono ?_
      rintro e v2 ⟨rfl, e2⟩
      have f2 := below_trans f1 e2
      go_wp2_with fail
      refine (HO.out.1.mul k hlt _ (HR.out.2.2.2.1.to f2)).mono ?_
      rintro e v3 ⟨rfl, e3⟩
      have f3 := below_trans f2 e3
      go_wp2_with fail
      refine (HO.out.1.add k hlt _ (HR.out.2.2.2.1.to f3)).mono ?_
      rintro e v4 ⟨rfl, e4⟩
      have f4 := below_trans f3 e4
      go_wp2_with fail
      go_roundg (gk - 1)
      case measure => omega
      case rel => exact ⟨k + 1, by omega, rfl, by go_num, f4⟩
    · have hk3 : k = 3 := by omega
      subst hk3
      clear hlt hk HL
      have hW := HR.out.2.2.2.2
      obtain ⟨h1, h2, h3, hgW, -⟩ := HR.out
      have hgr := hgW.to hbel
      have hbr := below_trans hW hbel
      clear hW
      have m1 := cell_regrown (h1.to hbel).1
      have m2 := cell_regrown (h1.to hbel).2.1
      have m3 := cell_regrown (h1.to hbel).2.2
      have m4 := cell_regrown (h2.to hbel).1
      have m5 := cell_regrown (h2.to hbel).2.1
      have m6 := cell_regrown (h2.to hbel).2.2
      have m7 := cell_regrown (h3.to hbel).1
      have m8 := cell_regrown (h3.to hbel).2.1
      have m9 := cell_regrown (h3.to hbel).2.2
      have HG := Lib.hid hgr
      have q1 : ∀ d' os, Calls Tryz.prog 70 #[V3 a, V3 p] (grow (redrawn wr d') os) fun e w'' => e = .returned (V3 (sub3 p a)) ∧ ∃ p : Regrown, w'' = grow (redrawn wr p.d) p.os := fun d' os => Calls.regrown_of (reach_calls a p _ (HA.out.2.1.mono (by omega)) (HA.out.1.mono (by omega)))
      have q2 : ∀ d' os, Calls Tryz.prog 69 #[V3 (nrm a b c), V3 (sub3 p a)] (grow (redrawn wr d') os) fun e w'' => e = .returned (.int .i64 (six a b c p)) ∧ ∃ p : Regrown, w'' = grow (redrawn wr p.d) p.os := fun d' os => Calls.regrown_of (bdot_calls _ _ _ _ _ HN.out (HA.out.2.1.sub HA.out.1) (by omega))
      have q3 : ∀ d' os, Calls Tryz.prog 54 #[.int .i64 (six a b c p), S (tot 3 (nrm a b c))] (grow (redrawn wr d') os) fun e w'' => e = .returned (.tuple #[Q (six a b c p) (tot 3 (nrm a b c)), .int .i64 0]) ∧ ∃ p : Regrown, w'' = grow (redrawn wr p.d) p.os := fun d' os => Calls.regrown_of (squared_calls _ _ _ (HG.out.to (below_regrown wr d' os)) HO.out.2)
      clear h1 h2 h3 hgW hgr hbel
      go_wp2_with fail
      refine wp_region_quiet_below follows (by kernel_rfl) ?_
      repeat (quiet_step (first | with_reducible exact q1 _ _ | with_reducible exact q2 _ _ | with_reducible exact q3 _ _))
      refine wpQuiet_nil ?_
      intro _ hw'
      obtain ⟨⟨dq, osq⟩, hw''⟩ := hw'
      subst hw''
      go_wp2_with fail
      go_ret2
      exact ⟨rfl, below_trans hbr (below_regrown wr dq osq)⟩

set_option maxHeartbeats 800000 in
theorem ToPlane_err (p a b c : P3) (w : World) (he : errOf3 [p, a, b, c] = 2) :
    Calls Tryz.prog 22 #[V3 p, V3 a, V3 b, V3 c] w fun e w' => e = .returned (.tuple #[.string ⟨#[]⟩, .int .i64 2]) ∧ Below w.heap.size w w' := by
  have hp := spts_new4 ((((w.alloc (B3 p 33)).alloc (B3 a 33)).alloc (B3 b 33)).alloc (B3 c 33)) p a b c 33
  rw [size_alloc1, size_alloc1, size_alloc1, size_alloc1] at hp
  have HX := Lib.hid hp; clear hp
  have HE := Lib.hid he; clear he
  go_enter Tryz.func22, Tryz.ntmps22
  go_wp2_with fail
  refine (allS_is [p, a, b, c] 2 HE.out _ 0 _ 4 rfl _ HX.out (by simp)).mono ?_
  rintro e w1 ⟨rfl, hb1⟩
  have hb0 := below_trans (below_trans (below_trans (below3 w _ _ _) (alloc_below _ _)) (alloc_below _ _)) hb1
  clear HX hb1
  go_wp2_with fail
  go_ret2
  exact ⟨rfl, hb0⟩

set_option maxHeartbeats 800000 in
theorem ToPlane_flat (p a b c : P3) (w : World) (hp : highB p = true) (ha : highB a = true) (hb : highB b = true) (hc : highB c = true) (hn : nrm a b c = ⟨0, 0, 0⟩) :
    Calls Tryz.prog 22 #[V3 p, V3 a, V3 b, V3 c] w fun e w' => e = .returned (.tuple #[.string ⟨#[]⟩, .int .i64 10]) ∧ Below w.heap.size w w' := by
  have heq := fun w => eqBeam 9998 w (nrm a b c).x (nrm a b c).y (nrm a b c).z 0 0 0
  rw [show ((nrm a b c).x == 0 && ((nrm a b c).y == 0 && (nrm a b c).z == 0)) = true by rw [hn]; rfl] at heq
  simp only [Nat.reduceAdd] at heq
  have he : errOf3 [p, a, b, c] = 0 := err3_ok (by simp [ha, hb, hc, hp])
  have hx := bx3_4 w p a b c 33 33 33 33
  have hpt := spts_new4 ((((w.alloc (B3 p 33)).alloc (B3 a 33)).alloc (B3 b 33)).alloc (B3 c 33)) p a b c 33
  rw [size_alloc1, size_alloc1, size_alloc1, size_alloc1] at hpt
  have HX := Lib.hid (And.intro hx hpt); clear hx hpt
  have HE := Lib.hid he; clear he
  have HA := Lib.hid (And.intro (bd_high hp) (And.intro (bd_high ha) (And.intro (bd_high hb) (bd_high hc)))); clear ha hb hc hp
  clear hn
  go_enter Tryz.func22, Tryz.ntmps22
  go_wp2_with fail
  refine (allS_is [p, a, b, c] 0 HE.out _ 0 _ 4 rfl _ HX.out.2 (by simp)).mono ?_
  rintro e w1 ⟨rfl, hb1⟩
  have hb0 := below_trans (below_trans (below_trans (below3 w _ _ _) (alloc_below _ _)) (alloc_below _ _)) hb1
  have h2 := (HX.out.1.2.1.to (alloc_below _ _)).to hb1
  have h3 := (HX.out.1.2.2.1.to (alloc_below _ _)).to hb1
  have h4 := (HX.out.1.2.2.2.to (alloc_below _ _)).to hb1
  clear HX hb1
  obtain ⟨c4, c5, c6⟩ := h2
  obtain ⟨c7, c8, c9⟩ := h3
  obtain ⟨c10, c11, c12⟩ := h4
  go_wp2_with fail
  refine (normal_calls a b c _ (HA.out.2.1.mono (by omega)) (HA.out.2.2.1.mono (by omega)) (HA.out.2.2.2.mono (by omega))).mono ?_
  rintro e w2 ⟨rfl, hb2⟩
  have hbn := bx3_new w2 (nrm a b c) 104
  obtain ⟨d1, d2, d3⟩ := hbn
  have hb3 := below_trans (below_trans hb0 hb2) (alloc_below w2 (B3 (nrm a b c) 104))
  go_wp2_with fail
  go_ret2
  exact ⟨rfl, hb3⟩

end Go.Proofs.YtgdlfjofefhdoaaGreatDoor
