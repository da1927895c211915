/- The walk of VectorDistances: it answers true. -/
import Derived.Test.YtgdlfjofefhdoaaGreatDoorRefZ
import Derived.Test.YtgdlfjofefhdoaaGreatDoorAwake
namespace Go.Proofs.YtgdlfjofefhdoaaGreatDoor
open Go.RowKit Go.Sort Go.Lib Mb

/-- what ToLine gives: a text and an error -/
def tlS (p a b : P2) : ByteArray := if errOf [p, a, b] = 0 then (if a = b then ⟨#[]⟩ else ⟨(rtxt (rn (crs a b p * crs a b p) (far a b)) (rd (crs a b p * crs a b p) (far a b))).toArray⟩) else ⟨#[]⟩
def tlE (p a b : P2) : Int := if errOf [p, a, b] = 0 then (if a = b then 10 else 0) else 2
/-- what ToSegment gives -/
def tsS (p a b : P2) : ByteArray := if errOf [p, a, b] = 0 then ⟨(rtxt (segN p a b) (segD p a b)).toArray⟩ else ⟨#[]⟩

set_option maxHeartbeats 800000 in
theorem ToLine_err (p a b : P2) (w : World) (he : errOf [p, a, b] = 2) :
    Calls Tryz.prog 11 #[V p, V a, V b] w fun e w' => e = .returned (.tuple #[.string ⟨#[]⟩, .int .i64 2]) ∧ Below w.heap.size w w' := by
  have hpt := pts_new3 (((w.alloc (B2 p 23)).alloc (B2 a 23)).alloc (B2 b 23)) p a b 23
  rw [size_alloc1, size_alloc1, size_alloc1] at hpt
  have HX := Lib.hid hpt; clear hpt
  have HE := Lib.hid he; clear he
  go_enter Tryz.func11, Tryz.ntmps11
  go_wp2_with fail
  refine (allP_is [p, a, b] 2 HE.out _ 0 _ 3 rfl _ HX.out (by simp)).mono ?_
  rintro e w1 ⟨rfl, hb1⟩
  have hb0 := below_trans (below_trans (below3 w _ _ _) (alloc_below _ _)) hb1
  clear HX hb1
  go_wp2_with fail
  go_ret2
  exact ⟨rfl, hb0⟩

set_option maxHeartbeats 800000 in
theorem ToSegment_err (p a b : P2) (w : World) (he : errOf [p, a, b] = 2) :
    Calls Tryz.prog 13 #[V p, V a, V b] w fun e w' => e = .returned (.tuple #[.string ⟨#[]⟩, .int .i64 2]) ∧ Below w.heap.size w w' := by
  have hpt := pts_new3 (((w.alloc (B2 p 23)).alloc (B2 a 23)).alloc (B2 b 23)) p a b 23
  rw [size_alloc1, size_alloc1, size_alloc1] at hpt
  have HX := Lib.hid hpt; clear hpt
  have HE := Lib.hid he; clear he
  go_enter Tryz.func13, Tryz.ntmps13
  go_wp2_with fail
  refine (allP_is [p, a, b] 2 HE.out _ 0 _ 3 rfl _ HX.out (by simp)).mono ?_
  rintro e w1 ⟨rfl, hb1⟩
  have hb0 := below_trans (below_trans (below3 w _ _ _) (alloc_below _ _)) hb1
  clear HX hb1
  go_wp2_with fail
  go_ret2
  exact ⟨rfl, hb0⟩

set_option maxHeartbeats 800000 in
theorem ToLine_same (p a b : P2) (w : World) (he : errOf [p, a, b] = 0) (hab : a = b) :
    Calls Tryz.prog 11 #[V p, V a, V b] w fun e w' => e = .returned (.tuple #[.string ⟨#[]⟩, .int .i64 10]) ∧ Below w.heap.size w w' := by
  have heq := fun w => eqPoint 9998 w a.x a.y b.x b.y
  rw [show (a.x == b.x && a.y == b.y) = true by rw [hab]; simp] at heq
  simp only [Nat.reduceAdd] at heq
  clear hab
  have hx := box3 w p a b 23 23 23
  have hpt := pts_new3 (((w.alloc (B2 p 23)).alloc (B2 a 23)).alloc (B2 b 23)) p a b 23
  rw [size_alloc1, size_alloc1, size_alloc1] at hpt
  have HX := Lib.hid (And.intro hx hpt); clear hx hpt
  have HE := Lib.hid he; clear he
  go_enter Tryz.func11, Tryz.ntmps11
  go_wp2_with fail
  refine (allP_is [p, a, b] 0 HE.out _ 0 _ 3 rfl _ HX.out.2 (by simp)).mono ?_
  rintro e w1 ⟨rfl, hb1⟩
  have hb0 := below_trans (below_trans (below3 w _ _ _) (alloc_below _ _)) hb1
  have h2 := (HX.out.1.2.1.to (alloc_below _ _)).to hb1
  have h3 := (HX.out.1.2.2.to (alloc_below _ _)).to hb1
  clear HX hb1
  obtain ⟨k3, k4⟩ := h2
  obtain ⟨k5, k6⟩ := h3
  go_wp2_with fail
  go_ret2
  exact ⟨rfl, hb0⟩

theorem ToLine_any (p a b : P2) (w : World) (hg : Good w) :
    Calls Tryz.prog 11 #[V p, V a, V b] w fun e w' => e = .returned (.tuple #[.string (tlS p a b), .int .i64 (tlE p a b)]) ∧ Below w.heap.size w w' := by
  unfold tlS tlE
  by_cases he : errOf [p, a, b] = 0
  · rw [if_pos he, if_pos he]
    by_cases hab : a = b
    · rw [if_pos hab, if_pos hab]; exact ToLine_same p a b w he hab
    · rw [if_neg hab, if_neg hab]
      exact toLine_any p a b w hg (errOf_ok he p (by simp)) (errOf_ok he a (by simp)) (errOf_ok he b (by simp)) hab
  · rw [if_neg he, if_neg he]; exact ToLine_err p a b w (errOf_two he)

theorem ToSegment_any (p a b : P2) (w : World) (hg : Good w) :
    Calls Tryz.prog 13 #[V p, V a, V b] w fun e w' => e = .returned (.tuple #[.string (tsS p a b), .int .i64 (errOf [p, a, b])]) ∧ Below w.heap.size w w' := by
  unfold tsS
  by_cases he : errOf [p, a, b] = 0
  · rw [if_pos he, he]
    exact seg_calls p a b w hg (errOf_ok he p (by simp)) (errOf_ok he a (by simp)) (errOf_ok he b (by simp))
  · rw [if_neg he, errOf_two he]; exact ToSegment_err p a b w (errOf_two he)

set_option maxHeartbeats 800000 in
theorem rToLine_any (p a b : P2) (w : World) :
    Calls Tryz.prog 12 #[V p, V a, V b] w fun e w' => e = .returned (.tuple #[.string (tlS p a b), .int .i64 (tlE p a b)]) ∧ Below w.heap.size w w' := by
  have hx := box3 w p a b 23 23 23
  have hb0 := below3 w (B2 p 23) (B2 a 23) (B2 b 23)
  have HX := Lib.hid hx; clear hx
  unfold tlS tlE
  by_cases he : errOf [p, a, b] = 0
  · rw [if_pos he, if_pos he]
    have h3 := fun w => three_calls p a b w
    rw [he] at h3
    by_cases hab : a = b
    · rw [if_pos hab, if_pos hab]
      have heq := fun w => eqPoint 9998 w a.x a.y b.x b.y
      rw [show (a.x == b.x && a.y == b.y) = true by rw [hab]; simp] at heq
      simp only [Nat.reduceAdd] at heq
      have H3 := Lib.hid h3
      clear hab he h3
      go_enter Tryz.func12, Tryz.ntmps12
      go_wp2_with fail
      refine (H3.out _).mono ?_
      rintro e w1 ⟨rfl, hb1⟩
      obtain ⟨c3, c4⟩ := HX.out.2.1.to hb1
      obtain ⟨c5, c6⟩ := HX.out.2.2.to hb1
      have HB := Lib.hid (below_trans hb0 hb1); clear hb0 hb1
      go_wp2_with fail
      go_ret2
      exact ⟨rfl, HB.out⟩
    · rw [if_neg hab, if_neg hab]
      have hbe : (a.x == b.x && a.y == b.y) = false := by
        rw [Bool.and_eq_false_iff, beq_eq_false_iff_ne, beq_eq_false_iff_ne]
        by_cases h : a.x = b.x
        · right; intro h2; apply hab; obtain ⟨_, _⟩ := a; obtain ⟨_, _⟩ := b; simp_all
        · left; exact h
      have heq := fun w => eqPoint 9998 w a.x a.y b.x b.y
      rw [hbe] at heq
      simp only [Nat.reduceAdd] at heq
      have hl := fun w => rfromLine_calls p a b w (bd_flat (errOf_ok he p (by simp))) (bd_flat (errOf_ok he a (by simp))) (bd_flat (errOf_ok he b (by simp))) hab
      have H3 := Lib.hid (And.intro h3 hl)
      clear hab he h3 hl hbe
      go_enter Tryz.func12, Tryz.ntmps12
      go_wp2_with fail
      refine (H3.out.1 _).mono ?_
      rintro e w1 ⟨rfl, hb1⟩
      obtain ⟨c1, c2⟩ := HX.out.1.to hb1
      obtain ⟨c3, c4⟩ := HX.out.2.1.to hb1
      obtain ⟨c5, c6⟩ := HX.out.2.2.to hb1
      have HB := Lib.hid (below_trans hb0 hb1); clear hb0 hb1
      go_wp2_with fail
      refine (H3.out.2 _).mono ?_
      rintro e w2 ⟨rfl, hb2⟩
      go_wp2_with fail
      go_ret2
      exact ⟨rfl, below_trans HB.out hb2⟩
  · rw [if_neg he, if_neg he]
    have h3 := fun w => three_calls p a b w
    rw [errOf_two he] at h3
    have H3 := Lib.hid h3
    clear he h3
    go_enter Tryz.func12, Tryz.ntmps12
    go_wp2_with fail
    refine (H3.out _).mono ?_
    rintro e w1 ⟨rfl, hb1⟩
    have HB := Lib.hid (below_trans hb0 hb1); clear hb0 hb1
    go_wp2_with fail
    go_ret2
    exact ⟨rfl, HB.out⟩

set_option maxHeartbeats 800000 in
theorem rToSegment_any (p a b : P2) (w : World) :
    Calls Tryz.prog 14 #[V p, V a, V b] w fun e w' => e = .returned (.tuple #[.string (tsS p a b), .int .i64 (errOf [p, a, b])]) ∧ Below w.heap.size w w' := by
  have hx := box3 w p a b 23 23 23
  have hb0 := below3 w (B2 p 23) (B2 a 23) (B2 b 23)
  have HX := Lib.hid hx; clear hx
  have h3 := fun w => three_calls p a b w
  unfold tsS
  by_cases he : errOf [p, a, b] = 0
  · rw [if_pos he, he]
    rw [he] at h3
    have hl := fun w => rfromSegment_calls p a b w (bd_flat (errOf_ok he p (by simp))) (bd_flat (errOf_ok he a (by simp))) (bd_flat (errOf_ok he b (by simp)))
    have H3 := Lib.hid (And.intro h3 hl)
    clear he h3 hl
    go_enter Tryz.func14, Tryz.ntmps14
    go_wp2_with fail
    refine (H3.out.1 _).mono ?_
    rintro e w1 ⟨rfl, hb1⟩
    obtain ⟨c1, c2⟩ := HX.out.1.to hb1
    obtain ⟨c3, c4⟩ := HX.out.2.1.to hb1
    obtain ⟨c5, c6⟩ := HX.out.2.2.to hb1
    have HB := Lib.hid (below_trans hb0 hb1); clear hb0 hb1
    go_wp2_with fail
    refine (H3.out.2 _).mono ?_
    rintro e w2 ⟨rfl, hb2⟩
    go_wp2_with fail
    go_ret2
    exact ⟨rfl, below_trans HB.out hb2⟩
  · rw [if_neg he, errOf_two he]
    rw [errOf_two he] at h3
    have H3 := Lib.hid h3
    clear he h3
    go_enter Tryz.func14, Tryz.ntmps14
    go_wp2_with fail
    refine (H3.out _).mono ?_
    rintro e w1 ⟨rfl, hb1⟩
    have HB := Lib.hid (below_trans hb0 hb1); clear hb0 hb1
    go_wp2_with fail
    go_ret2
    exact ⟨rfl, HB.out⟩

set_option maxRecDepth 100000 in
set_option maxHeartbeats 3200000 in
theorem distances_calls (p a b : P2) (w : World) (hg : Good w) :
    Calls Tryz.prog 3 #[V p, V a, V b] w fun e w' => e = .returned (.bool true) ∧ Below w.heap.size w w' := by
  have t1 : ∀ w, Good w → _ := fun w hg => ToLine_any p a b w hg
  have t2 : ∀ w, _ := fun w => rToLine_any p a b w
  have t3 : ∀ w, Good w → _ := fun w hg => ToSegment_any p a b w hg
  have t4 : ∀ w, _ := fun w => rToSegment_any p a b w
  obtain ⟨s, hs⟩ : ∃ s, tlS p a b = s := ⟨_, rfl⟩
  obtain ⟨e, he⟩ : ∃ s, tlE p a b = s := ⟨_, rfl⟩
  obtain ⟨t, ht⟩ : ∃ s, tsS p a b = s := ⟨_, rfl⟩
  obtain ⟨f, hf⟩ : ∃ s, errOf [p, a, b] = s := ⟨_, rfl⟩
  simp only [hs, he, ht, hf] at t1 t2 t3 t4
  have HT := Lib.hid (And.intro t1 (And.intro t2 (And.intro t3 t4)))
  clear t1 t2 t3 t4 hs he ht hf
  have hx := box3 w p a b 23 23 23
  have hb0 := below3 w (B2 p 23) (B2 a 23) (B2 b 23)
  have H0 := Lib.hid (And.intro hb0 hx)
  have HG := Lib.hid hg; clear hg hb0
  obtain ⟨⟨c1, c2⟩, ⟨c3, c4⟩, c5, c6⟩ := hx
  go_enter Tryz.func3, Tryz.ntmps3
  go_wp2_with fail
  refine (HT.out.1 _ (HG.out.to H0.out.1)).mono ?_
  rintro e w1 ⟨rfl, hb⟩
  clear c1 c2 c3 c4 c5 c6
  have H1 := Lib.hid (And.intro (below_trans H0.out.1 hb) (And.intro (H0.out.2.1.to hb) (And.intro (H0.out.2.2.1.to hb) (H0.out.2.2.2.to hb)))); clear hb H0
  obtain ⟨-, ⟨c1, c2⟩, ⟨c3, c4⟩, c5, c6⟩ := H1.out
  go_wp2_with fail
  refine (HT.out.2.1 _).mono ?_
  rintro e w2 ⟨rfl, hb⟩
  clear c1 c2 c3 c4 c5 c6
  have H2 := Lib.hid (And.intro (below_trans H1.out.1 hb) (And.intro (H1.out.2.1.to hb) (And.intro (H1.out.2.2.1.to hb) (H1.out.2.2.2.to hb)))); clear hb H1
  obtain ⟨-, ⟨c1, c2⟩, ⟨c3, c4⟩, c5, c6⟩ := H2.out
  go_wp2_with fail
  refine (HT.out.2.2.1 _ (HG.out.to H2.out.1)).mono ?_
  rintro e w3 ⟨rfl, hb⟩
  clear c1 c2 c3 c4 c5 c6
  have H3 := Lib.hid (And.intro (below_trans H2.out.1 hb) (And.intro (H2.out.2.1.to hb) (And.intro (H2.out.2.2.1.to hb) (H2.out.2.2.2.to hb)))); clear hb H2
  obtain ⟨-, ⟨c1, c2⟩, ⟨c3, c4⟩, c5, c6⟩ := H3.out
  go_wp2_with fail
  refine (HT.out.2.2.2 _).mono ?_
  rintro e w4 ⟨rfl, hb⟩
  clear c1 c2 c3 c4 c5 c6
  have H4 := Lib.hid (below_trans H3.out.1 hb); clear hb H3
  go_wp2_with fail
  refine (awake_calls _ (HG.out.to H4.out)).mono ?_
  rintro e w5 ⟨rfl, hb⟩
  go_wp2_with fail
  go_ret
  exact ⟨rfl, below_trans H4.out hb⟩

end Go.Proofs.YtgdlfjofefhdoaaGreatDoor
