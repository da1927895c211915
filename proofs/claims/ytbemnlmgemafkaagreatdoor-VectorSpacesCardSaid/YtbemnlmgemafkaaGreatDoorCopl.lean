/- Package vector: Coplanar. -/
import Derived.Test.YtbemnlmgemafkaaGreatDoorEvenW
import Derived.Test.YtbemnlmgemafkaaGreatDoorVecW
namespace Go.Proofs.YtbemnlmgemafkaaGreatDoor
open Go.RowKit Go.Sort Go.Lib Mb

/-- three points' cells, and what lies below -/
abbrev N9 (b o p q : Nat) (x y z : P3) (w0 w : World) : Prop := w.cell? ⟨b, o, none⟩ = some (.int .i64 x.x) ∧ w.cell? ⟨b, o + 1, none⟩ = some (.int .i64 x.y) ∧ w.cell? ⟨b, o + 2, none⟩ = some (.int .i64 x.z) ∧
  w.cell? ⟨b, o + p, none⟩ = some (.int .i64 y.x) ∧ w.cell? ⟨b, o + p + 1, none⟩ = some (.int .i64 y.y) ∧ w.cell? ⟨b, o + p + 2, none⟩ = some (.int .i64 y.z) ∧
  w.cell? ⟨b, o + q, none⟩ = some (.int .i64 z.x) ∧ w.cell? ⟨b, o + q + 1, none⟩ = some (.int .i64 z.y) ∧ w.cell? ⟨b, o + q + 2, none⟩ = some (.int .i64 z.z) ∧ Below w0.heap.size w0 w
theorem N9.to {b o p q : Nat} {x y z : P3} {w0 w w' : World} (hb : Below w.heap.size w w') (h : N9 b o p q x y z w0 w) : N9 b o p q x y z w0 w' := by
  obtain ⟨h1, h2, h3, h4, h5, h6, h7, h8, h9, h0⟩ := h
  exact ⟨cell_to h1 hb, cell_to h2 hb, cell_to h3 hb, cell_to h4 hb, cell_to h5 hb, cell_to h6 hb, cell_to h7 hb, cell_to h8 hb, cell_to h9 hb, below_trans h0 hb⟩
theorem N9.bel {b o p q : Nat} {x y z : P3} {w0 w : World} (h : N9 b o p q x y z w0 w) : Below w0.heap.size w0 w := h.2.2.2.2.2.2.2.2.2
theorem N9.alloc {b o p q : Nat} {x y z : P3} {w0 w : World} (ob : Obj) (h : N9 b o p q x y z w0 w) : N9 b o p q x y z w0 (w.alloc ob) := N9.to (alloc_below _ _) h
theorem N9.drew {b o p q : Nat} {x y z : P3} {w0 w : World} (h : N9 b o p q x y z w0 w) : N9 b o p q x y z w0 w.drew := N9.to ((Below.refl _ _).drew) h
theorem N9.store {b o p q n : Nat} {x y z : P3} {w0 w : World} (u1 u2 u3 : Value) (hn : b < n) (hn2 : w0.heap.size ≤ n) (h : N9 b o p q x y z w0 w) : N9 b o p q x y z w0 (((w.setCell ⟨n, 0, none⟩ u1).setCell ⟨n, 1, none⟩ u2).setCell ⟨n, 2, none⟩ u3) := by
  have hb : Below n w (((w.setCell ⟨n, 0, none⟩ u1).setCell ⟨n, 1, none⟩ u2).setCell ⟨n, 2, none⟩ u3) := (((Below.refl n w).setCell (p := ⟨n, 0, none⟩) (Nat.le_refl _) u1).setCell (p := ⟨n, 1, none⟩) (Nat.le_refl _) u2).setCell (p := ⟨n, 2, none⟩) (Nat.le_refl _) u3
  obtain ⟨h1, h2, h3, h4, h5, h6, h7, h8, h9, h0⟩ := h
  exact ⟨(hb.cell (p := ⟨b, _, none⟩) hn).trans h1, (hb.cell (p := ⟨b, _, none⟩) hn).trans h2, (hb.cell (p := ⟨b, _, none⟩) hn).trans h3, (hb.cell (p := ⟨b, _, none⟩) hn).trans h4, (hb.cell (p := ⟨b, _, none⟩) hn).trans h5, (hb.cell (p := ⟨b, _, none⟩) hn).trans h6, (hb.cell (p := ⟨b, _, none⟩) hn).trans h7, (hb.cell (p := ⟨b, _, none⟩) hn).trans h8, (hb.cell (p := ⟨b, _, none⟩) hn).trans h9, h0.trans (hb.mono hn2)⟩

theorem nrm_self (o a : P3) : nrm o a a = ⟨0, 0, 0⟩ := by simp only [nrm, vec, P3.mk.injEq]; refine ⟨?_, ?_, ?_⟩ <;> grind
theorem nrm_swap {o a b : P3} (h : nrm o a b = ⟨0, 0, 0⟩) : nrm o b a = ⟨0, 0, 0⟩ := by
  simp only [nrm, vec, P3.mk.injEq] at h ⊢
  refine ⟨?_, ?_, ?_⟩ <;> grind

theorem even_flat {l : List P3} (h : ∀ i k, i < l.length → k < i → nrm (gt l 0) (gt l k) (gt l i) = ⟨0, 0, 0⟩) : EvenP l := by
  have hz : ∀ i k, i < l.length → k < l.length → nrm (gt l 0) (gt l k) (gt l i) = ⟨0, 0, 0⟩ := by
    intro i k hi hk
    rcases Nat.lt_trichotomy k i with e | rfl | e
    · exact h i k hi e
    · exact nrm_self _ _
    · exact nrm_swap (h k i hk e)
  intro i j k m hi hj hk hm
  exact six_flat (hz j i hj hi) (hz k i hk hi) (hz k j hk hj) (hz m i hm hi) (hz m j hm hj) (hz m k hm hk)

theorem even_plane {l : List P3} {n : P3} (hn : n ≠ ⟨0, 0, 0⟩) (h : ∀ m, m < l.length → dt3 n (sub3 (gt l m) (gt l 0)) = 0) : EvenP l :=
  fun i j k m hi hj hk hm => six_plane hn (h i hi) (h j hj) (h k hk) (h m hm)

set_option maxHeartbeats 3200000 in
theorem coplanar_calls (l : List P3) (a : Option Addr) (cap : Nat) (w : World) (hT : Sl3 w a l) (hn : l.length ≤ 64) (he : errOf3 l = 0) :
    Calls Tryz.prog 23 #[.slice a l.length cap] w fun e w' => (∃ b : Bool, e = .returned (.tuple #[.bool b, .int .i64 0]) ∧ (b = true ↔ EvenP l)) ∧ Below w.heap.size w w' := by
  have hL : errL3 l = 0 := by unfold errL3; rw [if_neg (by omega), he]
  have HT := Lib.hid hT
  have H := checkS_calls l a cap w hT (by omega)
  rw [hL] at H
  clear hT hL
  have HE := Lib.hid he; clear he
  go_enter Tryz.func23, Tryz.ntmps23
  go_wp2_with fail
  refine H.mono ?_
  rintro e w1 ⟨rfl, hb1⟩
  clear H
  have HT1 := Lib.hid (And.intro (HT.out.to hb1) hb1)
  clear HT hb1
  go_wp2_with fail
  go_loopg [18] l.length (fun g v wr => ∃ i : Nat, i + g = l.length ∧ v = .int .i64 i ∧ Below w1.heap.size w1 wr ∧ ∀ i' k, i' < i → k < i' → nrm (gt l 0) (gt l k) (gt l i') = ⟨0, 0, 0⟩)
  case atStart => exact ⟨0, Nat.zero_add _, rfl, Below.refl _ _, fun i' k h => absurd h (Nat.not_lt_zero _)⟩
  case round =>
    obtain ⟨i, hi, rfl, hbel, hz1⟩ := hrel
    have H1 := Lib.hid (And.intro hbel hz1); clear hbel hz1
    by_cases hlt1 : i < l.length
    · go_wp2
      go_loopg [22] i (fun g v wr => ∃ k : Nat, k + g = i ∧ v = .int .i64 k ∧ Below w1.heap.size w1 wr ∧ ∀ k', k' < k → nrm (gt l 0) (gt l k') (gt l i) = ⟨0, 0, 0⟩)
      case atStart => exact ⟨0, Nat.zero_add _, rfl, H1.out.1, fun k' h => absurd h (Nat.not_lt_zero _)⟩
      case round =>
        obtain ⟨k, hk, rfl, hbel, hz2⟩ := hrel
        have H2 := Lib.hid (And.intro hbel hz2); clear hbel hz2
        by_cases hlt2 : k < i
        · have hT4 := HT1.out.1.to H2.out.1
          obtain ⟨b, o, rfl, -, c1, c2, c3⟩ := gt_cells hT4 (show 0 < l.length by omega)
          obtain ⟨b', o', e', -, c4, c5, c6⟩ := gt_cells hT4 (show k < l.length by omega)
          obtain ⟨b'', o'', e'', -, c7, c8, c9⟩ := gt_cells hT4 hlt1
          cases e'; cases e''
          simp only [Nat.zero_mul, Nat.add_zero] at c1 c2 c3
          have i1 : ((i : Int) < l.length) := by omega
          have i2 : ((k : Int) < l.length) := by omega
          have i0 : ((0 : Int) < l.length) := by omega
          have n0 : 0 < l.length := by omega
          have n1 : l ≠ [] := by intro e; rw [e] at n0; exact Nat.lt_irrefl 0 n0
          have n2 : k < l.length := by omega
          have z1 : (0 : Int) ≤ (i : Int) := by omega
          have z2 : (0 : Int) ≤ (k : Int) := by omega
          have hv : N9 b o (k * 3) (i * 3) (gt l 0) (gt l k) (gt l i) w1 wr := ⟨c1, c2, c3, c4, c5, c6, c7, c8, c9, H2.out.1⟩
          have hlt : b < wr.heap.size := World.block_lt_of_cell? _ _ c1
          have hle : w1.heap.size ≤ wr.heap.size := H2.out.1.size
          have HB := Lib.hid (And.intro (gt_bd HE.out (show 0 < l.length by omega)) (And.intro (gt_bd HE.out (show k < l.length by omega)) (gt_bd HE.out hlt1)))
          clear hT4
          go_wp2_with fail
          clear c1 c2 c3 c4 c5 c6 c7 c8 c9
          go_region_held3 (fun w => w.cell? ⟨b, o, none⟩ = some (.int .i64 (gt l 0).x) ∧ w.cell? ⟨b, o + 1, none⟩ = some (.int .i64 (gt l 0).y) ∧ w.cell? ⟨b, o + 2, none⟩ = some (.int .i64 (gt l 0).z) ∧ w.cell? ⟨b, o + k * 3, none⟩ = some (.int .i64 (gt l k).x) ∧ w.cell? ⟨b, o + k * 3 + 1, none⟩ = some (.int .i64 (gt l k).y) ∧ w.cell? ⟨b, o + k * 3 + 2, none⟩ = some (.int .i64 (gt l k).z) ∧ w.cell? ⟨b, o + i * 3, none⟩ = some (.int .i64 (gt l i).x) ∧ w.cell? ⟨b, o + i * 3 + 1, none⟩ = some (.int .i64 (gt l i).y) ∧ w.cell? ⟨b, o + i * 3 + 2, none⟩ = some (.int .i64 (gt l i).z) ∧ Below w1.heap.size w1 w)
            (first | with_reducible exact N9.drew hv | with_reducible exact N9.alloc _ (N9.drew hv) | with_reducible exact N9.drew (N9.alloc _ hv) | with_reducible exact hv2 | with_reducible exact N9.alloc _ hv2 | with_reducible exact N9.drew (N9.alloc _ hv2) | exact N9.store _ _ _ hlt hle hv2)
            (first | (go_at_call 58; (with_reducible refine (normal_calls (gt l 0) (gt l k) (gt l i) _ (HB.out.1.mono (by omega)) (HB.out.2.1.mono (by omega)) (HB.out.2.2.mono (by omega))).mono ?_); rintro e w2 ⟨rfl, hb2⟩; have hv2 : N9 b o (k * 3) (i * 3) (gt l 0) (gt l k) (gt l i) w1 w2 := (by first | with_reducible exact N9.to hb2 (N9.drew hv) | with_reducible exact N9.to hb2 (N9.drew (N9.alloc _ hv)) | with_reducible exact N9.to hb2 (N9.alloc _ (N9.drew hv))); (try (have hn2 : Blk w2 wr.heap.size #[.int .i64 0, .int .i64 0, .int .i64 0] 93 := (by first | exact Blk.to (blk_new wr #[.int .i64 0, .int .i64 0, .int .i64 0] 93) hb2 | exact Blk.to (show Blk (wr.alloc (.cells #[.int .i64 0, .int .i64 0, .int .i64 0] 93)).drew wr.heap.size #[.int .i64 0, .int .i64 0, .int .i64 0] 93 from blk_new wr #[.int .i64 0, .int .i64 0, .int .i64 0] 93) hb2 | exact Blk.to (show Blk (wr.drew.alloc (.cells #[.int .i64 0, .int .i64 0, .int .i64 0] 93)) wr.heap.size #[.int .i64 0, .int .i64 0, .int .i64 0] 93 from blk_new wr.drew #[.int .i64 0, .int .i64 0, .int .i64 0] 93) hb2); have s0 : w2.cell? ⟨wr.heap.size, 0, none⟩ = some (.int .i64 0) := hn2.c 0 _ rfl; have s1 : w2.cell? ⟨wr.heap.size, 1, none⟩ = some (.int .i64 0) := hn2.c 1 _ rfl; have s2 : w2.cell? ⟨wr.heap.size, 2, none⟩ = some (.int .i64 0) := hn2.c 2 _ rfl; have s3 := hn2.free 0; have s4 := hn2.free 1; have s5 := hn2.free 2))))
          · -- the call ahead of the new block
            obtain ⟨B, hB⟩ : ∃ B, B = w2.heap.size := ⟨_, rfl⟩
            obtain ⟨W, hW⟩ : ∃ W, W = w2.alloc (B3 (nrm (gt l 0) (gt l k) (gt l i)) 93) := ⟨_, rfl⟩
            have hx : Bx3 W B (nrm (gt l 0) (gt l k) (gt l i)) := by rw [hW, hB]; exact bx3_new _ _ _
            have hbW : Below w1.heap.size w1 W := by rw [hW]; exact below_trans hv2.2.2.2.2.2.2.2.2.2 (alloc_below _ _)
            rw [← hW, ← hB]
            clear hW hB hv2
            obtain ⟨nv, hnv⟩ : ∃ nv, nrm (gt l 0) (gt l k) (gt l i) = nv := ⟨_, rfl⟩
            rw [hnv] at hx
            simp only [hnv]
            have HNV := Lib.hid hnv
            have HBN := Lib.hid (show Bd3 80000000000 nv from hnv ▸ nrm_bd HB.out.1 HB.out.2.1 HB.out.2.2)
            clear hnv
            have HX := Lib.hid (And.intro hbW hx)
            obtain ⟨x1, x2, x3⟩ := hx
            clear hbW
            cases hbe : (nv.x == 0 && (nv.y == 0 && nv.z == 0)) with
            | true =>
              have heq := fun w => eqBeam 9998 w nv.x nv.y nv.z 0 0 0
              rw [hbe] at heq
              simp only [Nat.reduceAdd] at heq
              have hz : nv = ⟨0, 0, 0⟩ := by
                obtain ⟨a1, a2, a3⟩ := nv
                simp only [Bool.and_eq_true, beq_iff_eq] at hbe
                rw [hbe.1, hbe.2.1, hbe.2.2]
              have HZ := Lib.hid hz; clear hz hbe
              go_wp2_with fail
              go_roundg (i - k - 1)
              case measure => omega
              case rel =>
                refine ⟨k + 1, by omega, by go_num, HX.out.1, fun k' hk' => ?_⟩
                by_cases e : k' = k
                · subst e; rw [HNV.out]; exact HZ.out
                · exact H2.out.2 k' (by omega)
            | false =>
              have heq := fun w => eqBeam 9998 w nv.x nv.y nv.z 0 0 0
              rw [hbe] at heq
              simp only [Nat.reduceAdd] at heq
              have hz : nv ≠ ⟨0, 0, 0⟩ := by
                rintro rfl
                simp at hbe
              have HZ := Lib.hid hz; clear hz hbe
              go_wp2_with fail
              go_loopg [44] l.length (fun g v wl => ∃ m : Nat, m + g = l.length ∧ v = .int .i64 m ∧ Below w1.heap.size w1 wl ∧ ∀ m', m' < m → dt3 nv (sub3 (gt l m') (gt l 0)) = 0)
              case atStart => exact ⟨0, Nat.zero_add _, rfl, HX.out.1, fun m' h => absurd h (Nat.not_lt_zero _)⟩
              case round =>
                obtain ⟨m, hm, rfl, hbel, hz3⟩ := hrel
                have hbl := hbel
                have H3 := Lib.hid (And.intro hbl hz3)
                by_cases hlt3 : m < l.length
                · have hT5 := HT1.out.1.to hbl
                  obtain ⟨b5, o5, e5, hb5, c1, c2, c3⟩ := gt_cells hT5 n0
                  obtain ⟨b6, o6, e6, -, c4, c5, c6⟩ := gt_cells hT5 hlt3
                  cases e5; cases e6
                  simp only [Nat.zero_mul, Nat.add_zero] at c1 c2 c3
                  clear hbel hbl hz3 hT5 x1 x2 x3
                  have i3 : ((m : Int) < l.length) := by omega
                  have z3 : (0 : Int) ≤ (m : Int) := by omega
                  have hb0 := gt_bd HE.out n0
                  have hbm := gt_bd HE.out hlt3
                  have HQ1 := Lib.hid (And.intro hb0 hbm)
                  clear hb0 hbm
                  go_wp2_with fail
                  obtain ⟨W5, hW5⟩ : ∃ W5, W5 = wr.alloc (.cells #[.int .i64 (gt l m).x, .int .i64 (gt l m).y, .int .i64 (gt l m).z] 33) := ⟨_, rfl⟩
                  obtain ⟨B5, hB5⟩ : ∃ B5, B5 = wr.heap.size := ⟨_, rfl⟩
                  have hp5 : Bx3 W5 B5 (gt l m) := by rw [hW5, hB5]; exact bx3_new _ _ _
                  have hbW5 : Below wr.heap.size wr W5 := by rw [hW5]; exact alloc_below _ _
                  rw [← hW5, ← hB5]
                  clear hW5 hB5
                  have k1 := cell_regrown (cell_to c1 hbW5)
                  have k2 := cell_regrown (cell_to c2 hbW5)
                  have k3 := cell_regrown (cell_to c3 hbW5)
                  obtain ⟨y1, y2, y3⟩ := hp5
                  have k4 := cell_regrown y1
                  have k5 := cell_regrown y2
                  have k6 := cell_regrown y3
                  clear c1 c2 c3 c4 c5 c6 y1 y2 y3
                  have q1 : ∀ d os, Calls Tryz.prog 62 #[V3 (gt l 0), V3 (gt l m)] (grow (redrawn W5 d) os) fun e w'' => e = .returned (V3 (sub3 (gt l m) (gt l 0))) ∧ ∃ p : Regrown, w'' = grow (redrawn W5 p.d) p.os := fun d os => Calls.regrown_of (reach_calls _ _ _ (HQ1.out.1.mono (by omega)) (HQ1.out.2.mono (by omega)))
                  have q2 : ∀ d os, Calls Tryz.prog 61 #[V3 nv, V3 (sub3 (gt l m) (gt l 0))] (grow (redrawn W5 d) os) fun e w'' => e = .returned (.int .i64 (dt3 nv (sub3 (gt l m) (gt l 0)))) ∧ ∃ p : Regrown, w'' = grow (redrawn W5 p.d) p.os := fun d os => Calls.regrown_of (bdot_calls _ _ 80000000000 200000 _ HBN.out ((HQ1.out.1.sub HQ1.out.2).mono (by omega)) (by omega))
                  obtain ⟨s, hs⟩ : ∃ s, dt3 nv (sub3 (gt l m) (gt l 0)) = s := ⟨_, rfl⟩
                  rw [hs] at q2
                  have HS := Lib.hid hs; clear hs
                  have HW5 := Lib.hid hbW5; clear hbW5
                  cases hd : decide (s = 0) with
                  | true =>
                    have hs0 := of_decide_eq_true hd
                    subst hs0
                    refine wp_region_quiet_below follows (by kernel_rfl) ?_
                    repeat (quiet_step (first | with_reducible exact q1 _ _ | with_reducible exact q2 _ _))
                    refine wpQuiet_nil ?_
                    intro _ hw'
                    obtain ⟨⟨dq, osq⟩, hw''⟩ := hw'
                    subst hw''
                    go_wp2_with fail
                    go_roundg (l.length - m - 1)
                    case measure => omega
                    case rel =>
                      refine ⟨m + 1, by omega, by go_num, ?_, fun m' hm' => ?_⟩
                      · exact H3.out.1.trans ((HW5.out.trans ((below_regrown W5 dq osq).mono HW5.out.size)).mono H3.out.1.size)
                      · by_cases e : m' = m
                        · subst e; exact HS.out
                        · exact H3.out.2 m' (by omega)
                  | false =>
                    have hs0 := of_decide_eq_false hd
                    refine wp_region_quiet_below follows (by kernel_rfl) ?_
                    repeat (quiet_step (first | with_reducible exact q1 _ _ | with_reducible exact q2 _ _))
                    refine wpQuiet_nil ?_
                    intro _ hw'
                    obtain ⟨⟨dq, osq⟩, hw''⟩ := hw'
                    subst hw''
                    go_wp2_with fail
                    go_ret2
                    exact ⟨⟨false, rfl, by simp; intro h; exact hs0 (HS.out ▸ HNV.out ▸ h 0 k i m n0 n2 hlt1 hlt3)⟩, below_trans HT1.out.2 (H3.out.1.trans ((HW5.out.trans ((below_regrown W5 dq osq).mono HW5.out.size)).mono H3.out.1.size))⟩
                · go_wp2_with fail
                  go_ret2
                  exact ⟨⟨true, rfl, by simp; exact even_plane HZ.out fun m' h => H3.out.2 m' (by omega)⟩, below_trans HT1.out.2 H3.out.1⟩
          · -- the new block ahead of the call
            obtain ⟨B, hB⟩ : ∃ B, B = wr.heap.size := ⟨_, rfl⟩
            obtain ⟨W, hW⟩ : ∃ W, W = ((w2.setCell ⟨wr.heap.size, 0, none⟩ (.int .i64 (nrm (gt l 0) (gt l k) (gt l i)).x)).setCell ⟨wr.heap.size, 1, none⟩ (.int .i64 (nrm (gt l 0) (gt l k) (gt l i)).y)).setCell ⟨wr.heap.size, 2, none⟩ (.int .i64 (nrm (gt l 0) (gt l k) (gt l i)).z) := ⟨_, rfl⟩
            have hn3 := ((hn2.set 0 (.int .i64 (nrm (gt l 0) (gt l k) (gt l i)).x)).set 1 (.int .i64 (nrm (gt l 0) (gt l k) (gt l i)).y)).set 2 (.int .i64 (nrm (gt l 0) (gt l k) (gt l i)).z)
            have hx : Bx3 W B (nrm (gt l 0) (gt l k) (gt l i)) := by rw [hW, hB]; exact ⟨hn3.c 0 _ rfl, hn3.c 1 _ rfl, hn3.c 2 _ rfl⟩
            have hbW : Below w1.heap.size w1 W := by rw [hW]; exact N9.bel (N9.store _ _ _ hlt hle hv2)
            rw [← hW, ← hB]
            clear hW hB hv2 hn2 hn3 s0 s1 s2 s3 s4 s5
            obtain ⟨nv, hnv⟩ : ∃ nv, nrm (gt l 0) (gt l k) (gt l i) = nv := ⟨_, rfl⟩
            rw [hnv] at hx
            simp only [hnv]
            have HNV := Lib.hid hnv
            have HBN := Lib.hid (show Bd3 80000000000 nv from hnv ▸ nrm_bd HB.out.1 HB.out.2.1 HB.out.2.2)
            clear hnv
            have HX := Lib.hid (And.intro hbW hx)
            obtain ⟨x1, x2, x3⟩ := hx
            clear hbW
            cases hbe : (nv.x == 0 && (nv.y == 0 && nv.z == 0)) with
            | true =>
              have heq := fun w => eqBeam 9998 w nv.x nv.y nv.z 0 0 0
              rw [hbe] at heq
              simp only [Nat.reduceAdd] at heq
              have hz : nv = ⟨0, 0, 0⟩ := by
                obtain ⟨a1, a2, a3⟩ := nv
                simp only [Bool.and_eq_true, beq_iff_eq] at hbe
                rw [hbe.1, hbe.2.1, hbe.2.2]
              have HZ := Lib.hid hz; clear hz hbe
              go_wp2_with fail
              go_roundg (i - k - 1)
              case measure => omega
              case rel =>
                refine ⟨k + 1, by omega, by go_num, HX.out.1, fun k' hk' => ?_⟩
                by_cases e : k' = k
                · subst e; rw [HNV.out]; exact HZ.out
                · exact H2.out.2 k' (by omega)
            | false =>
              have heq := fun w => eqBeam 9998 w nv.x nv.y nv.z 0 0 0
              rw [hbe] at heq
              simp only [Nat.reduceAdd] at heq
              have hz : nv ≠ ⟨0, 0, 0⟩ := by
                rintro rfl
                simp at hbe
              have HZ := Lib.hid hz; clear hz hbe
              go_wp2_with fail
              go_loopg [44] l.length (fun g v wl => ∃ m : Nat, m + g = l.length ∧ v = .int .i64 m ∧ Below w1.heap.size w1 wl ∧ ∀ m', m' < m → dt3 nv (sub3 (gt l m') (gt l 0)) = 0)
              case atStart => exact ⟨0, Nat.zero_add _, rfl, HX.out.1, fun m' h => absurd h (Nat.not_lt_zero _)⟩
              case round =>
                obtain ⟨m, hm, rfl, hbel, hz3⟩ := hrel
                have hbl := hbel
                have H3 := Lib.hid (And.intro hbl hz3)
                by_cases hlt3 : m < l.length
                · have hT5 := HT1.out.1.to hbl
                  obtain ⟨b5, o5, e5, hb5, c1, c2, c3⟩ := gt_cells hT5 n0
                  obtain ⟨b6, o6, e6, -, c4, c5, c6⟩ := gt_cells hT5 hlt3
                  cases e5; cases e6
                  simp only [Nat.zero_mul, Nat.add_zero] at c1 c2 c3
                  clear hbel hbl hz3 hT5 x1 x2 x3
                  have i3 : ((m : Int) < l.length) := by omega
                  have z3 : (0 : Int) ≤ (m : Int) := by omega
                  have hb0 := gt_bd HE.out n0
                  have hbm := gt_bd HE.out hlt3
                  have HQ1 := Lib.hid (And.intro hb0 hbm)
                  clear hb0 hbm
                  go_wp2_with fail
                  obtain ⟨W5, hW5⟩ : ∃ W5, W5 = wr.alloc (.cells #[.int .i64 (gt l m).x, .int .i64 (gt l m).y, .int .i64 (gt l m).z] 33) := ⟨_, rfl⟩
                  obtain ⟨B5, hB5⟩ : ∃ B5, B5 = wr.heap.size := ⟨_, rfl⟩
                  have hp5 : Bx3 W5 B5 (gt l m) := by rw [hW5, hB5]; exact bx3_new _ _ _
                  have hbW5 : Below wr.heap.size wr W5 := by rw [hW5]; exact alloc_below _ _
                  rw [← hW5, ← hB5]
                  clear hW5 hB5
                  have k1 := cell_regrown (cell_to c1 hbW5)
                  have k2 := cell_regrown (cell_to c2 hbW5)
                  have k3 := cell_regrown (cell_to c3 hbW5)
                  obtain ⟨y1, y2, y3⟩ := hp5
                  have k4 := cell_regrown y1
                  have k5 := cell_regrown y2
                  have k6 := cell_regrown y3
                  clear c1 c2 c3 c4 c5 c6 y1 y2 y3
                  have q1 : ∀ d os, Calls Tryz.prog 62 #[V3 (gt l 0), V3 (gt l m)] (grow (redrawn W5 d) os) fun e w'' => e = .returned (V3 (sub3 (gt l m) (gt l 0))) ∧ ∃ p : Regrown, w'' = grow (redrawn W5 p.d) p.os := fun d os => Calls.regrown_of (reach_calls _ _ _ (HQ1.out.1.mono (by omega)) (HQ1.out.2.mono (by omega)))
                  have q2 : ∀ d os, Calls Tryz.prog 61 #[V3 nv, V3 (sub3 (gt l m) (gt l 0))] (grow (redrawn W5 d) os) fun e w'' => e = .returned (.int .i64 (dt3 nv (sub3 (gt l m) (gt l 0)))) ∧ ∃ p : Regrown, w'' = grow (redrawn W5 p.d) p.os := fun d os => Calls.regrown_of (bdot_calls _ _ 80000000000 200000 _ HBN.out ((HQ1.out.1.sub HQ1.out.2).mono (by omega)) (by omega))
                  obtain ⟨s, hs⟩ : ∃ s, dt3 nv (sub3 (gt l m) (gt l 0)) = s := ⟨_, rfl⟩
                  rw [hs] at q2
                  have HS := Lib.hid hs; clear hs
                  have HW5 := Lib.hid hbW5; clear hbW5
                  cases hd : decide (s = 0) with
                  | true =>
                    have hs0 := of_decide_eq_true hd
                    subst hs0
                    refine wp_region_quiet_below follows (by kernel_rfl) ?_
                    repeat (quiet_step (first | with_reducible exact q1 _ _ | with_reducible exact q2 _ _))
                    refine wpQuiet_nil ?_
                    intro _ hw'
                    obtain ⟨⟨dq, osq⟩, hw''⟩ := hw'
                    subst hw''
                    go_wp2_with fail
                    go_roundg (l.length - m - 1)
                    case measure => omega
                    case rel =>
                      refine ⟨m + 1, by omega, by go_num, ?_, fun m' hm' => ?_⟩
                      · exact H3.out.1.trans ((HW5.out.trans ((below_regrown W5 dq osq).mono HW5.out.size)).mono H3.out.1.size)
                      · by_cases e : m' = m
                        · subst e; exact HS.out
                        · exact H3.out.2 m' (by omega)
                  | false =>
                    have hs0 := of_decide_eq_false hd
                    refine wp_region_quiet_below follows (by kernel_rfl) ?_
                    repeat (quiet_step (first | with_reducible exact q1 _ _ | with_reducible exact q2 _ _))
                    refine wpQuiet_nil ?_
                    intro _ hw'
                    obtain ⟨⟨dq, osq⟩, hw''⟩ := hw'
                    subst hw''
                    go_wp2_with fail
                    go_ret2
                    exact ⟨⟨false, rfl, by simp; intro h; exact hs0 (HS.out ▸ HNV.out ▸ h 0 k i m n0 n2 hlt1 hlt3)⟩, below_trans HT1.out.2 (H3.out.1.trans ((HW5.out.trans ((below_regrown W5 dq osq).mono HW5.out.size)).mono H3.out.1.size))⟩
                · go_wp2_with fail
                  go_ret2
                  exact ⟨⟨true, rfl, by simp; exact even_plane HZ.out fun m' h => H3.out.2 m' (by omega)⟩, below_trans HT1.out.2 H3.out.1⟩
        · go_wp2_with fail
          go_roundg (l.length - i - 1)
          case measure => omega
          case rel =>
            refine ⟨i + 1, by omega, by go_num, H2.out.1, fun i' k' h1 h2 => ?_⟩
            by_cases e : i' = i
            · subst e; exact H2.out.2 k' (by omega)
            · exact H1.out.2 i' k' (by omega) h2
    · go_wp2_with fail
      go_ret2
      exact ⟨⟨true, rfl, by simp; exact even_flat fun i' k h1 h2 => H1.out.2 i' k (by omega) h2⟩, below_trans HT1.out.2 H1.out.1⟩

end Go.Proofs.YtbemnlmgemafkaaGreatDoor
