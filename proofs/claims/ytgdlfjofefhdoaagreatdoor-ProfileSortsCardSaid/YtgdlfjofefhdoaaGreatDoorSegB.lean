/- The reference's Check and Near of a polyline. -/
import Derived.Test.YtgdlfjofefhdoaaGreatDoorSegA
import Derived.Test.YtgdlfjofefhdoaaGreatDoorProfD
import Derived.Test.YtgdlfjofefhdoaaGreatDoorRefO
import Derived.Test.YtgdlfjofefhdoaaGreatDoorRefZ
namespace Go.Proofs.YtgdlfjofefhdoaaGreatDoor
open Go.RowKit Go.Sort Go.Lib Go.Shelf Mb

attribute [local go_sem] Oper.semAt_some

/-- a cell of the segments' row -/
theorem seg_cell {w : World} {B k : Nat} {v : Value} {l : List P2} (h : w.ownsRow B 137 4 v k (xsS l k)) (hk : 0 < k) : ∃ g cp, v = .slice (some ⟨g, 0, none⟩) k cp ∧ g < w.heap.size ∧ ∀ i, i < k →
    w.cell? ⟨g, i * 4, none⟩ = some (.int .i64 (sg l i).1.x) ∧ w.cell? ⟨g, i * 4 + 1, none⟩ = some (.int .i64 (sg l i).1.y) ∧ w.cell? ⟨g, i * 4 + 2, none⟩ = some (.int .i64 (sg l i).2.x) ∧ w.cell? ⟨g, i * 4 + 3, none⟩ = some (.int .i64 (sg l i).2.y) := by
  rcases h.2 with ⟨rfl, h2⟩ | ⟨g, cap, cur, rfl, hb, hg, hcap, hmax, hcur, htake⟩
  · omega
  · refine ⟨g, cap, rfl, (Array.getElem?_eq_some_iff.1 hg).1, fun i hi => ?_⟩
    have hc := fun j (hj : j < 4) => h.cellAt (i * 4 + j) (by omega)
    refine ⟨?_, ?_, ?_, ?_⟩
    · rw [← Nat.add_zero (i * 4), hc 0 (by omega), xsS_get l hi 0 (by omega)]; rfl
    · rw [hc 1 (by omega), xsS_get l hi 1 (by omega)]; rfl
    · rw [hc 2 (by omega), xsS_get l hi 2 (by omega)]; rfl
    · rw [hc 3 (by omega), xsS_get l hi 3 (by omega)]; rfl

theorem ne_xy {p q : P2} (h : ¬ p = q) : (p.x == q.x && p.y == q.y) = false := by
  rw [Bool.and_eq_false_iff, beq_eq_false_iff_ne, beq_eq_false_iff_ne]
  by_cases h1 : p.x = q.x
  · right; intro h2; apply h; obtain ⟨_, _⟩ := p; obtain ⟨_, _⟩ := q; simp_all
  · left; exact h1

theorem twE_t {l : List P2} {c : Bool} {k : Nat} (hk : k < segM l.length c) (h : (sg l k).1 = (sg l k).2) : twE l c = 7 := by
  unfold twE
  rw [if_pos]
  unfold twB
  rw [List.any_eq_true]
  exact ⟨k, List.mem_range.2 hk, by simpa [sg] using h⟩
theorem twE_f {l : List P2} {c : Bool} (h : ∀ k, k < segM l.length c → ¬ (sg l k).1 = (sg l k).2) : twE l c = 0 := by
  unfold twE
  rw [if_neg]
  rw [Bool.not_eq_true]
  unfold twB
  rw [List.any_eq_false]
  intro i hi
  have := h i (List.mem_range.1 hi)
  simpa [sg] using this

set_option maxRecDepth 100000 in
set_option maxHeartbeats 3200000 in
theorem pcheckR_calls (l : List P2) (a : Option Addr) (cap : Nat) (c : Bool) (w : World) (hT : Sl2 w a l) (hn : l.length ≤ 1000000) :
    Calls Tryz.prog 39 #[.slice a l.length cap, .bool c] w fun e w' => e = .returned (.int .i64 (pErr l c)) ∧ Below w.heap.size w w' := by
  have HC := rcheckP_calls l a cap w hT (by omega)
  by_cases h0 : errL l = 0
  · obtain ⟨h64, hE⟩ := errL_ok h0
    rw [h0] at HC
    by_cases h2 : l.length < 2
    · have hp : pErr l c = 13 := by unfold pErr; rw [if_pos h0, if_pos (.inl h2)]
      rw [hp]
      have d1 : decide ((l.length : Int) < 2) = true := decide_eq_true (by omega)
      have d2 : decide (l.length < 2) = true := decide_eq_true h2
      clear hT hn h0 hp hE
      go_enter Tryz.func39, Tryz.ntmps39
      go_wp2_with fail
      refine HC.mono ?_
      rintro e w1 ⟨rfl, hb1⟩
      clear HC
      go_wp2_with fail
      go_ret
      exact ⟨rfl, hb1⟩
    · by_cases h3 : c = true ∧ l.length < 3
      · have hp : pErr l c = 13 := by unfold pErr; rw [if_pos h0, if_pos (.inr h3)]
        rw [hp]
        obtain ⟨rfl, h4⟩ := h3
        have d1 : decide ((l.length : Int) < 2) = false := decide_eq_false (by omega)
        have d2 : decide (l.length < 2) = false := decide_eq_false h2
        have d3 : decide ((l.length : Int) < 3) = true := decide_eq_true (by omega)
        have d4 : decide (l.length < 3) = true := decide_eq_true h4
        clear hT hn h0 hp hE
        go_enter Tryz.func39, Tryz.ntmps39
        go_wp2_with fail
        refine HC.mono ?_
        rintro e w1 ⟨rfl, hb1⟩
        clear HC
        go_wp2_with fail
        go_ret
        exact ⟨rfl, hb1⟩
      · have hp : pErr l c = twE l c := by unfold pErr; rw [if_pos h0, if_neg (by rintro (h | h); exact h2 h; exact h3 h)]
        rw [hp]
        have HSg := fun W hT => segs_calls l a cap c W hT (by omega) h64
        have hm0 : 0 < segM l.length c := by unfold segM; split <;> omega
        have hm64 : segM l.length c ≤ 64 := Nat.le_trans (segM_le _ _) h64
        have htw := fun k hk h => twE_t (l := l) (c := c) (k := k) hk h
        have htf := twE_f (l := l) (c := c)
        obtain ⟨m, hm⟩ : ∃ m, segM l.length c = m := ⟨_, rfl⟩
        rw [hm] at HSg hm0 hm64 htw htf
        have d1 : decide ((l.length : Int) < 2) = false := decide_eq_false (by omega)
        have d2 : decide (l.length < 2) = false := decide_eq_false h2
        have hc3 : (c && decide ((l.length : Int) < 3)) = false := by
          cases c with
          | false => rfl
          | true =>
            have : ¬ l.length < 3 := fun h => h3 ⟨rfl, h⟩
            rw [decide_eq_false (by omega), Bool.and_false]
        have H := Lib.hid (And.intro hT (And.intro HSg (And.intro htw htf)))
        clear hT hn h0 hp hE HSg htw htf hm
        cases c with
        | false =>
          clear hc3 h3
          go_enter Tryz.func39, Tryz.ntmps39
          go_wp2_with fail
          refine HC.mono ?_
          rintro e w1 ⟨rfl, hb1⟩
          clear HC
          go_wp2_with fail
          refine (H.out.2.1 w1 (H.out.1.to hb1)).mono ?_
          rintro e w2 ⟨⟨v, rfl, hown⟩, hb2⟩
          obtain ⟨g, cp, rfl, hgl, hcell⟩ := seg_cell hown hm0
          have hb3 := below_trans hb1 hb2
          have HW := Lib.hid (And.intro hb3 (And.intro hgl hcell))
          clear hown hb1 hb2 hb3 hgl hcell
          go_wp2_with fail
          go_loopg [28] m (fun gk iv wr => ∃ k : Nat, k + gk = m ∧ iv = .int .i64 k ∧ Below w2.heap.size w2 wr ∧ ∀ j, j < k → ¬ (sg l j).1 = (sg l j).2)
          case atStart => exact ⟨0, Nat.zero_add _, rfl, Below.refl _ _, fun j h => absurd h (Nat.not_lt_zero j)⟩
          case round =>
            obtain ⟨k, hk, rfl, hbel, hne⟩ := hrel
            by_cases hlt : k < m
            · have i1 : ((k : Int) < m) := by omega
              have z1 : (0 : Int) ≤ (k : Int) := by omega
              obtain ⟨c1, c2, c3, c4'⟩ := HW.out.2.2 k hlt
              have c1 := cell_to c1 hbel
              have c2 := cell_to c2 hbel
              have c3 := cell_to c3 hbel
              have c4' := cell_to c4' hbel
              obtain ⟨p, hp⟩ : ∃ p, (sg l k).1 = p := ⟨_, rfl⟩
              obtain ⟨q, hq⟩ : ∃ q, (sg l k).2 = q := ⟨_, rfl⟩
              rw [hp] at c1 c2
              rw [hq] at c3 c4'
              by_cases hpq : p = q
              · have heq := fun w => eqPoint 9998 w p.x p.y q.x q.y
                rw [show (p.x == q.x && p.y == q.y) = true by rw [hpq]; simp] at heq
                simp only [Nat.reduceAdd] at heq
                have HE := Lib.hid (And.intro (H.out.2.2.1 k hlt (hp.trans (hpq.trans hq.symm))) hbel)
                clear hp hq hpq hne hbel
                go_wp2_with fail
                go_ret
                exact ⟨ret_i HE.out.1.symm, (HW.out.1.trans (HE.out.2.mono HW.out.1.size)).trans ((alloc_below _ _).mono (Nat.le_trans HW.out.1.size HE.out.2.size))⟩
              · have heq := fun w => eqPoint 9998 w p.x p.y q.x q.y
                rw [ne_xy hpq] at heq
                simp only [Nat.reduceAdd] at heq
                have HE := Lib.hid (And.intro hne (And.intro hbel (And.intro hp (And.intro hq hpq))))
                clear hp hq hpq hne hbel
                go_wp2_with fail
                go_roundg (gk - 1)
                case measure => omega
                case rel =>
                  refine ⟨k + 1, by omega, by go_num, HE.out.2.1.trans ((alloc_below _ _).mono HE.out.2.1.size), fun j hj => ?_⟩
                  by_cases hjk : j < k
                  · exact HE.out.1 j hjk
                  · obtain rfl : j = k := by omega
                    rw [HE.out.2.2.1, HE.out.2.2.2.1]; exact HE.out.2.2.2.2
            · have hkm : k = m := by omega
              subst hkm
              have HE := Lib.hid (And.intro (H.out.2.2.2 hne) hbel)
              clear hne hbel
              go_wp2_with fail
              go_ret
              exact ⟨ret_i HE.out.1.symm, HW.out.1.trans (HE.out.2.mono HW.out.1.size)⟩
        | true =>
          have d3 : decide ((l.length : Int) < 3) = false := by simpa using hc3
          have d4 : decide (l.length < 3) = false := by rw [decide_eq_false_iff_not] at d3 ⊢; omega
          clear hc3 h3
          go_enter Tryz.func39, Tryz.ntmps39
          go_wp2_with fail
          refine HC.mono ?_
          rintro e w1 ⟨rfl, hb1⟩
          clear HC
          go_wp2_with fail
          refine (H.out.2.1 w1 (H.out.1.to hb1)).mono ?_
          rintro e w2 ⟨⟨v, rfl, hown⟩, hb2⟩
          obtain ⟨g, cp, rfl, hgl, hcell⟩ := seg_cell hown hm0
          have hb3 := below_trans hb1 hb2
          have HW := Lib.hid (And.intro hb3 (And.intro hgl hcell))
          clear hown hb1 hb2 hb3 hgl hcell
          go_wp2_with fail
          go_loopg [28] m (fun gk iv wr => ∃ k : Nat, k + gk = m ∧ iv = .int .i64 k ∧ Below w2.heap.size w2 wr ∧ ∀ j, j < k → ¬ (sg l j).1 = (sg l j).2)
          case atStart => exact ⟨0, Nat.zero_add _, rfl, Below.refl _ _, fun j h => absurd h (Nat.not_lt_zero j)⟩
          case round =>
            obtain ⟨k, hk, rfl, hbel, hne⟩ := hrel
            by_cases hlt : k < m
            · have i1 : ((k : Int) < m) := by omega
              have z1 : (0 : Int) ≤ (k : Int) := by omega
              obtain ⟨c1, c2, c3, c4'⟩ := HW.out.2.2 k hlt
              have c1 := cell_to c1 hbel
              have c2 := cell_to c2 hbel
              have c3 := cell_to c3 hbel
              have c4' := cell_to c4' hbel
              obtain ⟨p, hp⟩ : ∃ p, (sg l k).1 = p := ⟨_, rfl⟩
              obtain ⟨q, hq⟩ : ∃ q, (sg l k).2 = q := ⟨_, rfl⟩
              rw [hp] at c1 c2
              rw [hq] at c3 c4'
              by_cases hpq : p = q
              · have heq := fun w => eqPoint 9998 w p.x p.y q.x q.y
                rw [show (p.x == q.x && p.y == q.y) = true by rw [hpq]; simp] at heq
                simp only [Nat.reduceAdd] at heq
                have HE := Lib.hid (And.intro (H.out.2.2.1 k hlt (hp.trans (hpq.trans hq.symm))) hbel)
                clear hp hq hpq hne hbel
                go_wp2_with fail
                go_ret
                exact ⟨ret_i HE.out.1.symm, (HW.out.1.trans (HE.out.2.mono HW.out.1.size)).trans ((alloc_below _ _).mono (Nat.le_trans HW.out.1.size HE.out.2.size))⟩
              · have heq := fun w => eqPoint 9998 w p.x p.y q.x q.y
                rw [ne_xy hpq] at heq
                simp only [Nat.reduceAdd] at heq
                have HE := Lib.hid (And.intro hne (And.intro hbel (And.intro hp (And.intro hq hpq))))
                clear hp hq hpq hne hbel
                go_wp2_with fail
                go_roundg (gk - 1)
                case measure => omega
                case rel =>
                  refine ⟨k + 1, by omega, by go_num, HE.out.2.1.trans ((alloc_below _ _).mono HE.out.2.1.size), fun j hj => ?_⟩
                  by_cases hjk : j < k
                  · exact HE.out.1 j hjk
                  · obtain rfl : j = k := by omega
                    rw [HE.out.2.2.1, HE.out.2.2.2.1]; exact HE.out.2.2.2.2
            · have hkm : k = m := by omega
              subst hkm
              have HE := Lib.hid (And.intro (H.out.2.2.2 hne) hbel)
              clear hne hbel
              go_wp2_with fail
              go_ret
              exact ⟨ret_i HE.out.1.symm, HW.out.1.trans (HE.out.2.mono HW.out.1.size)⟩
  · have hp : pErr l c = errL l := by unfold pErr; rw [if_neg h0]
    rw [hp]
    generalize errL l = er at HC h0 ⊢
    clear hT hn hp
    go_enter Tryz.func39, Tryz.ntmps39
    go_wp2_with fail
    refine HC.mono ?_
    rintro e w1 ⟨rfl, hb1⟩
    clear HC
    go_wp2_with fail
    go_ret
    exact ⟨rfl, hb1⟩

/-- the fold over the first segments -/
def nr (l : List P2) (p : P2) (h : errOf l = 0) (k : Nat) : Option (Int × Int × Nat) := nfold p (upto (sq3 l h) k)
theorem nr_one (l : List P2) (p : P2) (h : errOf l = 0) : nr l p h 1 = some (segN p (sg l 0).1 (sg l 0).2, segD p (sg l 0).1 (sg l 0).2, 0) := rfl
theorem nr_succ (l : List P2) (p : P2) (h : errOf l = 0) (k : Nat) (hk : k ≤ 64) {n d : Int} {i : Nat} (e : nr l p h k = some (n, d, i)) :
    nr l p h (k + 1) = if segN p (sg l k).1 (sg l k).2 * d < n * segD p (sg l k).1 (sg l k).2 then some (segN p (sg l k).1 (sg l k).2, segD p (sg l k).1 (sg l k).2, k) else some (n, d, i) := by
  unfold nr at *
  rw [upto_succ, nfold_snoc, e]
  show nstep p (some (n, d, i)) (min k 64, (sg l k).1, (sg l k).2) = _
  rw [Nat.min_eq_left hk]
  rfl

theorem dst_sg {l : List P2} {p : P2} (h : errOf l = 0) (hp : flatB p = true) (k : Nat) : Dst (segN p (sg l k).1 (sg l k).2) (segD p (sg l k).1 (sg l k).2) := dst_seg hp (g2_flat h _) (g2_flat h _)

theorem dst_l {n d : Int} (h : Dst n d) : (dg n).length ≤ 900 ∧ (dg d).length ≤ 900 := by
  have h1 := h.n0; have h2 := h.n1; have h3 := h.d1; have h4 := h.r.pos
  have a := dg_of_lt (n := n) (k := 24) (by omega) (by omega)
  have b := dg_of_lt (n := d) (k := 12) (by omega) (by omega)
  omega

theorem rorderD_calls (n d m e : Int) (w : World) (h : Dst n d) (k : Dst m e) :
    Calls Tryz.prog 104 #[R n d, R m e] w fun r w' => r = .returned (.int .i64 (cmp3 (n * e) (m * d))) ∧ Below w.heap.size w w' :=
  rorder2_calls n d m e w h.r.pos k.r.pos (dst_l h).1 (dst_l h).2 (dst_l k).1 (dst_l k).2

set_option maxRecDepth 100000 in
set_option maxHeartbeats 4000000 in
theorem rnear_calls (l : List P2) (a : Option Addr) (cap : Nat) (c : Bool) (p : P2) (w : World) (hT : Sl2 w a l) (he : pErr l c = 0) (hp : flatB p = true) :
    Calls Tryz.prog 91 #[.slice a l.length cap, .bool c, V p] w fun e w' => e = .returned (.tuple #[bV (nrst l c p), aV (nrst l c p)]) ∧ Below w.heap.size w w' := by
  obtain ⟨h64, hE, h2, h3, -⟩ := pErr_ok he
  have hm0 : 0 < segM l.length c := by unfold segM; split <;> omega
  have hm64 : segM l.length c ≤ 64 := Nat.le_trans (segM_le _ _) h64
  have hal := alloc_below w (B2 p 23)
  have hx := blk_new w #[.int .i64 p.x, .int .i64 p.y] 23
  have HSg := segs_calls l a cap c (w.alloc (B2 p 23)) (hT.to hal) (by omega) h64
  rw [show nrst l c p = nr l p hE (segM l.length c) by unfold nrst nr; rw [dif_pos hE]]
  obtain ⟨m, hm⟩ : ∃ m, segM l.length c = m := ⟨_, rfl⟩
  rw [hm] at HSg hm0 hm64 ⊢
  have HF := fun k W => rfromSegment_calls p (sg l k).1 (sg l k).2 W (bd_flat hp) (bd_flat (g2_flat hE _)) (bd_flat (g2_flat hE _))
  have H := Lib.hid (And.intro hp (And.intro hal (And.intro hx HF)))
  clear hT he hal hx HF hm h3
  go_enter Tryz.func91, Tryz.ntmps91
  go_wp2_with fail
  refine HSg.mono ?_
  rintro e w1 ⟨⟨v, rfl, hown⟩, hb1⟩
  clear HSg
  obtain ⟨g, cp, rfl, hgl, hcell⟩ := seg_cell hown hm0
  have hb3 := below_trans H.out.2.1 hb1
  have hbx := H.out.2.2.1.to hb1
  have HW := Lib.hid (And.intro hb3 (And.intro hgl (And.intro hcell hbx)))
  clear hown hb1 hb3 hgl hcell hbx
  obtain ⟨c1, c2, c3, c4'⟩ := HW.out.2.2.1 0 hm0
  rw [Nat.zero_mul] at c1 c2 c3 c4'
  rw [Nat.zero_add] at c2 c3 c4'
  have k1 := cell_regrown c1
  have k2 := cell_regrown c2
  have k3 := cell_regrown c3
  have k4 := cell_regrown c4'
  have k5 := cell_regrown (HW.out.2.2.2.c 0 _ rfl)
  have k6 := cell_regrown (HW.out.2.2.2.c 1 _ rfl)
  obtain ⟨s0, hs0⟩ : ∃ s, R (segN p (sg l 0).1 (sg l 0).2) (segD p (sg l 0).1 (sg l 0).2) = .string s := ⟨_, rfl⟩
  have q1 : ∀ d os, Calls Tryz.prog 61 #[V p, V (sg l 0).1, V (sg l 0).2] (grow (redrawn w1 d) os) fun e w'' => e = .returned (.string s0) ∧ ∃ p : Regrown, w'' = grow (redrawn w1 p.d) p.os := fun d os => by
    rw [← hs0]; exact Calls.regrown_of (H.out.2.2.2 0 _)
  clear c1 c2 c3 c4'
  have i0 : (0 : Int) < (m : Int) := by omega
  have HS0 := Lib.hid hs0; clear hs0
  go_wp2_with fail
  refine wp_region_quiet_below follows (by kernel_rfl) ?_
  repeat (quiet_step (with_reducible exact q1 _ _))
  refine wpQuiet_nil ?_
  intro _ hw'
  obtain ⟨⟨dq, osq⟩, hw''⟩ := hw'
  subst hw''
  have hb2 := below_regrown w1 dq osq
  obtain ⟨w2, hw2⟩ : ∃ W4, W4 = grow (redrawn w1 dq) osq := ⟨_, rfl⟩
  rw [← hw2] at hb2 ⊢
  clear hw2 k1 k2 k3 k4 k5 k6 q1
  have HV := Lib.hid hb2; clear hb2
  go_wp2_with fail
  go_loopg [9, 10, 11] (m - 1) (fun gk bv av iv wr => ∃ (k : Nat) (n d : Int) (j : Nat), k + gk = m ∧ 0 < k ∧ iv = .int .i64 k ∧ bv = R n d ∧ av = .int .i64 j ∧ j ≤ 64 ∧ nr l p hE k = some (n, d, j) ∧ Dst n d ∧ Below w1.heap.size w1 wr)
  case atStart => exact ⟨1, _, _, 0, by omega, by omega, rfl, HS0.out.symm, rfl, by omega, nr_one l p hE, dst_sg hE H.out.1 0, HV.out⟩
  case round =>
    obtain ⟨k, n, d, j, hk, hk0, rfl, rfl, rfl, hj64, hnr, hdst, hbel⟩ := hrel
    clear HS0
    by_cases hlt : k < m
    · have i1 : ((k : Int) < m) := by omega
      have z1 : (0 : Int) ≤ (k : Int) := by omega
      obtain ⟨c1, c2, c3, c4'⟩ := HW.out.2.2.1 k hlt
      have k1 := cell_regrown (cell_to c1 hbel)
      have k2 := cell_regrown (cell_to c2 hbel)
      have k3 := cell_regrown (cell_to c3 hbel)
      have k4 := cell_regrown (cell_to c4' hbel)
      have hbx := HW.out.2.2.2.to hbel
      have k5 := cell_regrown (hbx.c 0 _ rfl)
      have k6 := cell_regrown (hbx.c 1 _ rfl)
      have hds := dst_sg hE H.out.1 k
      have HO := fun W => rorderD_calls _ _ n d W hds hdst
      have hst := nr_succ l p hE k (by omega) hnr
      have HFk := fun W => H.out.2.2.2 k W
      obtain ⟨N, hN⟩ : ∃ N, segN p (sg l k).1 (sg l k).2 = N := ⟨_, rfl⟩
      obtain ⟨D, hD⟩ : ∃ N, segD p (sg l k).1 (sg l k).2 = N := ⟨_, rfl⟩
      rw [hN, hD] at HO hst hds
      have HFk' : ∀ W, Calls Tryz.prog 61 #[V p, V (sg l k).1, V (sg l k).2] W fun e w' => e = .returned (R N D) ∧ Below W.heap.size W w' := fun W => by rw [← hN, ← hD]; exact HFk W
      obtain ⟨sx, hsx⟩ : ∃ s, R N D = .string s := ⟨_, rfl⟩
      obtain ⟨sb, hsb⟩ : ∃ s, R n d = .string s := ⟨_, rfl⟩
      rw [hsx] at HFk' HO
      rw [hsb] at HO
      have hcb := cmp3_bd (N * d) (n * D)
      have q1 : ∀ dd os, Calls Tryz.prog 61 #[V p, V (sg l k).1, V (sg l k).2] (grow (redrawn wr dd) os) fun e w'' => e = .returned (.string sx) ∧ ∃ p : Regrown, w'' = grow (redrawn wr p.d) p.os := fun dd os => Calls.regrown_of (HFk' _)
      have HQ := Lib.hid (And.intro hsx (And.intro hsb (And.intro hst (And.intro hds (And.intro hdst (And.intro hbel HO))))))
      clear c1 c2 c3 c4' hbx hds HO hst HFk HFk' hN hD hnr hdst hbel
      rw [hsb]
      clear hsx hsb
      go_wp2_with fail
      refine wp_region_quiet_below follows (by kernel_rfl) ?_
      repeat (quiet_step (with_reducible exact q1 _ _))
      refine wpQuiet_nil ?_
      intro _ hw'
      obtain ⟨⟨dq, osq⟩, hw''⟩ := hw'
      subst hw''
      have hb2 := below_regrown wr dq osq
      obtain ⟨w3, hw3⟩ : ∃ W4, W4 = grow (redrawn wr dq) osq := ⟨_, rfl⟩
      rw [← hw3] at hb2 ⊢
      clear hw3 k1 k2 k3 k4 k5 k6 q1
      have hb4 := HQ.out.2.2.2.2.2.1.trans (hb2.mono HQ.out.2.2.2.2.2.1.size)
      have HR := Lib.hid hb4; clear hb2 hb4
      by_cases hc : N * d < n * D
      · have e1 : cmp3 (N * d) (n * D) = -1 := by unfold cmp3; rw [if_pos hc]
        have hst2 := HQ.out.2.2.1
        rw [if_pos hc] at hst2
        have HO := HQ.out.2.2.2.2.2.2 w3
        rw [e1] at HO
        have HY := Lib.hid (And.intro hst2 HO); clear hst2 HO hc e1 hcb
        go_wp2_with fail
        refine HY.out.2.mono ?_
        rintro e w4 ⟨rfl, hb5⟩
        have hb6 := HR.out.trans (hb5.mono HR.out.size)
        clear hb5
        have HZ := Lib.hid hb6; clear hb6
        go_wp2_with fail
        go_roundg (gk - 1)
        case measure => omega
        case rel => exact ⟨k + 1, N, D, k, by omega, by omega, by go_num, HQ.out.1.symm, rfl, by omega, HY.out.1, HQ.out.2.2.2.1, HZ.out⟩
      · obtain ⟨o, ho⟩ : ∃ o, cmp3 (N * d) (n * D) = o := ⟨_, rfl⟩
        have ho0 : ¬ o < 0 := by rw [← ho]; unfold cmp3; rw [if_neg hc]; split <;> omega
        have hst2 := HQ.out.2.2.1
        rw [if_neg hc] at hst2
        have HO := HQ.out.2.2.2.2.2.2 w3
        rw [ho] at HO hcb
        have ho1 : decide (o < 0) = false := decide_eq_false ho0
        have HY := Lib.hid (And.intro hst2 HO); clear hst2 HO hc ho
        go_wp2_with fail
        refine HY.out.2.mono ?_
        rintro e w4 ⟨rfl, hb5⟩
        have hb6 := HR.out.trans (hb5.mono HR.out.size)
        clear hb5
        have HZ := Lib.hid hb6; clear hb6
        go_wp2_with fail
        go_roundg (gk - 1)
        case measure => omega
        case rel => exact ⟨k + 1, n, d, j, by omega, by omega, by go_num, HQ.out.2.1.symm, rfl, hj64, HY.out.1, HQ.out.2.2.2.2.1, HZ.out⟩
    · have hkm : k = m := by omega
      subst hkm
      obtain ⟨sb, hsb⟩ : ∃ s, R n d = .string s := ⟨_, rfl⟩
      have HE := Lib.hid (And.intro hnr (And.intro hsb hbel))
      clear hnr hbel hdst
      rw [hsb]
      clear hsb
      go_wp2_with fail
      go_ret2
      refine ⟨?_, HW.out.1.trans (HE.out.2.2.mono HW.out.1.size)⟩
      rw [HE.out.1]
      show _ = Ending.returned (.tuple #[R n d, .int .i64 j])
      rw [HE.out.2.1]
      rfl

end Go.Proofs.YtgdlfjofefhdoaaGreatDoor
