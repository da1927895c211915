/- Package vector: Collinear. -/
import Derived.Test.YtbemnlmgemafkaaGreatDoorIdxC
import Derived.Test.YtbemnlmgemafkaaGreatDoorStrW
namespace Go.Proofs.YtbemnlmgemafkaaGreatDoor
open Go.RowKit Go.Sort Go.Lib Mb

theorem str_line {l : List P2} {k : Nat} (hne : g2 l 0 ≠ g2 l k) (h : ∀ m, m < l.length → crs (g2 l 0) (g2 l k) (g2 l m) = 0) : StrP l := fun i j m hi hj hm => crs_line hne (h i hi) (h j hj) (h m hm)
theorem str_same {l : List P2} (h : ∀ m, m < l.length → g2 l m = g2 l 0) : StrP l := by
  intro i j k hi hj hk
  unfold crs3
  rw [h i hi, h j hj, h k hk]
  simp [crs]

theorem neP (p q : P2) : (p ≠ q) ↔ ((p.x == q.x && p.y == q.y) = false) := by
  obtain ⟨a, b⟩ := p
  obtain ⟨c, d⟩ := q
  simp only [ne_eq, P2.mk.injEq, Bool.and_eq_false_iff, beq_eq_false_iff_ne]
  omega

set_option maxHeartbeats 1600000 in
theorem coll1_calls (p : P2) (l : List P2) (Bs b o cap : Nat) (w : World) (hB : w.cell? ⟨Bs, 0, none⟩ = some (.slice (some ⟨b, o, none⟩) l.length cap)) (h0 : w.cell? ⟨b, o, none⟩ = some (.int .i64 (g2 l 0).x)) (h1 : w.cell? ⟨b, o + 1, none⟩ = some (.int .i64 (g2 l 0).y)) (hl : 0 < l.length) :
    Calls Tryz.prog 82 #[V p, .pointer (some ⟨Bs, 0, none⟩)] w fun e w' => e = .returned (.bool (!(p.x == (g2 l 0).x && p.y == (g2 l 0).y))) ∧ Below w.heap.size w w' := by
  have heq := fun w => eqPoint 9998 w p.x p.y (g2 l 0).x (g2 l 0).y
  simp only [Nat.reduceAdd] at heq
  obtain ⟨r, hr⟩ : ∃ r, (p.x == (g2 l 0).x && p.y == (g2 l 0).y) = r := ⟨_, rfl⟩
  rw [hr] at heq ⊢
  clear hr
  have n1 : l ≠ [] := by intro e; rw [e] at hl; exact Nat.not_lt_zero _ hl
  have i0 : ((0 : Int) < l.length) := by omega
  obtain ⟨W5, hW5⟩ : ∃ W5, W5 = w.alloc (.cells #[.int .i64 p.x, .int .i64 p.y] 23) := ⟨_, rfl⟩
  have hb5 : Below w.heap.size w W5 := by rw [hW5]; exact alloc_below _ _
  have hp5 : Bx W5 w.heap.size p := by rw [hW5]; exact bx_new _ _ _
  have k1 := cell_regrown (cell_to hB hb5)
  have k2 := cell_regrown (cell_to h0 hb5)
  have k3 := cell_regrown (cell_to h1 hb5)
  have k4 := cell_regrown hp5.1
  have k5 := cell_regrown hp5.2
  clear hB h0 h1 hp5
  go_enter Tryz.func82, Tryz.ntmps82
  go_wp2_with fail
  rw [← hW5]
  clear hW5
  refine wp_region_quiet_below follows (by kernel_rfl) ?_
  repeat (quiet_step (fail))
  refine wpQuiet_nil ?_
  intro _ hw'
  obtain ⟨⟨dq, osq⟩, rfl⟩ := hw'
  go_wp2_with fail
  go_ret
  exact ⟨rfl, below_trans hb5 (below_regrown W5 dq osq)⟩

/-- the box with the list, two points' cells, and what lies below -/
abbrev N5 (Bs b o p n cap : Nat) (x y : P2) (w0 w : World) : Prop := w.cell? ⟨Bs, 0, none⟩ = some (.slice (some ⟨b, o, none⟩) n cap) ∧ w.cell? ⟨b, o, none⟩ = some (.int .i64 x.x) ∧ w.cell? ⟨b, o + 1, none⟩ = some (.int .i64 x.y) ∧
  w.cell? ⟨b, o + p, none⟩ = some (.int .i64 y.x) ∧ w.cell? ⟨b, o + p + 1, none⟩ = some (.int .i64 y.y) ∧ Below w0.heap.size w0 w
theorem N5.to {Bs b o p n cap : Nat} {x y : P2} {w0 w w' : World} (hb : Below w.heap.size w w') (h : N5 Bs b o p n cap x y w0 w) : N5 Bs b o p n cap x y w0 w' := by
  obtain ⟨h1, h2, h3, h4, h5, h0⟩ := h
  exact ⟨cell_to h1 hb, cell_to h2 hb, cell_to h3 hb, cell_to h4 hb, cell_to h5 hb, below_trans h0 hb⟩
theorem N5.bel {Bs b o p n cap : Nat} {x y : P2} {w0 w : World} (h : N5 Bs b o p n cap x y w0 w) : Below w0.heap.size w0 w := h.2.2.2.2.2
theorem N5.alloc {Bs b o p n cap : Nat} {x y : P2} {w0 w : World} (ob : Obj) (h : N5 Bs b o p n cap x y w0 w) : N5 Bs b o p n cap x y w0 (w.alloc ob) := N5.to (alloc_below _ _) h
theorem N5.drew {Bs b o p n cap : Nat} {x y : P2} {w0 w : World} (h : N5 Bs b o p n cap x y w0 w) : N5 Bs b o p n cap x y w0 w.drew := N5.to ((Below.refl _ _).drew) h
theorem N5.store {Bs b o p n cap m : Nat} {x y : P2} {w0 w : World} (u1 u2 : Value) (hn : b < m) (hB : Bs < m) (hn2 : w0.heap.size ≤ m) (h : N5 Bs b o p n cap x y w0 w) : N5 Bs b o p n cap x y w0 ((w.setCell ⟨m, 0, none⟩ u1).setCell ⟨m, 1, none⟩ u2) := by
  have hb : Below m w ((w.setCell ⟨m, 0, none⟩ u1).setCell ⟨m, 1, none⟩ u2) := ((Below.refl m w).setCell (p := ⟨m, 0, none⟩) (Nat.le_refl _) u1).setCell (p := ⟨m, 1, none⟩) (Nat.le_refl _) u2
  obtain ⟨h1, h2, h3, h4, h5, h0⟩ := h
  exact ⟨(hb.cell (p := ⟨Bs, _, none⟩) hB).trans h1, (hb.cell (p := ⟨b, _, none⟩) hn).trans h2, (hb.cell (p := ⟨b, _, none⟩) hn).trans h3, (hb.cell (p := ⟨b, _, none⟩) hn).trans h4, (hb.cell (p := ⟨b, _, none⟩) hn).trans h5, h0.trans (hb.mono hn2)⟩

theorem firstIx_lt {A : Type} {q : A → Bool} {l : List A} : (firstIx q l = -1 ∧ ∀ x ∈ l, q x = false) ∨ ∃ k, ∃ h : k < l.length, firstIx q l = k ∧ q l[k] = true := by
  unfold firstIx
  cases h : l.findIdx? q with
  | none =>
    rw [List.findIdx?_eq_none_iff] at h
    exact .inl ⟨rfl, h⟩
  | some i =>
    obtain ⟨hi, hq, -⟩ := List.findIdx?_eq_some_iff_getElem.1 h
    exact .inr ⟨i, hi, rfl, hq⟩

set_option maxHeartbeats 3200000 in
theorem collinear_calls (l : List P2) (a : Option Addr) (cap : Nat) (w : World) (hT : Sl2 w a l) (hn : l.length ≤ 64) (he : errOf l = 0) :
    Calls Tryz.prog 37 #[.slice a l.length cap] w fun e w' => (∃ b : Bool, e = .returned (.tuple #[.bool b, .int .i64 0]) ∧ (b = true ↔ StrP l)) ∧ Below w.heap.size w w' := by
  have hL : errL l = 0 := by unfold errL; rw [if_neg (by omega), he]
  have H := fun W b => checkP_calls l a cap W b (by omega)
  rw [hL] at H
  have HT := Lib.hid (And.intro hT he); clear hT hL he
  obtain ⟨W0, hW0⟩ : ∃ W0, W0 = w.alloc (.cells #[.slice a l.length cap] 57) := ⟨_, rfl⟩
  have hb0 : Below w.heap.size w W0 := by rw [hW0]; exact alloc_below _ _
  have hc0 : W0.cell? ⟨w.heap.size, 0, none⟩ = some (.slice a l.length cap) := by rw [hW0]; exact cell_new _ _ _ _ _ rfl
  go_enter Tryz.func37, Tryz.ntmps37
  go_wp2_with fail
  rw [← hW0]
  clear hW0
  obtain ⟨Bs, hBs⟩ : ∃ Bs, Bs = w.heap.size := ⟨_, rfl⟩
  rw [← hBs] at hc0 ⊢
  clear hBs
  refine (H _ (HT.out.1.to hb0)).mono ?_
  rintro e w1 ⟨rfl, hb1⟩
  have hc1 := cell_to hc0 hb1
  have hb2 := below_trans hb0 hb1
  clear hc0 hb0 hb1 H
  have hI : Calls Tryz.prog 81 #[.slice a l.length cap, .func (.func 82) #[] #[.pointer (some ⟨Bs, 0, none⟩)]] w1 fun e w' => e = .returned (.int .i64 (firstIx (fun p => !(p.x == (g2 l 0).x && p.y == (g2 l 0).y)) l)) ∧ Below w1.heap.size w1 w' :=
    indexK_calls 82 (.pointer (some ⟨Bs, 0, none⟩)) (fun p => !(p.x == (g2 l 0).x && p.y == (g2 l 0).y)) l a cap w1 (HT.out.1.to hb2) (by omega) (enters_of Tryz.func82 (by kernel_rfl) rfl) (fun k hk w' hb => by
      obtain ⟨b, o, rfl, -, c1, c2⟩ := g2_cells (HT.out.1.to (below_trans hb2 hb)) (show 0 < l.length by omega)
      simp only [Nat.zero_mul, Nat.add_zero] at c1 c2
      exact coll1_calls l[k] l Bs b o cap w' (cell_to hc1 hb) c1 c2 (by omega))
  rcases firstIx_lt (q := fun p : P2 => !(p.x == (g2 l 0).x && p.y == (g2 l 0).y)) (l := l) with ⟨e1, hall⟩ | ⟨k, hk, e1, hq⟩
  · rw [e1] at hI
    have HS := Lib.hid (show StrP l from str_same fun m hm => by
      rw [g2_get hm]
      have := hall _ (List.getElem_mem hm)
      exact Classical.byContradiction fun hc => by
        have h2 := (neP _ _).1 hc
        rw [h2] at this
        cases this)
    clear e1 hall
    go_wp2_with fail
    refine hI.mono ?_
    rintro e w2 ⟨rfl, hb3⟩
    go_wp2_with fail
    go_ret2
    exact ⟨⟨true, rfl, by simp; exact HS.out⟩, below_trans hb2 hb3⟩
  · rw [e1] at hI
    have hne : g2 l 0 ≠ g2 l k := by
      rw [g2_get hk]
      intro hc
      have hq' : (!(l[k].x == (g2 l 0).x && l[k].y == (g2 l 0).y)) = true := hq
      have h2 : (l[k].x == (g2 l 0).x && l[k].y == (g2 l 0).y) = false := by
        cases h : (l[k].x == (g2 l 0).x && l[k].y == (g2 l 0).y) with
        | false => rfl
        | true => rw [h] at hq'; cases hq'
      exact (neP _ _).2 h2 hc.symm
    have HNE := Lib.hid hne; clear hne hq e1
    go_wp2_with fail
    refine hI.mono ?_
    rintro e w2 ⟨rfl, hb3⟩
    have n0 : 0 < l.length := by omega
    have hT4 := HT.out.1.to (below_trans hb2 hb3)
    obtain ⟨b, o, rfl, -, c1, c2⟩ := g2_cells hT4 n0
    obtain ⟨b', o', e', -, c4, c5⟩ := g2_cells hT4 hk
    cases e'
    simp only [Nat.zero_mul, Nat.add_zero] at c1 c2
    have hcB := cell_to hc1 hb3
    have hB2 := below_trans hb2 hb3
    clear hI hc1 hT4 hb2 hb3
    have i2 : ((k : Int) < l.length) := by omega
    have i0 : ((0 : Int) < l.length) := by omega
    have n1 : l ≠ [] := by intro e; rw [e] at n0; exact Nat.lt_irrefl 0 n0
    have z2 : (0 : Int) ≤ (k : Int) := by omega
    have hv : N5 Bs b o (k * 2) l.length cap (g2 l 0) (g2 l k) w2 w2 := ⟨hcB, c1, c2, c4, c5, Below.refl _ _⟩
    have hlt : b < w2.heap.size := World.block_lt_of_cell? _ _ c1
    have hltB : Bs < w2.heap.size := World.block_lt_of_cell? _ _ hcB
    have hle : w2.heap.size ≤ w2.heap.size := Nat.le_refl _
    have HB := Lib.hid (And.intro (g2_bd HT.out.2 n0) (And.intro (g2_bd HT.out.2 hk) hB2))
    clear hB2
    go_wp2_with fail
    clear hcB c1 c2 c4 c5
    go_region_held3 (fun w => w.cell? ⟨Bs, 0, none⟩ = some (.slice (some ⟨b, o, none⟩) l.length cap) ∧ w.cell? ⟨b, o, none⟩ = some (.int .i64 (g2 l 0).x) ∧ w.cell? ⟨b, o + 1, none⟩ = some (.int .i64 (g2 l 0).y) ∧ w.cell? ⟨b, o + k * 2, none⟩ = some (.int .i64 (g2 l k).x) ∧ w.cell? ⟨b, o + k * 2 + 1, none⟩ = some (.int .i64 (g2 l k).y) ∧ Below w2.heap.size w2 w)
      (first | with_reducible exact N5.drew hv | with_reducible exact N5.alloc _ (N5.drew hv) | with_reducible exact N5.drew (N5.alloc _ hv) | with_reducible exact hv2 | with_reducible exact N5.alloc _ hv2 | with_reducible exact N5.drew (N5.alloc _ hv2) | exact N5.store _ _ hlt hltB hle hv2)
      (first | (go_at_call 46; (with_reducible refine (to_calls (g2 l 0) (g2 l k) _ (HB.out.1.mono (by omega)) (HB.out.2.1.mono (by omega))).mono ?_); rintro e w3 ⟨rfl, hb3⟩; have hv2 : N5 Bs b o (k * 2) l.length cap (g2 l 0) (g2 l k) w2 w3 := (by first | with_reducible exact N5.to hb3 (N5.drew hv) | with_reducible exact N5.to hb3 (N5.drew (N5.alloc _ hv)) | with_reducible exact N5.to hb3 (N5.alloc _ (N5.drew hv))); (try (have hn2 : Blk w3 w2.heap.size #[.int .i64 0, .int .i64 0] 81 := (by first | exact Blk.to (blk_new w2 #[.int .i64 0, .int .i64 0] 81) hb3 | exact Blk.to (show Blk (w2.alloc (.cells #[.int .i64 0, .int .i64 0] 81)).drew w2.heap.size #[.int .i64 0, .int .i64 0] 81 from blk_new w2 #[.int .i64 0, .int .i64 0] 81) hb3 | exact Blk.to (show Blk (w2.drew.alloc (.cells #[.int .i64 0, .int .i64 0] 81)) w2.heap.size #[.int .i64 0, .int .i64 0] 81 from blk_new w2.drew #[.int .i64 0, .int .i64 0] 81) hb3); have s0 : w3.cell? ⟨w2.heap.size, 0, none⟩ = some (.int .i64 0) := hn2.c 0 _ rfl; have s1 : w3.cell? ⟨w2.heap.size, 1, none⟩ = some (.int .i64 0) := hn2.c 1 _ rfl; have s3 := hn2.free 0; have s4 := hn2.free 1))))
    · -- the call ahead of the new block
      obtain ⟨B, hB⟩ : ∃ B, B = w3.heap.size := ⟨_, rfl⟩
      obtain ⟨W, hW⟩ : ∃ W, W = w3.alloc (B2 (sub (g2 l k) (g2 l 0)) 81) := ⟨_, rfl⟩
      have hx : Bx W B (sub (g2 l k) (g2 l 0)) := by rw [hW, hB]; exact bx_new _ _ _
      have hN5 : N5 Bs b o (k * 2) l.length cap (g2 l 0) (g2 l k) w2 W := by rw [hW]; exact N5.alloc _ hv2
      rw [← hW, ← hB]
      clear hW hB hv2 hv
      obtain ⟨nv, hnv⟩ : ∃ nv, sub (g2 l k) (g2 l 0) = nv := ⟨_, rfl⟩
      rw [hnv] at hx
      simp only [hnv]
      have HNV := Lib.hid hnv
      have HBN := Lib.hid (show Bd 200000 nv from hnv ▸ (HB.out.1.sub HB.out.2.1).mono (by omega))
      clear hnv
      have HX := Lib.hid hN5
      obtain ⟨hcB, -⟩ := hN5
      obtain ⟨x1, x2⟩ := hx
      go_wp2_with fail
      clear x1 x2 hcB
      go_loopg [32] l.length (fun g v wl => ∃ m : Nat, m + g = l.length ∧ v = .int .i64 m ∧ Below W.heap.size W wl ∧ ∀ m', m' < m → tw nv (sub (g2 l m') (g2 l 0)) = 0)
      case atStart => exact ⟨0, Nat.zero_add _, rfl, Below.refl _ _, fun m' h => absurd h (Nat.not_lt_zero _)⟩
      case round =>
        obtain ⟨m, hm, rfl, hbel, hz3⟩ := hrel
        have H3 := Lib.hid (And.intro hbel hz3)
        by_cases hlt3 : m < l.length
        · obtain ⟨hcB, c1, c2, -, -, hbw⟩ := N5.to hbel HX.out
          have HW := Lib.hid (below_trans HB.out.2.2 hbw)
          obtain ⟨b6, o6, e6, -, c4, c5⟩ := g2_cells (HT.out.1.to HW.out) hlt3
          cases e6
          clear hbel hz3 hbw
          have i3 : ((m : Int) < l.length) := by omega
          have z3 : (0 : Int) ≤ (m : Int) := by omega
          have HQ1 := Lib.hid (g2_bd HT.out.2 hlt3)
          go_wp2_with fail
          obtain ⟨W5, hW5⟩ : ∃ W5, W5 = wr.alloc (.cells #[.int .i64 (g2 l m).x, .int .i64 (g2 l m).y] 23) := ⟨_, rfl⟩
          obtain ⟨B5, hB5⟩ : ∃ B5, B5 = wr.heap.size := ⟨_, rfl⟩
          have hp5 : Bx W5 B5 (g2 l m) := by rw [hW5, hB5]; exact bx_new _ _ _
          have hbW5 : Below wr.heap.size wr W5 := by rw [hW5]; exact alloc_below _ _
          rw [← hW5, ← hB5]
          clear hW5 hB5
          have k1 := cell_regrown (cell_to c1 hbW5)
          have k2 := cell_regrown (cell_to c2 hbW5)
          have k3 := cell_regrown (cell_to hcB hbW5)
          obtain ⟨y1, y2⟩ := hp5
          have k4 := cell_regrown y1
          have k5 := cell_regrown y2
          clear c1 c2 c4 c5 hcB y1 y2
          have q1 : ∀ d os, Calls Tryz.prog 46 #[V (g2 l 0), V (g2 l m)] (grow (redrawn W5 d) os) fun e w'' => e = .returned (V (sub (g2 l m) (g2 l 0))) ∧ ∃ p : Regrown, w'' = grow (redrawn W5 p.d) p.os := fun d os => Calls.regrown_of (to_calls _ _ _ (HB.out.1.mono (by omega)) (HQ1.out.mono (by omega)))
          have q2 : ∀ d os, Calls Tryz.prog 74 #[V nv, V (sub (g2 l m) (g2 l 0))] (grow (redrawn W5 d) os) fun e w'' => e = .returned (.int .i64 (tw nv (sub (g2 l m) (g2 l 0)))) ∧ ∃ p : Regrown, w'' = grow (redrawn W5 p.d) p.os := fun d os => Calls.regrown_of (turn_calls _ _ _ (HBN.out.mono (by omega)) ((HB.out.1.sub HQ1.out).mono (by omega)))
          obtain ⟨s, hs⟩ : ∃ s, tw nv (sub (g2 l m) (g2 l 0)) = s := ⟨_, rfl⟩
          rw [hs] at q2
          have HS := Lib.hid hs; clear hs
          have HW5 := Lib.hid hbW5; clear hbW5
          cases hd : decide (s = 0) with
          | true =>
            have hs0 := of_decide_eq_true hd
            subst hs0
            refine wp_region_quiet_below follows (by kernel_rfl) ?_
            repeat (quiet_step (first | with_reducible exact q1 _ _ | with_reducible exact q2 _ _))
            refine wpQuiet_nil ?_
            intro _ hw'
            obtain ⟨⟨dq, osq⟩, hw''⟩ := hw'
            subst hw''
            go_wp2_with fail
            go_roundg (l.length - m - 1)
            case measure => omega
            case rel =>
              refine ⟨m + 1, by omega, by go_num, ?_, fun m' hm' => ?_⟩
              · exact H3.out.1.trans ((HW5.out.trans ((below_regrown W5 dq osq).mono HW5.out.size)).mono H3.out.1.size)
              · by_cases e : m' = m
                · subst e; exact HS.out
                · exact H3.out.2 m' (by omega)
          | false =>
            have hs0 := of_decide_eq_false hd
            refine wp_region_quiet_below follows (by kernel_rfl) ?_
            repeat (quiet_step (first | with_reducible exact q1 _ _ | with_reducible exact q2 _ _))
            refine wpQuiet_nil ?_
            intro _ hw'
            obtain ⟨⟨dq, osq⟩, hw''⟩ := hw'
            subst hw''
            go_wp2_with fail
            go_ret2
            exact ⟨⟨false, rfl, by simp; intro h; exact hs0 (HS.out ▸ HNV.out ▸ h 0 k m n0 hk hlt3)⟩, below_trans HW.out (HW5.out.trans ((below_regrown W5 dq osq).mono HW5.out.size))⟩
        · go_wp2_with fail
          go_ret2
          exact ⟨⟨true, rfl, by simp; exact str_line HNE.out fun m' h => by have := H3.out.2 m' (by omega); rw [← HNV.out] at this; exact this⟩, below_trans HB.out.2.2 ((N5.to hbel HX.out).bel)⟩
    · -- the new block ahead of the call
      obtain ⟨B, hB⟩ : ∃ B, B = w2.heap.size := ⟨_, rfl⟩
      obtain ⟨W, hW⟩ : ∃ W, W = (w3.setCell ⟨w2.heap.size, 0, none⟩ (.int .i64 (sub (g2 l k) (g2 l 0)).x)).setCell ⟨w2.heap.size, 1, none⟩ (.int .i64 (sub (g2 l k) (g2 l 0)).y) := ⟨_, rfl⟩
      have hn3 := (hn2.set 0 (.int .i64 (sub (g2 l k) (g2 l 0)).x)).set 1 (.int .i64 (sub (g2 l k) (g2 l 0)).y)
      have hx : Bx W B (sub (g2 l k) (g2 l 0)) := by rw [hW, hB]; exact ⟨hn3.c 0 _ rfl, hn3.c 1 _ rfl⟩
      have hN5 : N5 Bs b o (k * 2) l.length cap (g2 l 0) (g2 l k) w2 W := by rw [hW]; exact N5.store _ _ hlt hltB hle hv2
      rw [← hW, ← hB]
      clear hW hB hv2 hv hn2 hn3 s0 s1 s3 s4
      obtain ⟨nv, hnv⟩ : ∃ nv, sub (g2 l k) (g2 l 0) = nv := ⟨_, rfl⟩
      rw [hnv] at hx
      simp only [hnv]
      have HNV := Lib.hid hnv
      have HBN := Lib.hid (show Bd 200000 nv from hnv ▸ (HB.out.1.sub HB.out.2.1).mono (by omega))
      clear hnv
      have HX := Lib.hid hN5
      obtain ⟨hcB, -⟩ := hN5
      obtain ⟨x1, x2⟩ := hx
      go_wp2_with fail
      clear x1 x2 hcB
      go_loopg [32] l.length (fun g v wl => ∃ m : Nat, m + g = l.length ∧ v = .int .i64 m ∧ Below W.heap.size W wl ∧ ∀ m', m' < m → tw nv (sub (g2 l m') (g2 l 0)) = 0)
      case atStart => exact ⟨0, Nat.zero_add _, rfl, Below.refl _ _, fun m' h => absurd h (Nat.not_lt_zero _)⟩
      case round =>
        obtain ⟨m, hm, rfl, hbel, hz3⟩ := hrel
        have H3 := Lib.hid (And.intro hbel hz3)
        by_cases hlt3 : m < l.length
        · obtain ⟨hcB, c1, c2, -, -, hbw⟩ := N5.to hbel HX.out
          have HW := Lib.hid (below_trans HB.out.2.2 hbw)
          obtain ⟨b6, o6, e6, -, c4, c5⟩ := g2_cells (HT.out.1.to HW.out) hlt3
          cases e6
          clear hbel hz3 hbw
          have i3 : ((m : Int) < l.length) := by omega
          have z3 : (0 : Int) ≤ (m : Int) := by omega
          have HQ1 := Lib.hid (g2_bd HT.out.2 hlt3)
          go_wp2_with fail
          obtain ⟨W5, hW5⟩ : ∃ W5, W5 = wr.alloc (.cells #[.int .i64 (g2 l m).x, .int .i64 (g2 l m).y] 23) := ⟨_, rfl⟩
          obtain ⟨B5, hB5⟩ : ∃ B5, B5 = wr.heap.size := ⟨_, rfl⟩
          have hp5 : Bx W5 B5 (g2 l m) := by rw [hW5, hB5]; exact bx_new _ _ _
          have hbW5 : Below wr.heap.size wr W5 := by rw [hW5]; exact alloc_below _ _
          rw [← hW5, ← hB5]
          clear hW5 hB5
          have k1 := cell_regrown (cell_to c1 hbW5)
          have k2 := cell_regrown (cell_to c2 hbW5)
          have k3 := cell_regrown (cell_to hcB hbW5)
          obtain ⟨y1, y2⟩ := hp5
          have k4 := cell_regrown y1
          have k5 := cell_regrown y2
          clear c1 c2 c4 c5 hcB y1 y2
          have q1 : ∀ d os, Calls Tryz.prog 46 #[V (g2 l 0), V (g2 l m)] (grow (redrawn W5 d) os) fun e w'' => e = .returned (V (sub (g2 l m) (g2 l 0))) ∧ ∃ p : Regrown, w'' = grow (redrawn W5 p.d) p.os := fun d os => Calls.regrown_of (to_calls _ _ _ (HB.out.1.mono (by omega)) (HQ1.out.mono (by omega)))
          have q2 : ∀ d os, Calls Tryz.prog 74 #[V nv, V (sub (g2 l m) (g2 l 0))] (grow (redrawn W5 d) os) fun e w'' => e = .returned (.int .i64 (tw nv (sub (g2 l m) (g2 l 0)))) ∧ ∃ p : Regrown, w'' = grow (redrawn W5 p.d) p.os := fun d os => Calls.regrown_of (turn_calls _ _ _ (HBN.out.mono (by omega)) ((HB.out.1.sub HQ1.out).mono (by omega)))
          obtain ⟨s, hs⟩ : ∃ s, tw nv (sub (g2 l m) (g2 l 0)) = s := ⟨_, rfl⟩
          rw [hs] at q2
          have HS := Lib.hid hs; clear hs
          have HW5 := Lib.hid hbW5; clear hbW5
          cases hd : decide (s = 0) with
          | true =>
            have hs0 := of_decide_eq_true hd
            subst hs0
            refine wp_region_quiet_below follows (by kernel_rfl) ?_
            repeat (quiet_step (first | with_reducible exact q1 _ _ | with_reducible exact q2 _ _))
            refine wpQuiet_nil ?_
            intro _ hw'
            obtain ⟨⟨dq, osq⟩, hw''⟩ := hw'
            subst hw''
            go_wp2_with fail
            go_roundg (l.length - m - 1)
            case measure => omega
            case rel =>
              refine ⟨m + 1, by omega, by go_num, ?_, fun m' hm' => ?_⟩
              · exact H3.out.1.trans ((HW5.out.trans ((below_regrown W5 dq osq).mono HW5.out.size)).mono H3.out.1.size)
              · by_cases e : m' = m
                · subst e; exact HS.out
                · exact H3.out.2 m' (by omega)
          | false =>
            have hs0 := of_decide_eq_false hd
            refine wp_region_quiet_below follows (by kernel_rfl) ?_
            repeat (quiet_step (first | with_reducible exact q1 _ _ | with_reducible exact q2 _ _))
            refine wpQuiet_nil ?_
            intro _ hw'
            obtain ⟨⟨dq, osq⟩, hw''⟩ := hw'
            subst hw''
            go_wp2_with fail
            go_ret2
            exact ⟨⟨false, rfl, by simp; intro h; exact hs0 (HS.out ▸ HNV.out ▸ h 0 k m n0 hk hlt3)⟩, below_trans HW.out (HW5.out.trans ((below_regrown W5 dq osq).mono HW5.out.size))⟩
        · go_wp2_with fail
          go_ret2
          exact ⟨⟨true, rfl, by simp; exact str_line HNE.out fun m' h => by have := H3.out.2 m' (by omega); rw [← HNV.out] at this; exact this⟩, below_trans HB.out.2.2 ((N5.to hbel HX.out).bel)⟩

end Go.Proofs.YtbemnlmgemafkaaGreatDoor
