/- Package profile: Check. -/
import Derived.Test.YtgdlfjofefhdoaaGreatDoorProfA
import Derived.Test.YtgdlfjofefhdoaaGreatDoorPapA
namespace Go.Proofs.YtgdlfjofefhdoaaGreatDoor
open Go.RowKit Go.Sort Go.Lib Go.Shelf Mb

attribute [local go_sem] Oper.semAt_some

theorem frz_to {w w' : World} {b i j : Nat} {v : Value} (h : w.cell? ⟨b, i, none⟩ = some v) (hf : w.frozen? ⟨b, j, none⟩ = false) (hb : Below w.heap.size w w') : w'.frozen? ⟨b, j, none⟩ = false := by
  have hlt := World.block_lt_of_cell? _ _ h
  have := hb.block b hlt
  simp only [World.frozen?] at hf ⊢
  rw [this]; exact hf

/-- a segment whose ends are one point -/
def twB (l : List P2) (c : Bool) : Bool := (List.range (segM l.length c)).any fun i => decide (g2 l i = g2 l ((i + 1) % l.length))
def twE (l : List P2) (c : Bool) : Int := if twB l c = true then 7 else 0
/-- a polyline's error -/
def pErr (l : List P2) (c : Bool) : Int := if errL l = 0 then (if l.length < 2 ∨ (c = true ∧ l.length < 3) then 13 else twE l c) else errL l

/-- the cells of a list's points, as the iterator asks for them -/
theorem sl_low {l : List P2} {a : Option Addr} {w W : World} (hT : Sl2 w a l) (hb : Below w.heap.size w W) : ∀ i, i < l.length → ∃ b o, a = some ⟨b, o, none⟩ ∧ b < w.heap.size ∧ W.cell? ⟨b, o + i * 2, none⟩ = some (.int .i64 (g2 l i).x) ∧ W.cell? ⟨b, o + i * 2 + 1, none⟩ = some (.int .i64 (g2 l i).y) := fun i hi => by
  obtain ⟨b, o, e, hlt, c1, c2⟩ := g2_cells hT hi
  exact ⟨b, o, e, hlt, cell_to c1 hb, cell_to c2 hb⟩

set_option maxRecDepth 100000 in
set_option maxHeartbeats 4000000 in
theorem pcheck_c (l : List P2) (a : Option Addr) (cap : Nat) (w : World) (hT : Sl2 w a l) (hn : l.length ≤ 64) (he : errOf l = 0) (h2 : 3 ≤ l.length) :
    Calls Tryz.prog 38 #[.slice a l.length cap, .bool true] w fun e w' => e = .returned (.int .i64 (twE l true)) ∧ Below w.heap.size w w' := by
  have hal := alloc_below w (.cells #[.int .i64 0] 25)
  have H := checkP_calls l a cap (w.alloc (.cells #[.int .i64 0] 25)) (hT.to hal) (by omega)
  have hL : errL l = 0 := by unfold errL; rw [if_neg (by omega), he]
  rw [hL] at H
  have i1 : ¬ (l.length : Int) < 2 := by omega
  have i2 : ¬ l.length < 2 := by omega
  have d1 : decide ((l.length : Int) < 2) = false := decide_eq_false i1
  have d2 : decide (l.length < 2) = false := decide_eq_false i2
  have i3 : ¬ (l.length : Int) < 3 := by omega
  have i4 : ¬ l.length < 3 := by omega
  have d3 : decide ((l.length : Int) < 3) = false := decide_eq_false i3
  have d4 : decide (l.length < 3) = false := decide_eq_false i4
  refine (callsIn_wide (n := 10)).1 ?_
  refine callsIn_of_wp_marks Tryz.func38 rfl trivial ?_ rfl
  simp only [Tryz.ntmps38, List.size_toArray, List.length_cons, List.length_nil, Nat.reduceAdd, Nat.reduceSub, Array.replicate_succ, Array.replicate_zero, List.push_toArray, List.append_toArray, List.nil_append, List.cons_append]
  have f41 : Fence.wide.fn 89 := trivial
  have f72 : Fence.wide.fn 94 := trivial
  have HT := Lib.hid hT; clear hT
  have hcS := cell_new w #[.int .i64 0] 25 0 _ rfl
  have hfS : (w.alloc (.cells #[.int .i64 0] 25)).frozen? ⟨w.heap.size, 0, none⟩ = false := (blk_new w #[.int .i64 0] 25).free 0
  have HS := Lib.hid (And.intro hcS (And.intro hfS hal)); clear hcS hfS hal
  gi_wp2_with (gi_at_call 89; refine (callsIn_wide.2 H).mono ?_; rintro e w1 ⟨rfl, hb1⟩)
  gi_wp2_with (gi_at_call 94; refine (segments_in Fence.wide _ trivial rfl _ _ _ _ _).mono ?_; rintro e w2 ⟨rfl, rfl⟩)
  have hB2 : Below w1.heap.size w1 ((w1.alloc (.cells #[.slice a l.length cap] 54)).alloc (.cells #[.bool true] 4)) := below2 _ _ _
  have hB0 := below_trans (below_trans HS.out.2.2 hb1) hB2
  have hT1 := sl_low HT.out hB0
  have hcB := cell_to (cell_new w1 #[.slice a l.length cap] 54 0 _ rfl) (alloc_below _ (.cells #[.bool true] 4))
  have hcC := cell_new (w1.alloc (.cells #[.slice a l.length cap] 54)) #[.bool true] 4 0 _ rfl
  rw [size_alloc1] at hcC
  have hcS := cell_to (cell_to HS.out.1 hb1) hB2
  have hfS := frz_to HS.out.1 HS.out.2.1 (below_trans hb1 hB2)
  have hlt1 : w.heap.size < w1.heap.size := World.block_lt_of_cell? _ _ (cell_to HS.out.1 hb1)
  have hsz : ((w1.alloc (.cells #[.slice a l.length cap] 54)).alloc (.cells #[.bool true] 4)).heap.size = w1.heap.size + 2 := by simp
  obtain ⟨W0, hW0⟩ : ∃ W0, ((w1.alloc (.cells #[.slice a l.length cap] 54)).alloc (.cells #[.bool true] 4)) = W0 := ⟨_, rfl⟩
  rw [hW0] at hcB hcC hcS hfS hB0 hsz ⊢
  simp only [hW0] at hT1
  clear hW0 H hB2 HS hb1
  refine wpIn_rangeFunc_ownH rfl (by decide) (gf := 142) (lb := #[.pointer (some ⟨w1.heap.size, 0, none⟩), .pointer (some ⟨w1.heap.size + 1, 0, none⟩)]) rfl trivial (enters_of Tryz.func142 (by kernel_rfl) rfl)
    (segments_stops Fence.wide 9 trivial rfl (by decide) w1.heap.size w.heap.size a cap l true he hn W0 hcB hcC hT1) (fun h k => kep_t h k) (fun W lp o o' _ h1 h2 _ => kep_b W lp o o' h1 h2) (Below.refl _ _) (fun _ => rfl)
    (fun pre W => ((∀ x ∈ pre, x.1.2.1 ≠ x.1.2.2) ∧ W.cell? ⟨w.heap.size, 0, none⟩ = some (.int .i64 0) ∧ W.frozen? ⟨w.heap.size, 0, none⟩ = false) ∧ Below w.heap.size w W)
    (fun c pre W => (c = .ret ∧ (∃ x ∈ pre, x.1.2.1 = x.1.2.2) ∧ W.cell? ⟨w.heap.size, 0, none⟩ = some (.int .i64 7)) ∧ Below w.heap.size w W)
    (OwnFrom.and (Own.from (fun s A B row hs hg hr => ⟨hs.1, cell_kept hs.2.1 hg hr, (frozen_kept hs.2.1 hg hr).trans hs.2.2⟩) _) (ownFrom_below (Nat.le_refl _) (by omega)))
    (fun c => OwnFrom.and (Own.from (fun s A B row hs hg hr => ⟨hs.1, hs.2.1, cell_kept hs.2.2 hg hr⟩) _) (ownFrom_below (Nat.le_refl _) (by omega)))
    ⟨⟨fun _ h => (by cases h), hcS, hfS⟩, hB0⟩
    (fun x a' W => ∃ A, (W.cell? ⟨A, 0, none⟩ = some (.int .i64 x.1.2.1.x) ∧ W.cell? ⟨A, 1, none⟩ = some (.int .i64 x.1.2.1.y) ∧ W.cell? ⟨A, 2, none⟩ = some (.int .i64 x.1.2.2.x) ∧ W.cell? ⟨A, 3, none⟩ = some (.int .i64 x.1.2.2.y)) ∧ a' = { tmps := #[.slice a l.length cap, .bool true, undef, undef, .pointer (some ⟨w.heap.size, 0, none⟩), .int .i64 0, undef, .pointer (some ⟨A, 0, none⟩), .slice a l.length cap, .int .i64 0, .int .i64 0, .bool false, undef, .slice a l.length cap, .int .i64 l.length, .bool false, .bool false, .bool true, .bool true, .slice a l.length cap, .int .i64 l.length, .bool false, .bool false, .bool false, .slice a l.length cap, .bool true, .func (.func 142) #[] #[.pointer (some ⟨w1.heap.size, 0, none⟩), .pointer (some ⟨w1.heap.size + 1, 0, none⟩)], .int .i64 x.1.1, V22 x.1.2.1 x.1.2.2, undef, undef, undef, undef, undef], defers := [] })
    (fun x a' _ X Y row hs hg hr => by
      obtain ⟨A, ⟨k1, k2, k3, k4⟩, h3⟩ := hs
      exact ⟨A, ⟨cell_kept k1 hg (fun r e => (hr r e).2), cell_kept k2 hg (fun r e => (hr r e).2), cell_kept k3 hg (fun r e => (hr r e).2), cell_kept k4 hg (fun r e => (hr r e).2)⟩, h3⟩)
    ?assign ?body ?done ?stop
  case assign =>
    rintro lp pre x W K ⟨⟨hall, cS, fS⟩, hB1⟩ hK
    gi_wp2
    exact hK _ _ ((KeepsOthers.alloc _ _).from _) (kep_below (alloc_below _ _)) ⟨⟨hall, cell_to cS (alloc_below _ _), frz_to cS fS (alloc_below _ _)⟩, hB1.trans ((alloc_below _ _).mono hB1.size)⟩
      ⟨W.heap.size, ⟨cell_new _ _ _ _ _ rfl, cell_new _ _ _ _ _ rfl, cell_new _ _ _ _ _ rfl, cell_new _ _ _ _ _ rfl⟩, rfl⟩
  case body =>
    rintro lp pre ⟨⟨i, p, q⟩, hx⟩ a' W hlp - ⟨⟨hall, cS, fS⟩, hB1⟩ ⟨A, ⟨k1, k2, k3, k4⟩, rfl⟩ hlt
    simp only at k1 k2 k3 k4 ⊢
    by_cases hpq : p = q
    · have heq := fun w => eqPoint 9998 w p.x p.y q.x q.y
      rw [show (p.x == q.x && p.y == q.y) = true by rw [hpq]; simp] at heq
      simp only [Nat.reduceAdd] at heq
      have HP := Lib.hid (And.intro hpq (And.intro hall hB1)); clear hpq hall hB1
      gi_wp2
      exact ⟨(KeepsOthers.setCell _ _ _).from _, ⟨rfl, ⟨⟨⟨i, p, q⟩, hx⟩, by simp, HP.out.1⟩, World.cell?_setCell_same' _ _ _ (by rw [cS]; rfl)⟩, HP.out.2.2.setCell (p := ⟨w.heap.size, 0, none⟩) (Nat.le_refl _) _⟩
    · have hbe : (p.x == q.x && p.y == q.y) = false := by
        rw [Bool.and_eq_false_iff, beq_eq_false_iff_ne, beq_eq_false_iff_ne]
        by_cases h : p.x = q.x
        · right; intro h2; apply hpq; obtain ⟨_, _⟩ := p; obtain ⟨_, _⟩ := q; simp_all
        · left; exact h
      have heq := fun w => eqPoint 9998 w p.x p.y q.x q.y
      rw [hbe] at heq
      simp only [Nat.reduceAdd] at heq
      have HP := Lib.hid (And.intro hpq (And.intro hall hB1)); clear hpq hall hB1 hbe
      gi_wp2
      exact ⟨KeepsFrom.of_grownBy (row := none) (gb_below (Below.refl _ _)) (fun j e => by cases e), kep_r, ⟨fun x hx' => by
        rcases List.mem_append.1 hx' with h | h
        · exact HP.out.2.1 x h
        · obtain rfl := List.mem_singleton.1 h; exact HP.out.1, cS, fS⟩, HP.out.2.2⟩
  case done =>
    rintro D xs W hD rfl ⟨⟨hall, cS, fS⟩, hB1⟩ hK
    have hv : twE l true = 0 := by
      unfold twE
      rw [if_neg]
      rw [Bool.not_eq_true]
      unfold twB
      rw [List.any_eq_false]
      intro i hi
      have h := hall (sq3 l he i) (upto_mem.2 ⟨i, List.mem_range.1 hi, rfl⟩)
      simpa [sq3] using h
    have HV := Lib.hid (And.intro hv hB1); clear hv hB1 hall
    gi_wp2
    have hK2 := (KeepsOthers.setCell W ⟨w.heap.size, 0, none⟩ (.int .i64 0)).same D _ hK rfl
    have hc6 : (W.setCell ⟨w.heap.size, 0, none⟩ (.int .i64 0)).cell? ⟨w.heap.size, 0, none⟩ = some (.int .i64 0) := World.cell?_setCell_same' _ _ _ (by rw [cS]; rfl)
    refine ⟨by simp, .inl ⟨_, _, rfl, run_takeDeferred hK2, ?_⟩⟩
    have hc5 := cell_kept hc6 (grownBy_putObj' _ D (.deferred none)) (fun r e => by cases e; exact ⟨_, hK2, rfl⟩)
    refine ⟨.int .i64 0, by simp [results, Tryz.results38, go_sem, hc5], by rw [HV.out.1], (HV.out.2.setCell (p := ⟨w.heap.size, 0, none⟩) (Nat.le_refl _) _).trans (belowK_b (w := w) (Nat.le_refl _) _ D _ _ (by omega) hK2 rfl rfl)⟩
  case stop =>
    rintro D c pre W hD ⟨k, hk, rfl⟩ ⟨⟨rfl, hex, cS⟩, hB1⟩ hK
    have hv : twE l true = 7 := by
      unfold twE
      rw [if_pos]
      obtain ⟨x, hx, hxe⟩ := hex
      obtain ⟨i, hi, rfl⟩ := upto_mem.1 hx
      unfold twB
      rw [List.any_eq_true]
      exact ⟨i, List.mem_range.2 (by omega), by simpa [sq3] using hxe⟩
    have HV := Lib.hid (And.intro hv hB1); clear hv hB1 hex
    gi_wp2
    refine ⟨by simp, .inl ⟨_, _, rfl, run_takeDeferred hK, ?_⟩⟩
    have hc5 := cell_kept cS (grownBy_putObj' _ D (.deferred none)) (fun r e => by cases e; exact ⟨_, hK, rfl⟩)
    refine ⟨.int .i64 7, by simp [results, Tryz.results38, go_sem, hc5], by rw [HV.out.1], HV.out.2.trans (belowK_b (w := w) (Nat.le_refl _) W D _ _ (by omega) hK rfl rfl)⟩

set_option maxRecDepth 100000 in
set_option maxHeartbeats 4000000 in
theorem pcheck_o (l : List P2) (a : Option Addr) (cap : Nat) (w : World) (hT : Sl2 w a l) (hn : l.length ≤ 64) (he : errOf l = 0) (h2 : 2 ≤ l.length) :
    Calls Tryz.prog 38 #[.slice a l.length cap, .bool false] w fun e w' => e = .returned (.int .i64 (twE l false)) ∧ Below w.heap.size w w' := by
  have hal := alloc_below w (.cells #[.int .i64 0] 25)
  have H := checkP_calls l a cap (w.alloc (.cells #[.int .i64 0] 25)) (hT.to hal) (by omega)
  have hL : errL l = 0 := by unfold errL; rw [if_neg (by omega), he]
  rw [hL] at H
  have i1 : ¬ (l.length : Int) < 2 := by omega
  have i2 : ¬ l.length < 2 := by omega
  have d1 : decide ((l.length : Int) < 2) = false := decide_eq_false i1
  have d2 : decide (l.length < 2) = false := decide_eq_false i2
  refine (callsIn_wide (n := 10)).1 ?_
  refine callsIn_of_wp_marks Tryz.func38 rfl trivial ?_ rfl
  simp only [Tryz.ntmps38, List.size_toArray, List.length_cons, List.length_nil, Nat.reduceAdd, Nat.reduceSub, Array.replicate_succ, Array.replicate_zero, List.push_toArray, List.append_toArray, List.nil_append, List.cons_append]
  have f41 : Fence.wide.fn 89 := trivial
  have f72 : Fence.wide.fn 94 := trivial
  have HT := Lib.hid hT; clear hT
  have hcS := cell_new w #[.int .i64 0] 25 0 _ rfl
  have hfS : (w.alloc (.cells #[.int .i64 0] 25)).frozen? ⟨w.heap.size, 0, none⟩ = false := (blk_new w #[.int .i64 0] 25).free 0
  have HS := Lib.hid (And.intro hcS (And.intro hfS hal)); clear hcS hfS hal
  gi_wp2_with (gi_at_call 89; refine (callsIn_wide.2 H).mono ?_; rintro e w1 ⟨rfl, hb1⟩)
  gi_wp2_with (gi_at_call 94; refine (segments_in Fence.wide _ trivial rfl _ _ _ _ _).mono ?_; rintro e w2 ⟨rfl, rfl⟩)
  have hB2 : Below w1.heap.size w1 ((w1.alloc (.cells #[.slice a l.length cap] 54)).alloc (.cells #[.bool false] 4)) := below2 _ _ _
  have hB0 := below_trans (below_trans HS.out.2.2 hb1) hB2
  have hT1 := sl_low HT.out hB0
  have hcB := cell_to (cell_new w1 #[.slice a l.length cap] 54 0 _ rfl) (alloc_below _ (.cells #[.bool false] 4))
  have hcC := cell_new (w1.alloc (.cells #[.slice a l.length cap] 54)) #[.bool false] 4 0 _ rfl
  rw [size_alloc1] at hcC
  have hcS := cell_to (cell_to HS.out.1 hb1) hB2
  have hfS := frz_to HS.out.1 HS.out.2.1 (below_trans hb1 hB2)
  have hlt1 : w.heap.size < w1.heap.size := World.block_lt_of_cell? _ _ (cell_to HS.out.1 hb1)
  have hsz : ((w1.alloc (.cells #[.slice a l.length cap] 54)).alloc (.cells #[.bool false] 4)).heap.size = w1.heap.size + 2 := by simp
  obtain ⟨W0, hW0⟩ : ∃ W0, ((w1.alloc (.cells #[.slice a l.length cap] 54)).alloc (.cells #[.bool false] 4)) = W0 := ⟨_, rfl⟩
  rw [hW0] at hcB hcC hcS hfS hB0 hsz ⊢
  simp only [hW0] at hT1
  clear hW0 H hB2 HS hb1
  refine wpIn_rangeFunc_ownH rfl (by decide) (gf := 142) (lb := #[.pointer (some ⟨w1.heap.size, 0, none⟩), .pointer (some ⟨w1.heap.size + 1, 0, none⟩)]) rfl trivial (enters_of Tryz.func142 (by kernel_rfl) rfl)
    (segments_stops Fence.wide 9 trivial rfl (by decide) w1.heap.size w.heap.size a cap l false he hn W0 hcB hcC hT1) (fun h k => kep_t h k) (fun W lp o o' _ h1 h2 _ => kep_b W lp o o' h1 h2) (Below.refl _ _) (fun _ => rfl)
    (fun pre W => ((∀ x ∈ pre, x.1.2.1 ≠ x.1.2.2) ∧ W.cell? ⟨w.heap.size, 0, none⟩ = some (.int .i64 0) ∧ W.frozen? ⟨w.heap.size, 0, none⟩ = false) ∧ Below w.heap.size w W)
    (fun c pre W => (c = .ret ∧ (∃ x ∈ pre, x.1.2.1 = x.1.2.2) ∧ W.cell? ⟨w.heap.size, 0, none⟩ = some (.int .i64 7)) ∧ Below w.heap.size w W)
    (OwnFrom.and (Own.from (fun s A B row hs hg hr => ⟨hs.1, cell_kept hs.2.1 hg hr, (frozen_kept hs.2.1 hg hr).trans hs.2.2⟩) _) (ownFrom_below (Nat.le_refl _) (by omega)))
    (fun c => OwnFrom.and (Own.from (fun s A B row hs hg hr => ⟨hs.1, hs.2.1, cell_kept hs.2.2 hg hr⟩) _) (ownFrom_below (Nat.le_refl _) (by omega)))
    ⟨⟨fun _ h => (by cases h), hcS, hfS⟩, hB0⟩
    (fun x a' W => ∃ A, (W.cell? ⟨A, 0, none⟩ = some (.int .i64 x.1.2.1.x) ∧ W.cell? ⟨A, 1, none⟩ = some (.int .i64 x.1.2.1.y) ∧ W.cell? ⟨A, 2, none⟩ = some (.int .i64 x.1.2.2.x) ∧ W.cell? ⟨A, 3, none⟩ = some (.int .i64 x.1.2.2.y)) ∧ a' = { tmps := #[.slice a l.length cap, .bool false, undef, undef, .pointer (some ⟨w.heap.size, 0, none⟩), .int .i64 0, undef, .pointer (some ⟨A, 0, none⟩), .slice a l.length cap, .int .i64 0, .int .i64 0, .bool false, undef, .slice a l.length cap, .int .i64 l.length, .bool false, .bool false, .bool false, .bool false, undef, undef, undef, .bool false, .bool false, .slice a l.length cap, .bool false, .func (.func 142) #[] #[.pointer (some ⟨w1.heap.size, 0, none⟩), .pointer (some ⟨w1.heap.size + 1, 0, none⟩)], .int .i64 x.1.1, V22 x.1.2.1 x.1.2.2, undef, undef, undef, undef, undef], defers := [] })
    (fun x a' _ X Y row hs hg hr => by
      obtain ⟨A, ⟨k1, k2, k3, k4⟩, h3⟩ := hs
      exact ⟨A, ⟨cell_kept k1 hg (fun r e => (hr r e).2), cell_kept k2 hg (fun r e => (hr r e).2), cell_kept k3 hg (fun r e => (hr r e).2), cell_kept k4 hg (fun r e => (hr r e).2)⟩, h3⟩)
    ?assign ?body ?done ?stop
  case assign =>
    rintro lp pre x W K ⟨⟨hall, cS, fS⟩, hB1⟩ hK
    gi_wp2
    exact hK _ _ ((KeepsOthers.alloc _ _).from _) (kep_below (alloc_below _ _)) ⟨⟨hall, cell_to cS (alloc_below _ _), frz_to cS fS (alloc_below _ _)⟩, hB1.trans ((alloc_below _ _).mono hB1.size)⟩
      ⟨W.heap.size, ⟨cell_new _ _ _ _ _ rfl, cell_new _ _ _ _ _ rfl, cell_new _ _ _ _ _ rfl, cell_new _ _ _ _ _ rfl⟩, rfl⟩
  case body =>
    rintro lp pre ⟨⟨i, p, q⟩, hx⟩ a' W hlp - ⟨⟨hall, cS, fS⟩, hB1⟩ ⟨A, ⟨k1, k2, k3, k4⟩, rfl⟩ hlt
    simp only at k1 k2 k3 k4 ⊢
    by_cases hpq : p = q
    · have heq := fun w => eqPoint 9998 w p.x p.y q.x q.y
      rw [show (p.x == q.x && p.y == q.y) = true by rw [hpq]; simp] at heq
      simp only [Nat.reduceAdd] at heq
      have HP := Lib.hid (And.intro hpq (And.intro hall hB1)); clear hpq hall hB1
      gi_wp2
      exact ⟨(KeepsOthers.setCell _ _ _).from _, ⟨rfl, ⟨⟨⟨i, p, q⟩, hx⟩, by simp, HP.out.1⟩, World.cell?_setCell_same' _ _ _ (by rw [cS]; rfl)⟩, HP.out.2.2.setCell (p := ⟨w.heap.size, 0, none⟩) (Nat.le_refl _) _⟩
    · have hbe : (p.x == q.x && p.y == q.y) = false := by
        rw [Bool.and_eq_false_iff, beq_eq_false_iff_ne, beq_eq_false_iff_ne]
        by_cases h : p.x = q.x
        · right; intro h2; apply hpq; obtain ⟨_, _⟩ := p; obtain ⟨_, _⟩ := q; simp_all
        · left; exact h
      have heq := fun w => eqPoint 9998 w p.x p.y q.x q.y
      rw [hbe] at heq
      simp only [Nat.reduceAdd] at heq
      have HP := Lib.hid (And.intro hpq (And.intro hall hB1)); clear hpq hall hB1 hbe
      gi_wp2
      exact ⟨KeepsFrom.of_grownBy (row := none) (gb_below (Below.refl _ _)) (fun j e => by cases e), kep_r, ⟨fun x hx' => by
        rcases List.mem_append.1 hx' with h | h
        · exact HP.out.2.1 x h
        · obtain rfl := List.mem_singleton.1 h; exact HP.out.1, cS, fS⟩, HP.out.2.2⟩
  case done =>
    rintro D xs W hD rfl ⟨⟨hall, cS, fS⟩, hB1⟩ hK
    have hv : twE l false = 0 := by
      unfold twE
      rw [if_neg]
      rw [Bool.not_eq_true]
      unfold twB
      rw [List.any_eq_false]
      intro i hi
      have h := hall (sq3 l he i) (upto_mem.2 ⟨i, List.mem_range.1 hi, rfl⟩)
      simpa [sq3] using h
    have HV := Lib.hid (And.intro hv hB1); clear hv hB1 hall
    gi_wp2
    have hK2 := (KeepsOthers.setCell W ⟨w.heap.size, 0, none⟩ (.int .i64 0)).same D _ hK rfl
    have hc6 : (W.setCell ⟨w.heap.size, 0, none⟩ (.int .i64 0)).cell? ⟨w.heap.size, 0, none⟩ = some (.int .i64 0) := World.cell?_setCell_same' _ _ _ (by rw [cS]; rfl)
    refine ⟨by simp, .inl ⟨_, _, rfl, run_takeDeferred hK2, ?_⟩⟩
    have hc5 := cell_kept hc6 (grownBy_putObj' _ D (.deferred none)) (fun r e => by cases e; exact ⟨_, hK2, rfl⟩)
    refine ⟨.int .i64 0, by simp [results, Tryz.results38, go_sem, hc5], by rw [HV.out.1], (HV.out.2.setCell (p := ⟨w.heap.size, 0, none⟩) (Nat.le_refl _) _).trans (belowK_b (w := w) (Nat.le_refl _) _ D _ _ (by omega) hK2 rfl rfl)⟩
  case stop =>
    rintro D c pre W hD ⟨k, hk, rfl⟩ ⟨⟨rfl, hex, cS⟩, hB1⟩ hK
    have hv : twE l false = 7 := by
      unfold twE
      rw [if_pos]
      obtain ⟨x, hx, hxe⟩ := hex
      obtain ⟨i, hi, rfl⟩ := upto_mem.1 hx
      unfold twB
      rw [List.any_eq_true]
      exact ⟨i, List.mem_range.2 (by omega), by simpa [sq3] using hxe⟩
    have HV := Lib.hid (And.intro hv hB1); clear hv hB1 hex
    gi_wp2
    refine ⟨by simp, .inl ⟨_, _, rfl, run_takeDeferred hK, ?_⟩⟩
    have hc5 := cell_kept cS (grownBy_putObj' _ D (.deferred none)) (fun r e => by cases e; exact ⟨_, hK, rfl⟩)
    refine ⟨.int .i64 7, by simp [results, Tryz.results38, go_sem, hc5], by rw [HV.out.1], HV.out.2.trans (belowK_b (w := w) (Nat.le_refl _) W D _ _ (by omega) hK rfl rfl)⟩

/-- where Check answers ahead of its loop: the list's error -/
theorem pcheck_err (l : List P2) (a : Option Addr) (cap : Nat) (c : Bool) (w : World) (hT : Sl2 w a l) (hn : l.length ≤ 1000000) (h : errL l ≠ 0) :
    Calls Tryz.prog 38 #[.slice a l.length cap, .bool c] w fun e w' => e = .returned (.int .i64 (errL l)) ∧ Below w.heap.size w w' := by
  have hal := alloc_below w (.cells #[.int .i64 0] 25)
  have H := checkP_calls l a cap (w.alloc (.cells #[.int .i64 0] 25)) (hT.to hal) (by omega)
  have hg := blk_new w #[.int .i64 0] 25
  have HS := Lib.hid (And.intro hg hal); clear hg hal hT
  obtain ⟨r, hr⟩ : ∃ r, errL l = r := ⟨_, rfl⟩
  rw [hr] at H h ⊢
  clear hr
  go_enter Tryz.func38, Tryz.ntmps38
  go_wp2_with fail
  refine H.mono ?_
  rintro e w1 ⟨rfl, hb1⟩
  clear H
  have g4 := HS.out.1.to hb1
  have f0 := g4.free 0
  have e0 := g4.c 0 _ rfl
  go_wp2_with fail
  have r0 := (g4.set 0 (.int .i64 r)).c 0 _ rfl
  refine bodyPost_ret (v := .int .i64 r) (by simp [results, Tryz.results38, go_sem, r0]; done) rfl ⟨rfl, ?_⟩
  exact (below_trans HS.out.2 hb1).setCell (p := ⟨w.heap.size, 0, none⟩) (Nat.le_refl _) _

/-- .. too few points -/
theorem pcheck_few (l : List P2) (a : Option Addr) (cap : Nat) (c : Bool) (w : World) (hT : Sl2 w a l) (hn : l.length ≤ 1000000) (h : errL l = 0) (h2 : l.length < 2 ∨ (c = true ∧ l.length < 3)) :
    Calls Tryz.prog 38 #[.slice a l.length cap, .bool c] w fun e w' => e = .returned (.int .i64 13) ∧ Below w.heap.size w w' := by
  have hal := alloc_below w (.cells #[.int .i64 0] 25)
  have H := checkP_calls l a cap (w.alloc (.cells #[.int .i64 0] 25)) (hT.to hal) (by omega)
  have hg := blk_new w #[.int .i64 0] 25
  have HS := Lib.hid (And.intro hg hal); clear hg hal hT
  rw [h] at H
  clear h
  by_cases h3 : l.length < 2
  · have d1 : decide ((l.length : Int) < 2) = true := decide_eq_true (by omega)
    have d2 : decide (l.length < 2) = true := decide_eq_true h3
    clear h2 h3
    go_enter Tryz.func38, Tryz.ntmps38
    go_wp2_with fail
    refine H.mono ?_
    rintro e w1 ⟨rfl, hb1⟩
    clear H
    have g4 := HS.out.1.to hb1
    have f0 := g4.free 0
    have e0 := g4.c 0 _ rfl
    go_wp2_with fail
    have r0 := (g4.set 0 (.int .i64 13)).c 0 _ rfl
    refine bodyPost_ret (v := .int .i64 13) (by simp [results, Tryz.results38, go_sem, r0]; done) rfl ⟨rfl, ?_⟩
    exact (below_trans HS.out.2 hb1).setCell (p := ⟨w.heap.size, 0, none⟩) (Nat.le_refl _) _
  · obtain ⟨rfl, h4⟩ := h2.resolve_left h3
    have d1 : decide ((l.length : Int) < 2) = false := decide_eq_false (by omega)
    have d2 : decide (l.length < 2) = false := decide_eq_false h3
    have d3 : decide ((l.length : Int) < 3) = true := decide_eq_true (by omega)
    have d4 : decide (l.length < 3) = true := decide_eq_true h4
    clear h2 h3 h4
    go_enter Tryz.func38, Tryz.ntmps38
    go_wp2_with fail
    refine H.mono ?_
    rintro e w1 ⟨rfl, hb1⟩
    clear H
    have g4 := HS.out.1.to hb1
    have f0 := g4.free 0
    have e0 := g4.c 0 _ rfl
    go_wp2_with fail
    have r0 := (g4.set 0 (.int .i64 13)).c 0 _ rfl
    refine bodyPost_ret (v := .int .i64 13) (by simp [results, Tryz.results38, go_sem, r0]; done) rfl ⟨rfl, ?_⟩
    exact (below_trans HS.out.2 hb1).setCell (p := ⟨w.heap.size, 0, none⟩) (Nat.le_refl _) _

theorem errL_ok {l : List P2} (h : errL l = 0) : l.length ≤ 64 ∧ errOf l = 0 := by
  unfold errL at h
  split at h
  · cases h
  · exact ⟨by omega, h⟩

/-- Check, every polyline -/
theorem pcheck_calls (l : List P2) (a : Option Addr) (cap : Nat) (c : Bool) (w : World) (hT : Sl2 w a l) (hn : l.length ≤ 1000000) :
    Calls Tryz.prog 38 #[.slice a l.length cap, .bool c] w fun e w' => e = .returned (.int .i64 (pErr l c)) ∧ Below w.heap.size w w' := by
  unfold pErr
  by_cases h : errL l = 0
  · rw [if_pos h]
    by_cases h2 : l.length < 2 ∨ (c = true ∧ l.length < 3)
    · rw [if_pos h2]; exact pcheck_few l a cap c w hT hn h h2
    · rw [if_neg h2]
      obtain ⟨h64, he⟩ := errL_ok h
      cases c with
      | true => exact pcheck_c l a cap w hT h64 he (Nat.le_of_not_lt fun e => h2 (.inr ⟨rfl, e⟩))
      | false => exact pcheck_o l a cap w hT h64 he (Nat.le_of_not_lt fun e => h2 (.inl e))
  · rw [if_neg h]; exact pcheck_err l a cap c w hT hn h

end Go.Proofs.YtgdlfjofefhdoaaGreatDoor
