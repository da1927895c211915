/- Package vector: Area, a range over the sides of a polygon. -/
import Derived.Test.YtbemnlmgemafkaaGreatDoorAreaI
namespace Go.Proofs.YtbemnlmgemafkaaGreatDoor
open Go.RowKit Go.Sort Go.Lib Go.Shelf Mb

attribute [local go_sem] Oper.semAt_some

theorem edges_stops (F : Fence) (n : Nat) (hF : F.fn 114) (hro : F.round = none) (hn : 1 ≤ n) (Bs n₀ : Nat) (a : Option Addr) (cap : Nat) (l : List P2) (h : errOf l = 0) (hl : l.length ≤ 64) (w : World) 
    (hBs : w.cell? ⟨Bs, 0, none⟩ = some (.slice a l.length cap)) (hT : ∀ i, i < l.length → ∃ b o, a = some ⟨b, o, none⟩ ∧ b < n₀ ∧ w.cell? ⟨b, o + i * 2, none⟩ = some (.int .i64 (g2 l i).x) ∧ w.cell? ⟨b, o + i * 2 + 1, none⟩ = some (.int .i64 (g2 l i).y)) :
    SeqStopsK F n Tryz.prog 114 #[.pointer (some ⟨Bs, 0, none⟩)] (fun x : E2 => #[V x.1.1, V x.1.2]) (Kep n₀ Bs) (fun ys => ys = upto (sd l h) l.length) (fun _ => True) l.length w := fun lp J Jx W hW hJ _ hY h0 =>
  edges1_in F n hF hro hn lp Bs n₀ W.heap.size a cap l h hl J Jx hJ hY W (cell_to hBs hW) (fun i hi => by
    obtain ⟨b, o, e, hb, c1, c2⟩ := hT i hi
    exact ⟨b, o, e, hb, cell_to c1 hW, cell_to c2 hW⟩) h0

theorem frz_to {w w' : World} {b i j : Nat} {v : Value} (h : w.cell? ⟨b, i, none⟩ = some v) (hf : w.frozen? ⟨b, j, none⟩ = false) (hb : Below w.heap.size w w') : w'.frozen? ⟨b, j, none⟩ = false := by
  have hlt := World.block_lt_of_cell? _ _ h
  have := hb.block b hlt
  simp only [World.frozen?] at hf ⊢
  rw [this]; exact hf

theorem kep_set {n₀ Bs S : Nat} {w : World} {v : Value} (h1 : n₀ ≤ S) (h2 : S ≠ Bs) : Kep n₀ Bs w (w.setCell ⟨S, 0, none⟩ v) := fun b i u hb hc => by
  rw [World.cell?_setCell_other]
  · exact hc
  · intro e
    injection e with e1 e2 e3
    omega

set_option maxRecDepth 100000 in
set_option maxHeartbeats 4000000 in
theorem area_calls (l : List P2) (a : Option Addr) (cap : Nat) (w : World) (hT : Sl2 w a l) (hn : l.length ≤ 64) (he : errOf l = 0) :
    Calls Tryz.prog 29 #[.slice a l.length cap] w fun e w' => e = .returned (.tuple #[.int .i64 (areaOf l), .int .i64 0]) ∧ Below w.heap.size w w' := by
  have H := checkP_calls l a cap w hT (by omega)
  have hL : errL l = 0 := by unfold errL; rw [if_neg (by omega), he]
  rw [hL] at H
  refine (callsIn_wide (n := 10)).1 ?_
  refine callsIn_of_wp_marks Tryz.func29 rfl trivial ?_ rfl
  simp only [Tryz.ntmps29, List.size_toArray, List.length_cons, List.length_nil, Nat.reduceAdd, Nat.reduceSub, Array.replicate_succ, Array.replicate_zero, List.push_toArray, List.append_toArray, List.nil_append, List.cons_append]
  have f41 : Fence.wide.fn 41 := trivial
  have f72 : Fence.wide.fn 72 := trivial
  have HT := Lib.hid hT; clear hT
  gi_wp2_with (gi_at_call 41; refine (callsIn_wide.2 H).mono ?_; rintro e w1 ⟨rfl, hb1⟩)
  gi_wp2_with (gi_at_call 72; refine (edges_in Fence.wide _ trivial rfl _ _ _ _).mono ?_; rintro e w2 ⟨rfl, rfl⟩)
  have hT1 : ∀ i, i < l.length → ∃ b o, a = some ⟨b, o, none⟩ ∧ b < w1.heap.size ∧ ((w1.alloc (.cells #[.int .i64 0] 3)).alloc (.cells #[.slice a l.length cap] 57)).cell? ⟨b, o + i * 2, none⟩ = some (.int .i64 (g2 l i).x) ∧ ((w1.alloc (.cells #[.int .i64 0] 3)).alloc (.cells #[.slice a l.length cap] 57)).cell? ⟨b, o + i * 2 + 1, none⟩ = some (.int .i64 (g2 l i).y) := fun i hi => by
    obtain ⟨b, o, e, hb, c1, c2⟩ := g2_cells (HT.out.to hb1) hi
    exact ⟨b, o, e, hb, cell_to c1 (below2 _ _ _), cell_to c2 (below2 _ _ _)⟩
  have hcB : ((w1.alloc (.cells #[.int .i64 0] 3)).alloc (.cells #[.slice a l.length cap] 57)).cell? ⟨w1.heap.size + 1, 0, none⟩ = some (.slice a l.length cap) := by
    have := cell_new (w1.alloc (.cells #[.int .i64 0] 3)) #[.slice a l.length cap] 57 0 _ rfl
    rwa [size_alloc1] at this
  have hcS0 := cell_new w1 #[.int .i64 0] 3 0 _ rfl
  have hfS0 : (w1.alloc (.cells #[.int .i64 0] 3)).frozen? ⟨w1.heap.size, 0, none⟩ = false := (blk_new w1 #[.int .i64 0] 3).free 0
  have hcS := cell_to hcS0 (alloc_below _ (.cells #[.slice a l.length cap] 57))
  have hfS := frz_to hcS0 hfS0 (alloc_below _ (.cells #[.slice a l.length cap] 57))
  have hB0 : Below w1.heap.size w1 ((w1.alloc (.cells #[.int .i64 0] 3)).alloc (.cells #[.slice a l.length cap] 57)) := below2 _ _ _
  have hsz : ((w1.alloc (.cells #[.int .i64 0] 3)).alloc (.cells #[.slice a l.length cap] 57)).heap.size = w1.heap.size + 2 := by simp
  obtain ⟨W0, hW0⟩ : ∃ W0, ((w1.alloc (.cells #[.int .i64 0] 3)).alloc (.cells #[.slice a l.length cap] 57)) = W0 := ⟨_, rfl⟩
  rw [hW0] at hcB hcS hfS hB0 hsz ⊢
  simp only [hW0] at hT1
  clear hW0 hcS0 hfS0 H
  refine wpIn_rangeFunc_ownH rfl (by decide) (gf := 114) (lb := #[.pointer (some ⟨w1.heap.size + 1, 0, none⟩)]) rfl trivial (enters_of Tryz.func114 (by kernel_rfl) rfl)
    (edges_stops Fence.wide 9 trivial rfl (by decide) (w1.heap.size + 1) w1.heap.size a cap l he hn W0 hcB hT1) (fun h k => kep_t h k) (fun W lp o o' _ h1 h2 _ => kep_b W lp o o' h1 h2) (Below.refl _ _) (fun _ => rfl)
    (fun pre W => (W.cell? ⟨w1.heap.size, 0, none⟩ = some (.int .i64 (sumE pre)) ∧ W.frozen? ⟨w1.heap.size, 0, none⟩ = false) ∧ Below w1.heap.size w1 W)
    (fun _ _ _ => False)
    (OwnFrom.and (Own.from (fun s A B row hs hg hr => ⟨cell_kept hs.1 hg hr, (frozen_kept hs.1 hg hr).trans hs.2⟩) _) (ownFrom_below (Nat.le_refl _) (by omega)))
    (fun _ _ _ _ _ hs _ _ => hs)
    ⟨⟨hcS, hfS⟩, hB0⟩
    (fun x a' W => ∃ A B, (w1.heap.size < A ∧ w1.heap.size < B) ∧ (Bx W A x.1.1 ∧ Bx W B x.1.2) ∧ a' = { tmps := #[.slice a l.length cap, undef, .int .i64 0, .int .i64 0, .int .i64 0, .pointer (some ⟨w1.heap.size, 0, none⟩), .pointer (some ⟨A, 0, none⟩), .pointer (some ⟨B, 0, none⟩), .slice a l.length cap, .int .i64 0, .int .i64 0, .bool false, undef, .slice a l.length cap, .func (.func 114) #[] #[.pointer (some ⟨w1.heap.size + 1, 0, none⟩)], V x.1.1, V x.1.2, undef, undef, undef, undef, undef, undef, undef, undef], defers := [] })
    (fun x a' _ X Y row hs hg hr => by
      obtain ⟨A, B, h1, ⟨⟨c1, c2⟩, c3, c4⟩, h3⟩ := hs
      exact ⟨A, B, h1, ⟨⟨cell_kept c1 hg (fun r e => (hr r e).2), cell_kept c2 hg (fun r e => (hr r e).2)⟩, cell_kept c3 hg (fun r e => (hr r e).2), cell_kept c4 hg (fun r e => (hr r e).2)⟩, h3⟩)
    ?assign ?body ?done ?stop
  case assign =>
    rintro lp pre x W K ⟨⟨cS, fS⟩, hB1⟩ hK
    have hlt := World.block_lt_of_cell? _ _ cS
    gi_wp2
    exact hK _ _ (((KeepsOthers.alloc _ _).trans (KeepsOthers.alloc _ _)).from _) (kep_below (below2 _ _ _)) ⟨⟨cell_to cS (below2 _ _ _), frz_to cS fS (below2 _ _ _)⟩, hB1.trans ((below2 _ _ _).mono hB1.size)⟩
      ⟨W.heap.size, W.heap.size + 1, ⟨hlt, Nat.lt_succ_of_lt hlt⟩, box2 W x.1.1 x.1.2 23 23, rfl⟩
  case body =>
    rintro lp pre ⟨⟨p, q⟩, hp, hq⟩ a' W hlp - ⟨⟨cS, fS⟩, hB1⟩ ⟨A, B, ⟨hA, hB⟩, ⟨⟨a1, a2⟩, b1, b2⟩, rfl⟩ hlt
    simp only at hp hq a1 a2 b1 b2 ⊢
    have hs := sumE_bd pre
    have ht := tw_bd hp hq
    have q1 : ∀ r d os, CallsIn (Fence.wide.inRound lp) r Tryz.prog 73 #[V p] (grow (redrawn W d) os) fun e w'' => e = .returned (V p) ∧ ∃ p : Regrown, w'' = grow (redrawn W p.d) p.os := fun r d os => CallsIn.inRound lp (callsIn_wide.2 (Calls.regrown_of (toward_calls _ _ (hp.mono (by omega)))))
    have q2 : ∀ r d os, CallsIn (Fence.wide.inRound lp) r Tryz.prog 73 #[V q] (grow (redrawn W d) os) fun e w'' => e = .returned (V q) ∧ ∃ p : Regrown, w'' = grow (redrawn W p.d) p.os := fun r d os => CallsIn.inRound lp (callsIn_wide.2 (Calls.regrown_of (toward_calls _ _ (hq.mono (by omega)))))
    have q3 : ∀ r d os, CallsIn (Fence.wide.inRound lp) r Tryz.prog 74 #[V p, V q] (grow (redrawn W d) os) fun e w'' => e = .returned (.int .i64 (tw p q)) ∧ ∃ p : Regrown, w'' = grow (redrawn W p.d) p.os := fun r d os => CallsIn.inRound lp (callsIn_wide.2 (Calls.regrown_of (turn_calls _ _ _ (hp.mono (by omega)) (hq.mono (by omega)))))
    have hsn : sumE (pre ++ [⟨(p, q), hp, hq⟩]) = sumE pre + tw p q := sumE_snoc _ _
    obtain ⟨s, hs'⟩ : ∃ s, sumE pre = s := ⟨_, rfl⟩
    obtain ⟨t, ht'⟩ : ∃ t, tw p q = t := ⟨_, rfl⟩
    rw [hs'] at hs cS hsn
    rw [ht'] at ht q3 hsn
    have HSN := Lib.hid hsn
    have hln : (pre.length : Int) ≤ 64 := by omega
    obtain ⟨s1, s2⟩ := hs
    obtain ⟨t1, t2⟩ := ht
    have wr1 : IntKind.i64.wrap (s + t) = s + t := IntWalk.i64_in _ (by omega)
    clear hsn hs' ht' hln s1 s2 t1 t2
    have k1 := cell_regrown cS
    have k2 := cell_regrown a1
    have k3 := cell_regrown a2
    have k4 := cell_regrown b1
    have k5 := cell_regrown b2
    have HB := Lib.hid (And.intro hB1 (And.intro cS fS)); clear hB1 cS fS a1 a2 b1 b2 hlt
    have hmx : Tryz.prog.follows .mixedOrders = true := follows
    gi_wp2
    refine wpIn_region_first (fun w' => ∃ p : Regrown, w' = grow (redrawn W p.d) p.os) 7 hmx (by kernel_rfl) (by kernel_rfl) (by kernel_rfl) ⟨⟨W.drawn + 1, #[]⟩, by rw [grow_empty]; rfl⟩ ?_
    simp only [List.take_succ_cons, List.take_zero, List.drop_succ_cons, List.drop_zero]
    repeat (refine wpQuietIn_step (fun _ _ _ _ => trivial) (fun K hK => ?_); go_simp; first | (refine hK _ ?_; clear hK K) | (apply Exists.intro; refine ⟨fun _ => ?_, hK _ ?_⟩; (first | with_reducible exact q1 _ _ _ | with_reducible exact q2 _ _ _ | with_reducible exact q3 _ _ _); clear hK K))
    refine wpQuietIn_nil ?_
    intro _ hw'
    obtain ⟨⟨dq, osq⟩, rfl⟩ := hw'
    have cS5 := k1 dq osq
    have fS5 := frz_to HB.out.2.1 HB.out.2.2 (below_regrown W dq osq)
    clear k1 k2 k3 k4 k5 q1 q2 q3
    gi_wp2
    exact ⟨(KeepsFrom.of_grownBy (row := none) (gb_below (below_regrown W dq osq)) (fun j e => by cases e)).trans ((KeepsOthers.setCell _ _ _).from _), kep_t (kep_below (below_regrown W dq osq)) (kep_set (Nat.le_refl _) (by omega)),
      ⟨⟨by rw [HSN.out]; exact World.cell?_setCell_same' _ _ _ (by rw [cS5]; rfl), by rw [World.frozen?_setCell]; exact fS5⟩, (HB.out.1.trans ((below_regrown W dq osq).mono HB.out.1.size)).setCell (p := ⟨w1.heap.size, 0, none⟩) (Nat.le_refl _) _⟩⟩
  case done =>
    rintro D ys W hD rfl ⟨⟨cS, _⟩, hB1⟩ hK
    rw [sumE_upto] at cS
    gi_wp2
    refine ⟨by simp, .inl ⟨_, _, rfl, run_takeDeferred hK, ?_⟩⟩
    exact ⟨.tuple #[.int .i64 (areaOf l), .int .i64 0], by simp [results, Tryz.results29, go_sem], rfl, below_trans hb1 (hB1.trans (belowK_b (w := w1) (Nat.le_refl _) W D _ _ (by omega) hK rfl rfl))⟩
  case stop =>
    rintro D c pre W _ _ h _
    exact h.elim

end Go.Proofs.YtbemnlmgemafkaaGreatDoor
