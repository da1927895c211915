/- Package vector: the order of points: the comparison that Order hands to the library's stable sort. -/
import Derived.Test.YtbemnlmgemafkaaGreatDoorStrW
import Derived.Test.YtbemnlmgemafkaaGreatDoorMixed
import Derived.Shelf.SlSortCmp.Insertion1
import Derived.Shelf.RegionOpen
import Derived.OwnWalkIn
import Derived.TacticsInMore
namespace Go.Proofs.YtbemnlmgemafkaaGreatDoor
open Go.RowKit Go.Sort Go.Lib Mb

def cmpv (a b : Int) : Int := if a < b then -1 else if b < a then 1 else 0
def c2v (p q : P2) : Int := if cmpv p.x q.x ≠ 0 then cmpv p.x q.x else cmpv p.y q.y
def bef (p q : P2) : Bool := decide (p.x < q.x) || (decide (p.x = q.x) && decide (p.y < q.y))
theorem c2v_lt (p q : P2) : decide (c2v p q < 0) = bef p q := by
  unfold c2v bef cmpv
  rcases Int.lt_trichotomy p.x q.x with h | h | h
  · have h1 : ¬ q.x < p.x := by omega
    simp [h]
  · have h1 : ¬ p.x < q.x := by omega
    have h2 : ¬ q.x < p.x := by omega
    simp only [if_false, ne_eq, not_true, h, decide_true, decide_false, Bool.true_and, Bool.false_or, Int.lt_irrefl]
    rcases Int.lt_trichotomy p.y q.y with h3 | h3 | h3
    · simp [h3]
    · simp [h3]
    · have h4 : ¬ p.y < q.y := by omega
      simp [h3, h4]
  · have h1 : ¬ p.x < q.x := by omega
    have h2 : ¬ p.x = q.x := by omega
    simp [h, h1, h2]

set_option maxHeartbeats 800000 in
theorem or2_calls (a b : Int) (blk : Nat) (w : World) (ha : w.cell? ⟨blk, 0, none⟩ = some (.int .i64 a)) (hb : w.cell? ⟨blk, 1, none⟩ = some (.int .i64 b)) :
    Calls Tryz.prog 86 #[.slice (some ⟨blk, 0, none⟩) 2 2] w fun e w' => e = .returned (.int .i64 (if a ≠ 0 then a else b)) ∧ w = w' := by
  go_enter Tryz.func86, Tryz.ntmps86
  go_wp2
  go_loopg [8] 2 (fun g v wr => ∃ k : Nat, k + g = 2 ∧ v = .int .i64 k ∧ w = wr ∧ (0 < k → a = 0) ∧ (1 < k → b = 0))
  case atStart => exact ⟨0, rfl, rfl, rfl, fun h => absurd h (Nat.lt_irrefl _), fun h => absurd h (by decide)⟩
  case round =>
    obtain ⟨k, hk, rfl, rfl, h0, h1⟩ := hrel
    match k, hk with
    | 0, hk =>
      by_cases hz : a = 0
      · subst hz
        go_wp2_with fail
        go_roundg 1
        case measure => omega
        case rel => exact ⟨1, rfl, rfl, rfl, by simp, by simp⟩
      · go_wp2_with fail
        go_ret
        exact ⟨ret_i (by simp), rfl⟩
    | 1, hk =>
      obtain rfl := h0 (by decide)
      by_cases hz : b = 0
      · subst hz
        go_wp2_with fail
        go_roundg 0
        case measure => omega
        case rel => exact ⟨2, rfl, rfl, rfl, by simp, by simp⟩
      · go_wp2_with fail
        go_ret
        exact ⟨ret_i (by simp), rfl⟩
    | 2, hk =>
      obtain rfl := h0 (by decide)
      obtain rfl := h1 (by decide)
      go_wp2_with fail
      go_ret
      exact ⟨ret_i (by simp), rfl⟩
    | k + 3, hk => omega

set_option maxHeartbeats 1600000 in
theorem ord1_calls (l : List P2) (Bs b o cap i k : Nat) (w : World) (hB : w.cell? ⟨Bs, 0, none⟩ = some (.slice (some ⟨b, o, none⟩) l.length cap)) (hi : i < l.length) (hk : k < l.length) (hn : l.length ≤ 64)
    (c1 : w.cell? ⟨b, o + i * 2, none⟩ = some (.int .i64 (g2 l i).x)) (c2 : w.cell? ⟨b, o + i * 2 + 1, none⟩ = some (.int .i64 (g2 l i).y)) (c3 : w.cell? ⟨b, o + k * 2, none⟩ = some (.int .i64 (g2 l k).x)) (c4 : w.cell? ⟨b, o + k * 2 + 1, none⟩ = some (.int .i64 (g2 l k).y)) :
    Calls Tryz.prog 85 #[.int .i64 i, .int .i64 k, .pointer (some ⟨Bs, 0, none⟩)] w fun e w' => e = .returned (.int .i64 (c2v (g2 l i) (g2 l k))) ∧ ∃ q os', w' = grow (w.drewN q) os' := by
  have i1 : ((i : Int) < l.length) := by omega
  have i2 : ((k : Int) < l.length) := by omega
  have z1 : (0 : Int) ≤ (i : Int) := by omega
  have z2 : (0 : Int) ≤ (k : Int) := by omega
  have n0 : 0 < l.length := by omega
  have n1 : l ≠ [] := by intro e; rw [e] at n0; exact Nat.lt_irrefl 0 n0
  have q1 : ∀ r d, CallsIn Fence.wide r Tryz.prog 87 #[.int .i64 (g2 l i).x, .int .i64 (g2 l k).x] (w.drewN d) fun e w'' => e = .returned (.int .i64 (cmpv (g2 l i).x (g2 l k).x)) ∧ ∃ m, w'' = w.drewN m := fun r d => CallsIn.quiet_of_same (callsIn_wide.2 ((cmpI_calls _ _ _).mono fun e w' ⟨he, hw⟩ => ⟨he, hw.symm⟩))
  have q2 : ∀ r d, CallsIn Fence.wide r Tryz.prog 87 #[.int .i64 (g2 l i).y, .int .i64 (g2 l k).y] (w.drewN d) fun e w'' => e = .returned (.int .i64 (cmpv (g2 l i).y (g2 l k).y)) ∧ ∃ m, w'' = w.drewN m := fun r d => CallsIn.quiet_of_same (callsIn_wide.2 ((cmpI_calls _ _ _).mono fun e w' ⟨he, hw⟩ => ⟨he, hw.symm⟩))
  have hcv : (if cmpv (g2 l i).x (g2 l k).x ≠ 0 then cmpv (g2 l i).x (g2 l k).x else cmpv (g2 l i).y (g2 l k).y) = c2v (g2 l i) (g2 l k) := rfl
  obtain ⟨x, hx⟩ : ∃ x, cmpv (g2 l i).x (g2 l k).x = x := ⟨_, rfl⟩
  obtain ⟨y, hy⟩ : ∃ y, cmpv (g2 l i).y (g2 l k).y = y := ⟨_, rfl⟩
  obtain ⟨c, hc⟩ : ∃ c, c2v (g2 l i) (g2 l k) = c := ⟨_, rfl⟩
  rw [hx] at q1 hcv
  rw [hy] at q2 hcv
  rw [hc] at hcv ⊢
  clear hx hy hc
  have hOr := fun blk W h1 h2 => or2_calls x y blk W h1 h2
  rw [hcv] at hOr
  clear hcv
  have hmx : Tryz.prog.follows .mixedOrders = true := follows
  refine (callsIn_wide (n := 10)).1 ?_
  refine callsIn_of_wp Tryz.func85 rfl trivial ?_ rfl
  simp only [Tryz.ntmps85, List.size_toArray, List.length_cons, List.length_nil, Nat.reduceAdd, Nat.reduceSub, Array.replicate_succ, Array.replicate_zero, List.push_toArray, List.append_toArray, List.nil_append, List.cons_append]
  gi_wp2
  refine wpIn_region_first (fun w' => ∃ q, w' = w.drewN q) 22 hmx (by kernel_rfl) (by kernel_rfl) (by kernel_rfl) ⟨1, rfl⟩ ?_
  simp only [List.take_succ_cons, List.take_zero, List.drop_succ_cons, List.drop_zero]
  repeat (refine wpQuietIn_step (fun _ _ _ _ => trivial) (fun K hK => ?_); go_simp; first | (refine hK _ ?_; clear hK K) | (apply Exists.intro; refine ⟨fun _ => ?_, hK _ ?_⟩; (first | with_reducible exact q1 _ _ | with_reducible exact q2 _ _); clear hK K))
  refine wpQuietIn_nil ?_
  intro _ hw'
  obtain ⟨q, rfl⟩ := hw'
  clear c1 c2 c3 c4 q1 q2
  have fOr : Fence.wide.fn 86 := trivial
  gi_wp2_with (gi_at_call 86; refine (callsIn_wide.2 (hOr _ _ (cell_new _ _ _ 0 _ rfl) (cell_new _ _ _ 1 _ rfl))).mono ?_; rintro e w' ⟨rfl, rfl⟩)
  go_ret
  exact ⟨rfl, q, #[.cells #[.int .i64 x, .int .i64 y] 3], by simp [grow, World.alloc]⟩

end Go.Proofs.YtbemnlmgemafkaaGreatDoor
