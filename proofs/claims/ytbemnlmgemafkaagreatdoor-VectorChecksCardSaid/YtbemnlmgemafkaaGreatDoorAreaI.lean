/- Package vector: edges, an iterator over the sides of a polygon. -/
import Derived.Test.YtbemnlmgemafkaaGreatDoorAreaR
import Derived.Test.YtbemnlmgemafkaaGreatDoorMixed
import Derived.RangeFuncNested
import Derived.RangeFuncBound
import Derived.RangeFuncCalls
import Derived.RangeFuncLeaves
import Derived.RangeFuncBox
import Derived.Shelf.Abstract
import Derived.Shelf.RegionOpen
import Derived.OwnWalkIn
import Derived.TacticsInMore
import Derived.LoopNIn
import Derived.LoopIn
namespace Go.Proofs.YtbemnlmgemafkaaGreatDoor
open Go.RowKit Go.Sort Go.Lib Go.Shelf Mb

attribute [local go_sem] Oper.semAt_some

/-- two points with right coordinates -/
abbrev E2 := { x : P2 × P2 // Bd 100000 x.1 ∧ Bd 100000 x.2 }

theorem g2_bd' {l : List P2} (h : errOf l = 0) (i : Nat) : Bd 100000 (g2 l i) := by
  by_cases hi : i < l.length
  · exact g2_bd h hi
  · have : g2 l i = ⟨0, 0⟩ := by unfold g2; rw [List.getElem?_eq_none (by omega)]; rfl
    rw [this]; exact ⟨⟨by decide, by decide⟩, by decide, by decide⟩

def sd (l : List P2) (h : errOf l = 0) (j : Nat) : E2 := ⟨(g2 l j, g2 l ((j + 1) % l.length)), g2_bd' h _, g2_bd' h _⟩

def upto {α : Type} (f : Nat → α) (k : Nat) : List α := (List.range k).map f
theorem upto_succ {α : Type} (f : Nat → α) (k : Nat) : upto f (k + 1) = upto f k ++ [f k] := by simp [upto, List.range_succ]
theorem upto_length {α : Type} (f : Nat → α) (k : Nat) : (upto f k).length = k := by simp [upto]

def sumE (p : List E2) : Int := (p.map fun x => tw x.1.1 x.1.2).sum
theorem sumE_snoc (p : List E2) (x : E2) : sumE (p ++ [x]) = sumE p + tw x.1.1 x.1.2 := by simp [sumE]
theorem sumE_bd : ∀ p : List E2, -(20000000000 * (p.length : Int)) ≤ sumE p ∧ sumE p ≤ 20000000000 * (p.length : Int)
  | [] => by simp [sumE]
  | x :: p => by
    have h1 := sumE_bd p
    have h2 := tw_bd x.2.1 x.2.2
    have h3 : sumE (x :: p) = tw x.1.1 x.1.2 + sumE p := by simp [sumE]
    rw [h3, List.length_cons]; omega
theorem sumE_upto (l : List P2) (h : errOf l = 0) : ∀ k, sumE (upto (sd l h) k) = arTo l k
  | 0 => rfl
  | k + 1 => by rw [upto_succ, sumE_snoc, sumE_upto l h k]; rfl

/-- the cells below n₀, and those of one block more, hold what they held -/
def Kep (n₀ Bs : Nat) (W W' : World) : Prop := ∀ b i v, (b < n₀ ∨ b = Bs) → W.cell? ⟨b, i, none⟩ = some v → W'.cell? ⟨b, i, none⟩ = some v
theorem kep_r {n₀ Bs : Nat} {A : World} : Kep n₀ Bs A A := fun _ _ _ _ h => h
theorem kep_t {n₀ Bs : Nat} {A B C : World} (h : Kep n₀ Bs A B) (k : Kep n₀ Bs B C) : Kep n₀ Bs A C := fun b i v hb hc => k b i v hb (h b i v hb hc)
theorem kep_b {n₀ Bs : Nat} (W : World) (l : Nat) (o o' : Obj) (h : W.heap[l]? = some o) (ho : o.isCells = false) : Kep n₀ Bs W (W.putObj l o') :=
  fun b i v _ hc => cell_kept hc (grownBy_putObj' W l o') (fun r e => by cases e; exact ⟨_, h, ho⟩)
theorem kep_below {n₀ Bs : Nat} {W W' : World} (h : Below W.heap.size W W') : Kep n₀ Bs W W' := fun _ _ _ _ hc => cell_to hc h

theorem edges_in (F : Fence) (n : Nat) (hF : F.fn 72) (hro : F.round = none) (a : Option Addr) (len cap : Nat) (w : World) :
    CallsIn F n Tryz.prog 72 #[.slice a len cap] w fun e w' => e = .returned (.func (.func 114) #[] #[.pointer (some ⟨w.heap.size, 0, none⟩)]) ∧ w' = w.alloc (.cells #[.slice a len cap] 57) := by
  refine callsIn_of_wp Tryz.func72 rfl hF ?_ hro
  simp only [Tryz.ntmps72, List.size_toArray, List.length_cons, List.length_nil, Nat.reduceAdd, Nat.reduceSub, Array.replicate_succ, Array.replicate_zero, List.push_toArray, List.append_toArray, List.nil_append, List.cons_append]
  gi_wp2
  go_ret
  exact ⟨rfl, rfl⟩

set_option maxRecDepth 100000 in
set_option maxHeartbeats 4000000 in
theorem edges1_in (F : Fence) (n : Nat) (hF : F.fn 114) (hro : F.round = none) (hn : 1 ≤ n) (lp Bs n₀ B : Nat) (a : Option Addr) (cap : Nat) (l : List P2) (h : errOf l = 0) (hl : l.length ≤ 64) (J Jx : List E2 → World → Prop) (hJ : AbidesFrom B J)
    (hY : ∀ pre x W, J pre W → pre.length < l.length → YieldAt F (n - 1) Tryz.prog lp #[V x.1.1, V x.1.2] W fun e W' =>
      (e = .returned (.bool true) ∧ J (pre ++ [x]) W' ∧ Kep n₀ Bs W W') ∨ (e = .returned (.bool false) ∧ Jx (pre ++ [x]) W'))
    (W : World) (hBs : W.cell? ⟨Bs, 0, none⟩ = some (.slice a l.length cap)) (hT : ∀ i, i < l.length → ∃ b o, a = some ⟨b, o, none⟩ ∧ b < n₀ ∧ W.cell? ⟨b, o + i * 2, none⟩ = some (.int .i64 (g2 l i).x) ∧ W.cell? ⟨b, o + i * 2 + 1, none⟩ = some (.int .i64 (g2 l i).y)) (h0 : J [] W) :
    CallsIn F n Tryz.prog 114 #[.func (.yield lp) #[] #[], .pointer (some ⟨Bs, 0, none⟩)] W fun e W' => (∃ v, e = .returned v) ∧
      ((∃ ys, ys = upto (sd l h) l.length ∧ J ys W') ∨ (∃ pre, True ∧ Jx pre W')) := by
  have HT := Lib.hid hT; clear hT
  refine callsIn_of_wp Tryz.func114 rfl hF ?_ hro
  simp only [Tryz.ntmps114, List.size_toArray, List.length_cons, List.length_nil, Nat.reduceAdd, Nat.reduceSub, Array.replicate_succ, Array.replicate_zero, List.push_toArray, List.append_toArray, List.nil_append, List.cons_append]
  gi_wp2
  gi_loopw [7] (fun i wr => ∃ k : Nat, k ≤ l.length ∧ i = .int .i64 k ∧ J (upto (sd l h) k) wr ∧ Kep n₀ Bs W wr) (fun i _ => l.length - (RowKit.intOf i).toNat)
  case atStart => exact ⟨0, Nat.zero_le _, rfl, h0, kep_r⟩
  case round =>
    obtain ⟨k, hk, rfl, hJs, hke⟩ := hrel
    by_cases hlt : k < l.length
    · obtain ⟨m, hm⟩ : ∃ m, (k + 1) % l.length = m := ⟨_, rfl⟩
      have hml : m < l.length := hm ▸ Nat.mod_lt _ (by omega)
      obtain ⟨b, o, rfl, hb, c1, c2⟩ := HT.out k hlt
      obtain ⟨b', o', e', -, c3, c4⟩ := HT.out m hml
      cases e'
      have d0 := hke _ _ _ (.inr rfl) hBs
      have d1 := hke _ _ _ (.inl hb) c1
      have d2 := hke _ _ _ (.inl hb) c2
      have d3 := hke _ _ _ (.inl hb) c3
      have d4 := hke _ _ _ (.inl hb) c4
      have i1 : ((k : Int) < l.length) := by omega
      have i2 : ((m : Int) < l.length) := by omega
      have n0 : (l.length : Int) ≠ 0 := by omega
      have n1 : l ≠ [] := by intro e; rw [e] at hlt; exact Nat.not_lt_zero _ hlt
      have hr : ((k : Int) + 1).tmod (l.length : Int) = (m : Int) := by
        rw [← hm, show (k : Int) + 1 = ((k + 1 : Nat) : Int) by omega, Int.tmod_eq_emod_of_nonneg (by omega)]; rfl
      have w1 : IntKind.i64.wrap ((k : Int) + 1) = (k : Int) + 1 := IntWalk.i64_in _ (by omega)
      have hJ5 : ∀ q, J (upto (sd l h) k) ((wr.alloc (.cells #[.int .i64 (g2 l k).x, .int .i64 (g2 l k).y] 23)).drewN q) := fun q =>
        hJ _ _ _ none hJs (gb_below (below_trans (alloc_below _ _) (bel_dn _ _))) (fun r e => by cases e)
      have hK5 : ∀ q, Kep n₀ Bs wr ((wr.alloc (.cells #[.int .i64 (g2 l k).x, .int .i64 (g2 l k).y] 23)).drewN q) := fun q => kep_below (below_trans (alloc_below _ _) (bel_dn _ _))
      have e0 : (wr.alloc (.cells #[.int .i64 (g2 l k).x, .int .i64 (g2 l k).y] 23)).cell? ⟨Bs, 0, none⟩ = some (.slice (some ⟨b, o, none⟩) l.length cap) := cell_to d0 (alloc_below _ _)
      have e3 := cell_to d3 (alloc_below _ (.cells #[.int .i64 (g2 l k).x, .int .i64 (g2 l k).y] 23))
      have e4 := cell_to d4 (alloc_below _ (.cells #[.int .i64 (g2 l k).x, .int .i64 (g2 l k).y] 23))
      have hmx : Tryz.prog.follows .mixedOrders = true := follows
      gi_wp2
      refine wpIn_region_first (fun w' => ∃ q, w' = (wr.alloc (.cells #[.int .i64 (g2 l k).x, .int .i64 (g2 l k).y] 23)).drewN q) 10 hmx (by kernel_rfl) (by kernel_rfl) (by kernel_rfl) ⟨1, rfl⟩ ?_
      simp only [List.take_succ_cons, List.take_zero, List.drop_succ_cons, List.drop_zero]
      repeat (quiet_step_in (fail))
      refine wpQuietIn_nil ?_
      intro _ hw'
      obtain ⟨q, rfl⟩ := hw'
      obtain ⟨fn, tmps, assign, body, hy, hR⟩ := hY _ (sd l h k) _ (hJ5 q) (by rw [upto_length]; exact hlt)
      have hm' : (sd l h k).1.2 = g2 l m := by show g2 l ((k + 1) % l.length) = _; rw [hm]
      rw [hm', show (sd l h k).1.1 = g2 l k from rfl] at hy
      have HR := Lib.hid (kep_t hke (hK5 q)); clear hJ5 hJs hke hK5 hm hm' hY
      gi_wp2
      refine hR.mono ?_
      rintro e W3 (⟨rfl, hJ3, hk3⟩ | ⟨rfl, hJx3⟩)
      · have hK := kep_t HR.out hk3
        gi_wp2
        go_roundw
        case rel => exact ⟨k + 1, by omega, by go_num, by rw [upto_succ]; exact hJ3, hK⟩
        case measure => simp [RowKit.intOf]; omega
      · gi_wp2
        refine bodyPost_ret (results_none rfl _ _ _) rfl ?_
        exact ⟨⟨_, rfl⟩, .inr ⟨_, trivial, hJx3⟩⟩
    · obtain rfl : k = l.length := by omega
      gi_wp2
      go_end0
      exact ⟨⟨_, rfl⟩, .inl ⟨_, rfl, hJs⟩⟩

end Go.Proofs.YtbemnlmgemafkaaGreatDoor
