/- The reference's Straight: all triples of points. -/
import Derived.Test.YtbemnlmgemafkaaGreatDoorOpt
import Derived.Test.YtbemnlmgemafkaaGreatDoorEven
namespace Go.Proofs.YtbemnlmgemafkaaGreatDoor
open Go.RowKit Go.Sort Go.Lib Mb

def g2 (l : List P2) (i : Nat) : P2 := l[i]?.getD ⟨0, 0⟩
def crs3 (l : List P2) (i j k : Nat) : Int := crs (g2 l i) (g2 l j) (g2 l k)
/-- every three are on one line -/
def StrP (l : List P2) : Prop := ∀ i j k, i < l.length → j < l.length → k < l.length → crs3 l i j k = 0

theorem str_of {l : List P2} (h : ∀ i j k, i < l.length → j < i → k < j → crs3 l i j k = 0) : StrP l :=
  alt3 (f := crs3 l) (fun _ _ _ => crs_swap _ _ _) (fun _ _ _ => crs_swap2 _ _ _) h

theorem g2_get {l : List P2} {i : Nat} (hi : i < l.length) : g2 l i = l[i] := by unfold g2; rw [List.getElem?_eq_getElem hi]; rfl

theorem g2_cells {w : World} {a : Option Addr} {l : List P2} (hT : Sl2 w a l) {i : Nat} (hi : i < l.length) : ∃ b o, a = some ⟨b, o, none⟩ ∧ b < w.heap.size ∧ w.cell? ⟨b, o + i * 2, none⟩ = some (.int .i64 (g2 l i).x) ∧ w.cell? ⟨b, o + i * 2 + 1, none⟩ = some (.int .i64 (g2 l i).y) := by
  obtain ⟨b, o, e, hb, hc⟩ := hT i hi
  rw [g2_get hi]
  exact ⟨b, o, e, hb, hc⟩

theorem g2_bd {l : List P2} (h : errOf l = 0) {i : Nat} (hi : i < l.length) : Bd 100000 (g2 l i) := by
  rw [g2_get hi]
  exact bd_flat (errOf_ok h _ (List.getElem_mem hi))

set_option maxHeartbeats 3200000 in
theorem straight_calls (l : List P2) (a : Option Addr) (cap : Nat) (w : World) (hT : Sl2 w a l) (hn : l.length ≤ 64) (he : errOf l = 0) :
    Calls Tryz.prog 83 #[.slice a l.length cap] w fun e w' => (∃ b : Bool, e = .returned (.bool b) ∧ (b = true ↔ StrP l)) ∧ Below w.heap.size w w' := by
  have HT := Lib.hid hT; clear hT
  have HE := Lib.hid he; clear he
  go_enter Tryz.func83, Tryz.ntmps83
  go_wp2
  go_loopg [3] l.length (fun g v wr => ∃ i : Nat, i + g = l.length ∧ v = .int .i64 i ∧ Below w.heap.size w wr ∧ ∀ i' j k, i' < i → j < i' → k < j → crs3 l i' j k = 0)
  case atStart => exact ⟨0, Nat.zero_add _, rfl, Below.refl _ _, fun i' j k h => absurd h (Nat.not_lt_zero _)⟩
  case round =>
    obtain ⟨i, hi, rfl, hbel, hz1⟩ := hrel
    have H1 := Lib.hid (And.intro hbel hz1); clear hbel hz1
    by_cases hlt1 : i < l.length
    · go_wp2
      go_loopg [4] i (fun g v wr => ∃ j : Nat, j + g = i ∧ v = .int .i64 j ∧ Below w.heap.size w wr ∧ ∀ j' k, j' < j → k < j' → crs3 l i j' k = 0)
      case atStart => exact ⟨0, Nat.zero_add _, rfl, H1.out.1, fun j' k h => absurd h (Nat.not_lt_zero _)⟩
      case round =>
        obtain ⟨j, hj, rfl, hbel, hz2⟩ := hrel
        have H2 := Lib.hid (And.intro hbel hz2); clear hbel hz2
        by_cases hlt2 : j < i
        · go_wp2
          go_loopg [5] j (fun g v wr => ∃ k : Nat, k + g = j ∧ v = .int .i64 k ∧ Below w.heap.size w wr ∧ ∀ k', k' < k → crs3 l i j k' = 0)
          case atStart => exact ⟨0, Nat.zero_add _, rfl, H2.out.1, fun k' h => absurd h (Nat.not_lt_zero _)⟩
          case round =>
            obtain ⟨k, hk, rfl, hbel, hz3⟩ := hrel
            have H3 := Lib.hid (And.intro hbel hz3); clear hbel hz3
            by_cases hlt3 : k < j
            · have hT4 := HT.out.to H3.out.1
              obtain ⟨b, o, rfl, -, c1, c2⟩ := g2_cells hT4 hlt1
              obtain ⟨b', o', e', -, c4, c5⟩ := g2_cells hT4 (show j < l.length by omega)
              obtain ⟨b'', o'', e'', -, c7, c8⟩ := g2_cells hT4 (show k < l.length by omega)
              cases e'; cases e''
              have q : ∀ d os, Calls Tryz.prog 95 #[V (g2 l i), V (g2 l j), V (g2 l k)] (grow (redrawn wr d) os) fun e w'' => e = .returned (.int .i64 (crs3 l i j k)) ∧ ∃ p : Regrown, w'' = grow (redrawn wr p.d) p.os := fun d os => Calls.regrown_of (left_calls _ _ _ _ (g2_bd HE.out hlt1) (g2_bd HE.out (by omega)) (g2_bd HE.out (by omega)))
              have k1 := cell_regrown c1
              have k2 := cell_regrown c2
              have k4 := cell_regrown c4
              have k5 := cell_regrown c5
              have k7 := cell_regrown c7
              have k8 := cell_regrown c8
              clear c1 c2 c4 c5 c7 c8 hT4
              have i1 : ((i : Int) < l.length) := by omega
              have i2 : ((j : Int) < l.length) := by omega
              have i3 : ((k : Int) < l.length) := by omega
              obtain ⟨s, hs⟩ : ∃ s, crs3 l i j k = s := ⟨_, rfl⟩
              rw [hs] at q
              have HS := Lib.hid hs; clear hs
              cases hd : decide (s = 0) with
              | true =>
                have hs0 := of_decide_eq_true hd
                subst hs0
                go_wp2_with fail
                refine wp_region_quiet_below follows (by kernel_rfl) ?_
                repeat (quiet_step (first | with_reducible exact q _ _))
                refine wpQuiet_nil ?_
                intro _ hw'
                obtain ⟨⟨dq, osq⟩, hw''⟩ := hw'
                subst hw''
                go_wp2_with fail
                go_roundg (j - k - 1)
                case measure => omega
                case rel =>
                  refine ⟨k + 1, by omega, by go_num, below_trans H3.out.1 (below_regrown wr dq osq), fun m' hm' => ?_⟩
                  by_cases e : m' = k
                  · subst e; exact HS.out
                  · exact H3.out.2 m' (by omega)
              | false =>
                have hs0 := of_decide_eq_false hd
                go_wp2_with fail
                refine wp_region_quiet_below follows (by kernel_rfl) ?_
                repeat (quiet_step (first | with_reducible exact q _ _))
                refine wpQuiet_nil ?_
                intro _ hw'
                obtain ⟨⟨dq, osq⟩, hw''⟩ := hw'
                subst hw''
                go_wp2_with fail
                go_ret
                exact ⟨⟨false, rfl, by simp; intro h; exact hs0 (HS.out ▸ h i j k hlt1 (by omega) (by omega))⟩, below_trans H3.out.1 (below_regrown wr dq osq)⟩
            · go_wp2_with fail
              go_roundg (i - j - 1)
              case measure => omega
              case rel =>
                refine ⟨j + 1, by omega, by go_num, H3.out.1, fun j' k' h1 h2 => ?_⟩
                by_cases e : j' = j
                · subst e; exact H3.out.2 k' (by omega)
                · exact H2.out.2 j' k' (by omega) h2
        · go_wp2_with fail
          go_roundg (l.length - i - 1)
          case measure => omega
          case rel =>
            refine ⟨i + 1, by omega, by go_num, H2.out.1, fun i' j' k' h1 h2 h3 => ?_⟩
            by_cases e : i' = i
            · subst e; exact H2.out.2 j' k' (by omega) h3
            · exact H1.out.2 i' j' k' (by omega) h2 h3
    · go_wp2
      go_ret
      exact ⟨⟨true, rfl, by simp; exact str_of fun i' j k h1 h2 h3 => H1.out.2 i' j k (by omega) h2 h3⟩, H1.out.1⟩

end Go.Proofs.YtbemnlmgemafkaaGreatDoor
