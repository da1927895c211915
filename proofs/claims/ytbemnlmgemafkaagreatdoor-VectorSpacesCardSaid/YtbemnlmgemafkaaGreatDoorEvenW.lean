/- The reference's Even: all quadruples of points. -/
import Derived.Test.YtbemnlmgemafkaaGreatDoorRefS
import Derived.Test.YtbemnlmgemafkaaGreatDoorEven
namespace Go.Proofs.YtbemnlmgemafkaaGreatDoor
open Go.RowKit Go.Sort Go.Lib Mb

def gt (l : List P3) (i : Nat) : P3 := l[i]?.getD ⟨0, 0, 0⟩
def six4 (l : List P3) (i j k m : Nat) : Int := six (gt l i) (gt l j) (gt l k) (gt l m)
/-- every four are in one plane -/
def EvenP (l : List P3) : Prop := ∀ i j k m, i < l.length → j < l.length → k < l.length → m < l.length → six4 l i j k m = 0

theorem even_of {l : List P3} (h : ∀ i j k m, i < l.length → j < i → k < j → m < k → six4 l i j k m = 0) : EvenP l :=
  alt4 (f := six4 l) (fun _ _ _ _ => six_perm1 _ _ _ _) (fun _ _ _ _ => six_perm2 _ _ _ _) (fun _ _ _ _ => six_perm3 _ _ _ _) h

theorem gt_cells {w : World} {a : Option Addr} {l : List P3} (hT : Sl3 w a l) {i : Nat} (hi : i < l.length) : ∃ b o, a = some ⟨b, o, none⟩ ∧ b < w.heap.size ∧ w.cell? ⟨b, o + i * 3, none⟩ = some (.int .i64 (gt l i).x) ∧ w.cell? ⟨b, o + i * 3 + 1, none⟩ = some (.int .i64 (gt l i).y) ∧ w.cell? ⟨b, o + i * 3 + 2, none⟩ = some (.int .i64 (gt l i).z) := by
  obtain ⟨b, o, e, hb, hc⟩ := hT i hi
  have e2 : gt l i = l[i] := by unfold gt; rw [List.getElem?_eq_getElem hi]; rfl
  rw [e2]
  exact ⟨b, o, e, hb, hc⟩

theorem gt_bd {l : List P3} (h : errOf3 l = 0) {i : Nat} (hi : i < l.length) : Bd3 100000 (gt l i) := by
  have e2 : gt l i = l[i] := by unfold gt; rw [List.getElem?_eq_getElem hi]; rfl
  rw [e2]
  exact bd_high (errOf3_ok h _ (List.getElem_mem hi))

set_option maxHeartbeats 3200000 in
theorem even_calls (l : List P3) (a : Option Addr) (cap : Nat) (w : World) (hT : Sl3 w a l) (hn : l.length ≤ 64) (he : errOf3 l = 0) :
    Calls Tryz.prog 68 #[.slice a l.length cap] w fun e w' => (∃ b : Bool, e = .returned (.bool b) ∧ (b = true ↔ EvenP l)) ∧ Below w.heap.size w w' := by
  have HT := Lib.hid hT; clear hT
  have HE := Lib.hid he; clear he
  go_enter Tryz.func68, Tryz.ntmps68
  go_wp2
  go_loopg [3] l.length (fun g v wr => ∃ i : Nat, i + g = l.length ∧ v = .int .i64 i ∧ Below w.heap.size w wr ∧ ∀ i' j k m, i' < i → j < i' → k < j → m < k → six4 l i' j k m = 0)
  case atStart => exact ⟨0, Nat.zero_add _, rfl, Below.refl _ _, fun i' j k m h => absurd h (Nat.not_lt_zero _)⟩
  case round =>
    obtain ⟨i, hi, rfl, hbel, hz1⟩ := hrel
    have H1 := Lib.hid (And.intro hbel hz1); clear hbel hz1
    by_cases hlt1 : i < l.length
    · go_wp2
      go_loopg [4] i (fun g v wr => ∃ j : Nat, j + g = i ∧ v = .int .i64 j ∧ Below w.heap.size w wr ∧ ∀ j' k m, j' < j → k < j' → m < k → six4 l i j' k m = 0)
      case atStart => exact ⟨0, Nat.zero_add _, rfl, H1.out.1, fun j' k m h => absurd h (Nat.not_lt_zero _)⟩
      case round =>
        obtain ⟨j, hj, rfl, hbel, hz2⟩ := hrel
        have H2 := Lib.hid (And.intro hbel hz2); clear hbel hz2
        by_cases hlt2 : j < i
        · go_wp2
          go_loopg [5] j (fun g v wr => ∃ k : Nat, k + g = j ∧ v = .int .i64 k ∧ Below w.heap.size w wr ∧ ∀ k' m, k' < k → m < k' → six4 l i j k' m = 0)
          case atStart => exact ⟨0, Nat.zero_add _, rfl, H2.out.1, fun k' m h => absurd h (Nat.not_lt_zero _)⟩
          case round =>
            obtain ⟨k, hk, rfl, hbel, hz3⟩ := hrel
            have H3 := Lib.hid (And.intro hbel hz3); clear hbel hz3
            by_cases hlt3 : k < j
            · go_wp2
              go_loopg [6] k (fun g v wr => ∃ m : Nat, m + g = k ∧ v = .int .i64 m ∧ Below w.heap.size w wr ∧ ∀ m', m' < m → six4 l i j k m' = 0)
              case atStart => exact ⟨0, Nat.zero_add _, rfl, H3.out.1, fun m' h => absurd h (Nat.not_lt_zero _)⟩
              case round =>
                obtain ⟨m, hm, rfl, hbel, hz4⟩ := hrel
                have H4 := Lib.hid (And.intro hbel hz4); clear hbel hz4
                by_cases hlt4 : m < k
                · have hT4 := HT.out.to H4.out.1
                  obtain ⟨b, o, rfl, -, c1, c2, c3⟩ := gt_cells hT4 hlt1
                  obtain ⟨b', o', e', -, c4, c5, c6⟩ := gt_cells hT4 (show j < l.length by omega)
                  obtain ⟨b'', o'', e'', -, c7, c8, c9⟩ := gt_cells hT4 (show k < l.length by omega)
                  obtain ⟨b3, o3, e3, -, c10, c11, c12⟩ := gt_cells hT4 (show m < l.length by omega)
                  cases e'; cases e''; cases e3
                  have q : ∀ d os, Calls Tryz.prog 63 #[V3 (gt l i), V3 (gt l j), V3 (gt l k), V3 (gt l m)] (grow (redrawn wr d) os) fun e w'' => e = .returned (.int .i64 (six4 l i j k m)) ∧ ∃ p : Regrown, w'' = grow (redrawn wr p.d) p.os := fun d os => Calls.regrown_of (six_calls _ _ _ _ _ (gt_bd HE.out hlt1) (gt_bd HE.out (by omega)) (gt_bd HE.out (by omega)) (gt_bd HE.out (by omega)))
                  have k1 := cell_regrown c1
                  have k2 := cell_regrown c2
                  have k3 := cell_regrown c3
                  have k4 := cell_regrown c4
                  have k5 := cell_regrown c5
                  have k6 := cell_regrown c6
                  have k7 := cell_regrown c7
                  have k8 := cell_regrown c8
                  have k9 := cell_regrown c9
                  have k10 := cell_regrown c10
                  have k11 := cell_regrown c11
                  have k12 := cell_regrown c12
                  clear c1 c2 c3 c4 c5 c6 c7 c8 c9 c10 c11 c12 hT4
                  have i1 : ((i : Int) < l.length) := by omega
                  have i2 : ((j : Int) < l.length) := by omega
                  have i3 : ((k : Int) < l.length) := by omega
                  have i4 : ((m : Int) < l.length) := by omega
                  obtain ⟨s, hs⟩ : ∃ s, six4 l i j k m = s := ⟨_, rfl⟩
                  rw [hs] at q
                  have HS := Lib.hid hs; clear hs
                  cases hd : decide (s = 0) with
                  | true =>
                    have hs0 := of_decide_eq_true hd
                    subst hs0
                    go_wp2_with fail
                    refine wp_region_quiet_below follows (by kernel_rfl) ?_
                    repeat (quiet_step (first | with_reducible exact q _ _))
                    refine wpQuiet_nil ?_
                    intro _ hw'
                    obtain ⟨⟨dq, osq⟩, hw''⟩ := hw'
                    subst hw''
                    go_wp2_with fail
                    go_roundg (k - m - 1)
                    case measure => omega
                    case rel =>
                      refine ⟨m + 1, by omega, by go_num, below_trans H4.out.1 (below_regrown wr dq osq), fun m' hm' => ?_⟩
                      by_cases e : m' = m
                      · subst e; exact HS.out
                      · exact H4.out.2 m' (by omega)
                  | false =>
                    have hs0 := of_decide_eq_false hd
                    go_wp2_with fail
                    refine wp_region_quiet_below follows (by kernel_rfl) ?_
                    repeat (quiet_step (first | with_reducible exact q _ _))
                    refine wpQuiet_nil ?_
                    intro _ hw'
                    obtain ⟨⟨dq, osq⟩, hw''⟩ := hw'
                    subst hw''
                    go_wp2_with fail
                    go_ret
                    exact ⟨⟨false, rfl, by simp; intro h; exact hs0 (HS.out ▸ h i j k m hlt1 (by omega) (by omega) (by omega))⟩, below_trans H4.out.1 (below_regrown wr dq osq)⟩
                · go_wp2_with fail
                  go_roundg (j - k - 1)
                  case measure => omega
                  case rel =>
                    refine ⟨k + 1, by omega, by go_num, H4.out.1, fun k' m' h1 h2 => ?_⟩
                    by_cases e : k' = k
                    · subst e; exact H4.out.2 m' (by omega)
                    · exact H3.out.2 k' m' (by omega) h2
            · go_wp2_with fail
              go_roundg (i - j - 1)
              case measure => omega
              case rel =>
                refine ⟨j + 1, by omega, by go_num, H3.out.1, fun j' k' m' h1 h2 h3 => ?_⟩
                by_cases e : j' = j
                · subst e; exact H3.out.2 k' m' (by omega) h3
                · exact H2.out.2 j' k' m' (by omega) h2 h3
        · go_wp2_with fail
          go_roundg (l.length - i - 1)
          case measure => omega
          case rel =>
            refine ⟨i + 1, by omega, by go_num, H2.out.1, fun i' j' k' m' h1 h2 h3 h4 => ?_⟩
            by_cases e : i' = i
            · subst e; exact H2.out.2 j' k' m' (by omega) h3 h4
            · exact H1.out.2 i' j' k' m' (by omega) h2 h3 h4
    · go_wp2
      go_ret
      exact ⟨⟨true, rfl, by simp; exact even_of fun i' j k m h1 h2 h3 h4 => H1.out.2 i' j k m (by omega) h2 h3 h4⟩, H1.out.1⟩

end Go.Proofs.YtbemnlmgemafkaaGreatDoor
