/- slices.IndexFunc and slices.ContainsFunc over lists of points that may be nil, and near. -/
import Derived.Test.YtbemnlmgemafkaaGreatDoorNear
import Derived.Test.YtbemnlmgemafkaaGreatDoorOpt
namespace Go.Proofs.YtbemnlmgemafkaaGreatDoor
open Go.RowKit Go.Sort Go.Lib Mb

set_option maxHeartbeats 1600000 in
theorem indexL_calls (g : Nat) (q : P2 → Bool) (l : List P2) (a : Option Addr) (cap : Nat) (w : World) (hT : Sl2 w a l) (hn : l.length ≤ 1000000000)
    (he : ∀ args w, (callFunc g args).run Tryz.prog w = .ok (.enter g args) w)
    (hq : ∀ p w', Below w.heap.size w w' → Calls Tryz.prog g #[V p] w' fun e w'' => e = .returned (.bool (q p)) ∧ Below w'.heap.size w' w'') :
    Calls Tryz.prog 81 #[.slice a l.length cap, .func (.func g) #[] #[]] w fun e w' => e = .returned (.int .i64 (firstIx q l)) ∧ Below w.heap.size w w' := by
  have HQ := Lib.hid hq; clear hq
  have HT := Lib.hid hT; clear hT
  go_enter Tryz.func81, Tryz.ntmps81
  go_wp2
  go_loopg [8] l.length (fun g i wr => ∃ k : Nat, k + g = l.length ∧ i = .int .i64 k ∧ Below w.heap.size w wr ∧ ∀ j (h : j < l.length), j < k → q l[j] = false)
  case atStart => exact ⟨0, Nat.zero_add _, rfl, Below.refl _ _, fun j _ h => absurd h (Nat.not_lt_zero j)⟩
  case round =>
    obtain ⟨k, hk, rfl, hbel, hall⟩ := hrel
    have HF := Lib.hid hall; clear hall
    by_cases hlt : k < l.length
    · obtain ⟨b, o, rfl, -, hp⟩ := HT.out.to hbel k hlt
      obtain ⟨p, hpp⟩ : ∃ p, l[k] = p := ⟨_, rfl⟩
      rw [hpp] at hp
      obtain ⟨c1, c2⟩ := hp
      have HP := Lib.hid hpp; clear hpp
      have HC := HQ.out p _ hbel
      cases hf : q p with
      | false =>
        rw [hf] at HC
        have HF2 := Lib.hid hf; clear hf
        go_wp2_with fail
        refine HC.mono ?_
        rintro e w1 ⟨rfl, hb1⟩
        go_wp2_with fail
        go_roundg (gk - 1)
        case measure => omega
        case rel =>
          refine ⟨k + 1, by omega, by go_num, below_trans hbel hb1, fun j h hj => ?_⟩
          by_cases e : j = k
          · subst e; rw [HP.out]; exact HF2.out
          · exact HF.out j h (by omega)
      | true =>
        rw [hf] at HC
        have HF2 := Lib.hid hf; clear hf
        go_wp2_with fail
        refine HC.mono ?_
        rintro e w1 ⟨rfl, hb1⟩
        go_wp2_with fail
        go_ret
        exact ⟨ret_i (firstIx_some hlt (by rw [HP.out]; exact HF2.out) HF.out).symm, below_trans hbel hb1⟩
    · go_wp2
      go_ret
      exact ⟨ret_i (firstIx_none (fun j h => HF.out j h (by omega))).symm, hbel⟩

set_option maxHeartbeats 1600000 in
theorem indexC_calls (g : Nat) (c : Value) (q : P2 → Bool) (l : List P2) (a : Option Addr) (cap : Nat) (w : World) (hT : Sl2 w a l) (hn : l.length ≤ 1000000000)
    (he : ∀ args w, (callFunc g args).run Tryz.prog w = .ok (.enter g args) w)
    (hq : ∀ p w', Below w.heap.size w w' → Calls Tryz.prog g #[V p, c] w' fun e w'' => e = .returned (.bool (q p)) ∧ Below w'.heap.size w' w'') :
    Calls Tryz.prog 81 #[.slice a l.length cap, .func (.func g) #[] #[c]] w fun e w' => e = .returned (.int .i64 (firstIx q l)) ∧ Below w.heap.size w w' := by
  have HQ := Lib.hid hq; clear hq
  have HT := Lib.hid hT; clear hT
  go_enter Tryz.func81, Tryz.ntmps81
  go_wp2
  go_loopg [8] l.length (fun g i wr => ∃ k : Nat, k + g = l.length ∧ i = .int .i64 k ∧ Below w.heap.size w wr ∧ ∀ j (h : j < l.length), j < k → q l[j] = false)
  case atStart => exact ⟨0, Nat.zero_add _, rfl, Below.refl _ _, fun j _ h => absurd h (Nat.not_lt_zero j)⟩
  case round =>
    obtain ⟨k, hk, rfl, hbel, hall⟩ := hrel
    have HF := Lib.hid hall; clear hall
    by_cases hlt : k < l.length
    · obtain ⟨b, o, rfl, -, hp⟩ := HT.out.to hbel k hlt
      obtain ⟨p, hpp⟩ : ∃ p, l[k] = p := ⟨_, rfl⟩
      rw [hpp] at hp
      obtain ⟨c1, c2⟩ := hp
      have HP := Lib.hid hpp; clear hpp
      have HC := HQ.out p _ hbel
      cases hf : q p with
      | false =>
        rw [hf] at HC
        have HF2 := Lib.hid hf; clear hf
        go_wp2_with fail
        refine HC.mono ?_
        rintro e w1 ⟨rfl, hb1⟩
        go_wp2_with fail
        go_roundg (gk - 1)
        case measure => omega
        case rel =>
          refine ⟨k + 1, by omega, by go_num, below_trans hbel hb1, fun j h hj => ?_⟩
          by_cases e : j = k
          · subst e; rw [HP.out]; exact HF2.out
          · exact HF.out j h (by omega)
      | true =>
        rw [hf] at HC
        have HF2 := Lib.hid hf; clear hf
        go_wp2_with fail
        refine HC.mono ?_
        rintro e w1 ⟨rfl, hb1⟩
        go_wp2_with fail
        go_ret
        exact ⟨ret_i (firstIx_some hlt (by rw [HP.out]; exact HF2.out) HF.out).symm, below_trans hbel hb1⟩
    · go_wp2
      go_ret
      exact ⟨ret_i (firstIx_none (fun j h => HF.out j h (by omega))).symm, hbel⟩

theorem containsL_calls (g : Nat) (q : P2 → Bool) (l : List P2) (a : Option Addr) (cap : Nat) (w : World) (hT : Sl2 w a l) (hn : l.length ≤ 1000000000)
    (he : ∀ args w, (callFunc g args).run Tryz.prog w = .ok (.enter g args) w)
    (hq : ∀ p w', Below w.heap.size w w' → Calls Tryz.prog g #[V p] w' fun e w'' => e = .returned (.bool (q p)) ∧ Below w'.heap.size w' w'') :
    Calls Tryz.prog 70 #[.slice a l.length cap, .func (.func g) #[] #[]] w fun e w' => e = .returned (.bool (l.any q)) ∧ Below w.heap.size w w' := by
  have H := indexL_calls g q l a cap w hT hn he hq
  clear hq he hT
  go_enter Tryz.func70, Tryz.ntmps70
  go_wp2_with fail
  refine H.mono ?_
  rintro e w1 ⟨rfl, hb1⟩
  clear H
  have hf := firstIx_neg q l
  go_wp2_with fail
  go_ret
  exact ⟨rfl, hb1⟩

theorem nearL_calls (l : List P2) (a : Option Addr) (n cap : Nat) (hl : l.length = n) (w : World) (hT : Sl2 w a l) (hn : l.length ≤ 1000000000) :
    Calls Tryz.prog 27 #[.slice a n cap] w fun e w' => e = .returned (.bool (l.all nearB)) ∧ Below w.heap.size w w' := by
  subst hl
  have H := containsL_calls 71 (fun p => !nearB p) l a cap w hT hn (enters_of Tryz.func71 (by kernel_rfl) rfl) (fun p w' _ => near1_calls p w')
  clear hT
  have hf : (!(l.any fun p => !nearB p)) = l.all nearB := by
    rw [List.not_any_eq_all_not]; simp
  go_enter Tryz.func27, Tryz.ntmps27
  go_wp2_with fail
  refine H.mono ?_
  rintro e w1 ⟨rfl, hb1⟩
  clear H
  go_wp2_with fail
  go_ret
  exact ⟨rfl, hb1⟩

end Go.Proofs.YtbemnlmgemafkaaGreatDoor
