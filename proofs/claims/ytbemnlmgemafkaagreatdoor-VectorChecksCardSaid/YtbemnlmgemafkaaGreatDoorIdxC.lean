/- slices.IndexFunc over a list of points, the function value with one captured variable; what it asks of the function value it asks at the list's own points. -/
import Derived.Test.YtbemnlmgemafkaaGreatDoorIdxL
namespace Go.Proofs.YtbemnlmgemafkaaGreatDoor
open Go.RowKit Go.Sort Go.Lib Mb

set_option maxHeartbeats 1600000 in
theorem indexK_calls (g : Nat) (c : Value) (q : P2 → Bool) (l : List P2) (a : Option Addr) (cap : Nat) (w : World) (hT : Sl2 w a l) (hn : l.length ≤ 1000000000)
    (he : ∀ args w, (callFunc g args).run Tryz.prog w = .ok (.enter g args) w)
    (hq : ∀ k (hk : k < l.length) w', Below w.heap.size w w' → Calls Tryz.prog g #[V l[k], c] w' fun e w'' => e = .returned (.bool (q l[k])) ∧ Below w'.heap.size w' w'') :
    Calls Tryz.prog 81 #[.slice a l.length cap, .func (.func g) #[] #[c]] w fun e w' => e = .returned (.int .i64 (firstIx q l)) ∧ Below w.heap.size w w' := by
  have HQ := Lib.hid hq; clear hq
  have HT := Lib.hid hT; clear hT
  go_enter Tryz.func81, Tryz.ntmps81
  go_wp2
  go_loopg [8] l.length (fun g i wr => ∃ k : Nat, k + g = l.length ∧ i = .int .i64 k ∧ Below w.heap.size w wr ∧ ∀ j (h : j < l.length), j < k → q l[j] = false)
  case atStart => exact ⟨0, Nat.zero_add _, rfl, Below.refl _ _, fun j _ h => absurd h (Nat.not_lt_zero j)⟩
  case round =>
    obtain ⟨k, hk, rfl, hbel, hall⟩ := hrel
    have HF := Lib.hid hall; clear hall
    by_cases hlt : k < l.length
    · obtain ⟨b, o, rfl, -, hp⟩ := HT.out.to hbel k hlt
      have HC := HQ.out k hlt _ hbel
      obtain ⟨p, hpp⟩ : ∃ p, l[k] = p := ⟨_, rfl⟩
      rw [hpp] at hp HC
      have HP := Lib.hid hpp; clear hpp
      obtain ⟨c1, c2⟩ := hp
      cases hf : q p with
      | false =>
        rw [hf] at HC
        have HF2 := Lib.hid hf; clear hf
        go_wp2_with fail
        refine HC.mono ?_
        rintro e w1 ⟨rfl, hb1⟩
        go_wp2_with fail
        go_roundg (gk - 1)
        case measure => omega
        case rel =>
          refine ⟨k + 1, by omega, by go_num, below_trans hbel hb1, fun j h hj => ?_⟩
          by_cases e : j = k
          · subst e; rw [HP.out]; exact HF2.out
          · exact HF.out j h (by omega)
      | true =>
        rw [hf] at HC
        have HF2 := Lib.hid hf; clear hf
        go_wp2_with fail
        refine HC.mono ?_
        rintro e w1 ⟨rfl, hb1⟩
        go_wp2_with fail
        go_ret
        exact ⟨ret_i (firstIx_some hlt (by rw [HP.out]; exact HF2.out) HF.out).symm, below_trans hbel hb1⟩
    · go_wp2
      go_ret
      exact ⟨ret_i (firstIx_none (fun j h => HF.out j h (by omega))).symm, hbel⟩

end Go.Proofs.YtbemnlmgemafkaaGreatDoor
