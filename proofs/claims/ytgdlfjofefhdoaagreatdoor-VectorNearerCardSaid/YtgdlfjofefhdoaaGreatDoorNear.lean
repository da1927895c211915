/- slices.IndexFunc and slices.ContainsFunc over points, and near. -/
import Derived.Test.YtgdlfjofefhdoaaGreatDoorAwake
namespace Go.Proofs.YtgdlfjofefhdoaaGreatDoor
open Go.RowKit Go.Sort Go.Lib Mb

/-- the index of the first one with a property, or -1 -/
def firstIx {A : Type} (q : A → Bool) (l : List A) : Int := match l.findIdx? q with | some i => i | none => -1

theorem firstIx_neg {A : Type} (q : A → Bool) (l : List A) : decide (0 ≤ firstIx q l) = l.any q := by
  unfold firstIx
  cases h : l.findIdx? q with
  | none =>
    rw [List.findIdx?_eq_none_iff] at h
    rw [show l.any q = false by rw [List.any_eq_false]; simpa using h]
    decide
  | some i =>
    have := List.findIdx?_eq_some_iff_getElem.1 h
    obtain ⟨hi, hq, -⟩ := this
    rw [show l.any q = true by rw [List.any_eq_true]; exact ⟨_, List.getElem_mem hi, hq⟩]
    simp

theorem firstIx_some {A : Type} {q : A → Bool} {l : List A} {k : Nat} (hk : k < l.length) (hq : q l[k] = true) (hb : ∀ j (h : j < l.length), j < k → q l[j] = false) : firstIx q l = k := by
  unfold firstIx
  rw [List.findIdx?_eq_some_iff_getElem.2 ⟨hk, hq, fun j hj => by rw [hb j (by omega) hj]; decide⟩]

theorem firstIx_none {A : Type} {q : A → Bool} {l : List A} (hb : ∀ j (h : j < l.length), q l[j] = false) : firstIx q l = -1 := by
  unfold firstIx
  rw [List.findIdx?_eq_none_iff.2 (fun x hx => by obtain ⟨j, hj, rfl⟩ := List.getElem_of_mem hx; exact hb j hj)]

set_option maxHeartbeats 1600000 in
theorem indexP_calls (g : Nat) (q : P2 → Bool) (l : List P2) (b o cap : Nat) (w : World) (hT : Pts w b o l) (hn : l.length ≤ 1000000000)
    (he : ∀ args w, (callFunc g args).run Tryz.prog w = .ok (.enter g args) w)
    (hq : ∀ p w', Below w.heap.size w w' → Calls Tryz.prog g #[V p] w' fun e w'' => e = .returned (.bool (q p)) ∧ Below w'.heap.size w' w'') :
    Calls Tryz.prog 130 #[.slice (some ⟨b, o, none⟩) l.length cap, .func (.func g) #[] #[]] w fun e w' => e = .returned (.int .i64 (firstIx q l)) ∧ Below w.heap.size w w' := by
  have HQ := Lib.hid hq; clear hq
  have HT := Lib.hid hT; clear hT
  go_enter Tryz.func130, Tryz.ntmps130
  go_wp2
  go_loopg [8] l.length (fun g i wr => ∃ k : Nat, k + g = l.length ∧ i = .int .i64 k ∧ Below w.heap.size w wr ∧ ∀ j (h : j < l.length), j < k → q l[j] = false)
  case atStart => exact ⟨0, Nat.zero_add _, rfl, Below.refl _ _, fun j _ h => absurd h (Nat.not_lt_zero j)⟩
  case round =>
    obtain ⟨k, hk, rfl, hbel, hall⟩ := hrel
    have HF := Lib.hid hall; clear hall
    by_cases hlt : k < l.length
    · have hp := (HT.out.to hbel).2 k hlt
      obtain ⟨p, hpp⟩ : ∃ p, l[k] = p := ⟨_, rfl⟩
      rw [hpp] at hp
      obtain ⟨c1, c2⟩ := hp
      have HP := Lib.hid hpp; clear hpp
      have HC := HQ.out p _ hbel
      cases hf : q p with
      | false =>
        rw [hf] at HC
        have HF2 := Lib.hid hf; clear hf
        go_wp2_with fail
        refine HC.mono ?_
        rintro e w1 ⟨rfl, hb1⟩
        go_wp2_with fail
        go_roundg (gk - 1)
        case measure => omega
        case rel =>
          refine ⟨k + 1, by omega, by go_num, below_trans hbel hb1, fun j h hj => ?_⟩
          by_cases e : j = k
          · subst e; rw [HP.out]; exact HF2.out
          · exact HF.out j h (by omega)
      | true =>
        rw [hf] at HC
        have HF2 := Lib.hid hf; clear hf
        go_wp2_with fail
        refine HC.mono ?_
        rintro e w1 ⟨rfl, hb1⟩
        go_wp2_with fail
        go_ret
        exact ⟨ret_i (firstIx_some hlt (by rw [HP.out]; exact HF2.out) HF.out).symm, below_trans hbel hb1⟩
    · go_wp2
      go_ret
      exact ⟨ret_i (firstIx_none (fun j h => HF.out j h (by omega))).symm, hbel⟩

theorem containsP_calls (g : Nat) (q : P2 → Bool) (l : List P2) (b o cap : Nat) (w : World) (hT : Pts w b o l) (hn : l.length ≤ 1000000000)
    (he : ∀ args w, (callFunc g args).run Tryz.prog w = .ok (.enter g args) w)
    (hq : ∀ p w', Below w.heap.size w w' → Calls Tryz.prog g #[V p] w' fun e w'' => e = .returned (.bool (q p)) ∧ Below w'.heap.size w' w'') :
    Calls Tryz.prog 76 #[.slice (some ⟨b, o, none⟩) l.length cap, .func (.func g) #[] #[]] w fun e w' => e = .returned (.bool (l.any q)) ∧ Below w.heap.size w w' := by
  have H := indexP_calls g q l b o cap w hT hn he hq
  clear hq he hT
  go_enter Tryz.func76, Tryz.ntmps76
  go_wp2_with fail
  refine H.mono ?_
  rintro e w1 ⟨rfl, hb1⟩
  clear H
  have hf := firstIx_neg q l
  go_wp2_with fail
  go_ret
  exact ⟨rfl, hb1⟩

def nearI (n : Int) : Bool := decide (-9000 ≤ n) && decide (n ≤ 9000)
def nearB (p : P2) : Bool := nearI p.x && nearI p.y

set_option maxHeartbeats 800000 in
theorem near1_calls (p : P2) (w : World) :
    Calls Tryz.prog 77 #[V p] w fun e w' => e = .returned (.bool (!nearB p)) ∧ Below w.heap.size w w' := by
  obtain ⟨x, y⟩ := p
  by_cases h1 : x < -9000
  · go_enter Tryz.func77, Tryz.ntmps77
    go_wp2
    go_ret
    exact ⟨ret_b (by simp [nearB, nearI]; omega), alloc_below _ _⟩
  · by_cases h2 : x > 9000
    · go_enter Tryz.func77, Tryz.ntmps77
      go_wp2
      go_ret
      exact ⟨ret_b (by simp [nearB, nearI]; omega), alloc_below _ _⟩
    · by_cases h3 : y < -9000
      · go_enter Tryz.func77, Tryz.ntmps77
        go_wp2
        go_ret
        exact ⟨ret_b (by simp [nearB, nearI]; omega), alloc_below _ _⟩
      · by_cases h4 : y > 9000
        · go_enter Tryz.func77, Tryz.ntmps77
          go_wp2
          go_ret
          exact ⟨ret_b (by simp [nearB, nearI]; omega), alloc_below _ _⟩
        · go_enter Tryz.func77, Tryz.ntmps77
          go_wp2
          go_ret
          exact ⟨ret_b (by simp [nearB, nearI]; omega), alloc_below _ _⟩

theorem near_calls (l : List P2) (b o n cap : Nat) (hl : l.length = n) (w : World) (hT : Pts w b o l) (hn : l.length ≤ 1000000000) :
    Calls Tryz.prog 24 #[.slice (some ⟨b, o, none⟩) n cap] w fun e w' => e = .returned (.bool (l.all nearB)) ∧ Below w.heap.size w w' := by
  subst hl
  have H := containsP_calls 77 (fun p => !nearB p) l b o cap w hT hn (enters_of Tryz.func77 (by kernel_rfl) rfl) (fun p w' _ => near1_calls p w')
  clear hT
  have hf : (!(l.any fun p => !nearB p)) = l.all nearB := by
    rw [List.not_any_eq_all_not]; simp
  go_enter Tryz.func24, Tryz.ntmps24
  go_wp2_with fail
  refine H.mono ?_
  rintro e w1 ⟨rfl, hb1⟩
  clear H
  go_wp2_with fail
  go_ret
  exact ⟨rfl, hb1⟩

end Go.Proofs.YtgdlfjofefhdoaaGreatDoor
