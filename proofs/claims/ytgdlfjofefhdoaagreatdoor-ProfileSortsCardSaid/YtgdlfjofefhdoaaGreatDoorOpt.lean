/- Lists of points, nil or not: all, checked, Check, and the reference's Check. -/
import Derived.Test.YtgdlfjofefhdoaaGreatDoorStartS
import Derived.Test.YtgdlfjofefhdoaaGreatDoorRefAB
namespace Go.Proofs.YtgdlfjofefhdoaaGreatDoor
open Go.RowKit Go.Sort Go.Lib Mb

theorem errOf3_two {l : List P3} (h : errOf3 l ≠ 0) : errOf3 l = 2 := by
  unfold errOf3 at *
  split at h
  · exact absurd rfl h
  · rename_i e; rw [if_neg e]
theorem errOf3_ok {l : List P3} (h : errOf3 l = 0) : ∀ p ∈ l, highB p = true := by
  unfold errOf3 at h
  split at h
  · rename_i e; exact List.all_eq_true.1 e
  · cases h

theorem rightS_calls (p : P3) (w : World) :
    Calls Tryz.prog 67 #[V3 p] w fun e w' => e = .returned (.bool (highB p)) ∧ Below w.heap.size w w' := by
  obtain ⟨x, y, z⟩ := p
  cases h1 : inB x with
  | true =>
    cases h2 : inB y with
    | true =>
      go_enter Tryz.func67, Tryz.ntmps67
      go_wp2_with (go_at_call 116; refine (rin_calls _ _).mono ?_; rintro e w' ⟨rfl, rfl⟩)
      go_ret
      exact ⟨ret_b (by simp [highB, h1, h2]), alloc_below _ _⟩
    | false =>
      go_enter Tryz.func67, Tryz.ntmps67
      go_wp2_with (go_at_call 116; refine (rin_calls _ _).mono ?_; rintro e w' ⟨rfl, rfl⟩)
      go_ret
      exact ⟨ret_b (by simp [highB, h1, h2]), alloc_below _ _⟩
  | false =>
    go_enter Tryz.func67, Tryz.ntmps67
    go_wp2_with (go_at_call 116; refine (rin_calls _ _).mono ?_; rintro e w' ⟨rfl, rfl⟩)
    go_ret
    exact ⟨ret_b (by simp [highB, h1]), alloc_below _ _⟩

/-- cells that hold points, or nothing -/
def Sl2 (w : World) (a : Option Addr) (l : List P2) : Prop := ∀ i (h : i < l.length), ∃ b o, a = some ⟨b, o, none⟩ ∧ b < w.heap.size ∧ w.cell? ⟨b, o + i * 2, none⟩ = some (.int .i64 l[i].x) ∧ w.cell? ⟨b, o + i * 2 + 1, none⟩ = some (.int .i64 l[i].y)
theorem Sl2.to {w w' : World} {a : Option Addr} {l : List P2} (h : Sl2 w a l) (hb : Below w.heap.size w w') : Sl2 w' a l := fun i hi => by
  obtain ⟨b, o, e, hlt, hc⟩ := h i hi
  refine ⟨b, o, e, Nat.lt_of_lt_of_le hlt hb.size, ?_⟩
  exact ⟨(hb.cell (p := ⟨b, _, none⟩) hlt).trans hc.1, (hb.cell (p := ⟨b, _, none⟩) hlt).trans hc.2⟩
theorem Sl2.of {w : World} {b o : Nat} {l : List P2} (h : Pts w b o l) : Sl2 w (some ⟨b, o, none⟩) l := fun i hi => ⟨b, o, rfl, h.1, h.2 i hi⟩
theorem Sl2.nil (w : World) : Sl2 w none [] := fun i hi => absurd hi (Nat.not_lt_zero i)

set_option maxHeartbeats 1600000 in
theorem allOP_calls (l : List P2) (a : Option Addr) (cap : Nat) (w : World) (hT : Sl2 w a l) (hn : l.length ≤ 1000000) :
    Calls Tryz.prog 51 #[.func (.func 52) #[] #[], .slice a l.length cap] w fun e w' => e = .returned (.int .i64 (errOf l)) ∧ Below w.heap.size w w' := by
  go_enter Tryz.func51, Tryz.ntmps51
  go_wp2
  go_loopg [9] l.length (fun g i wr => ∃ k : Nat, k + g = l.length ∧ i = .int .i64 k ∧ Below w.heap.size w wr ∧ errOf (l.drop k) = errOf l)
  case atStart => exact ⟨0, Nat.zero_add _, rfl, Below.refl _ _, by rw [List.drop_zero]⟩
  case round =>
    obtain ⟨k, hk, rfl, hbel, herr⟩ := hrel
    have HE := Lib.hid herr; clear herr
    by_cases hlt : k < l.length
    · obtain ⟨b, o, rfl, -, hp⟩ := hT.to hbel k hlt
      obtain ⟨p, hpp⟩ : ∃ p, l[k] = p := ⟨_, rfl⟩
      rw [hpp] at hp
      obtain ⟨c1, c2⟩ := hp
      have HP := Lib.hid hpp; clear hpp
      cases hf : flatB p with
      | true =>
        have HF := Lib.hid hf
        go_wp2_with fail
        refine (flat_calls p _).mono ?_
        rintro e w1 ⟨rfl, hb1⟩
        go_wp2_with fail
        go_roundg (gk - 1)
        case measure => omega
        case rel =>
          refine ⟨k + 1, by omega, by go_num, hbel.trans ((below_trans (alloc_below _ _) hb1).mono hbel.size), ?_⟩
          rw [← HE.out, List.drop_eq_getElem_cons hlt, HP.out]
          simp [errOf, HF.out]
      | false =>
        have HF := Lib.hid hf
        go_wp2_with fail
        refine (flat_calls p _).mono ?_
        rintro e w1 ⟨rfl, hb1⟩
        go_wp2_with fail
        go_ret
        refine ⟨ret_i ?_, hbel.trans ((below_trans (alloc_below _ _) hb1).mono hbel.size)⟩
        rw [← HE.out, List.drop_eq_getElem_cons hlt, HP.out]
        simp [errOf, HF.out]
    · go_wp2
      go_ret
      refine ⟨ret_i ?_, hbel⟩
      rw [← HE.out, List.drop_eq_nil_of_le (by omega)]; rfl

/-- the error of a list -/
def errL (l : List P2) : Int := if 64 < l.length then 5 else errOf l

set_option maxHeartbeats 800000 in
theorem checkP_calls (l : List P2) (a : Option Addr) (cap : Nat) (w : World) (hT : Sl2 w a l) (hn : l.length ≤ 9223372036854775807) :
    Calls Tryz.prog 89 #[.slice a l.length cap] w fun e w' => e = .returned (.int .i64 (errL l)) ∧ Below w.heap.size w w' := by
  have H : Calls Tryz.prog 140 #[.slice a l.length cap, .func (.func 52) #[] #[]] w fun e w' => e = .returned (.int .i64 (errL l)) ∧ Below w.heap.size w w' := by
    by_cases hl : 64 < l.length
    · go_enter Tryz.func140, Tryz.ntmps140
      go_wp2_with fail
      go_ret
      exact ⟨ret_i (by unfold errL; rw [if_pos hl]), Below.refl _ _⟩
    · have H2 := allOP_calls l a cap w hT (by omega)
      go_enter Tryz.func140, Tryz.ntmps140
      go_wp2_with fail
      refine H2.mono ?_
      rintro e w1 ⟨rfl, hb1⟩
      go_wp2_with fail
      go_ret
      exact ⟨ret_i (by unfold errL; rw [if_neg hl]), hb1⟩
  clear hT
  go_enter Tryz.func89, Tryz.ntmps89
  go_wp2_with fail
  refine H.mono ?_
  rintro e w1 ⟨rfl, hb1⟩
  go_wp2_with fail
  go_ret
  exact ⟨rfl, hb1⟩

set_option maxHeartbeats 1600000 in
theorem rcheckP_calls (l : List P2) (a : Option Addr) (cap : Nat) (w : World) (hT : Sl2 w a l) (hn : l.length ≤ 9223372036854775807) :
    Calls Tryz.prog 48 #[.slice a l.length cap] w fun e w' => e = .returned (.int .i64 (errL l)) ∧ Below w.heap.size w w' := by
  by_cases hl : 64 < l.length
  · go_enter Tryz.func48, Tryz.ntmps48
    go_wp2_with fail
    go_ret
    exact ⟨ret_i (by unfold errL; rw [if_pos hl]), Below.refl _ _⟩
  · have HL : errL l = errOf l := by unfold errL; rw [if_neg hl]
    rw [HL]
    clear HL
    go_enter Tryz.func48, Tryz.ntmps48
    go_wp2
    go_loopg [3] l.length (fun g i wr => ∃ k : Nat, k + g = l.length ∧ i = .int .i64 k ∧ Below w.heap.size w wr ∧ errOf (l.drop k) = errOf l)
    case atStart => exact ⟨0, Nat.zero_add _, rfl, Below.refl _ _, by rw [List.drop_zero]⟩
    case round =>
      obtain ⟨k, hk, rfl, hbel, herr⟩ := hrel
      have HE := Lib.hid herr; clear herr
      by_cases hlt : k < l.length
      · obtain ⟨b, o, rfl, -, hp⟩ := hT.to hbel k hlt
        obtain ⟨p, hpp⟩ : ∃ p, l[k] = p := ⟨_, rfl⟩
        rw [hpp] at hp
        obtain ⟨c1, c2⟩ := hp
        have HP := Lib.hid hpp; clear hpp
        cases hf : flatB p with
        | true =>
          have HF := Lib.hid hf
          go_wp2_with fail
          refine (right_calls p _).mono ?_
          rw [HF.out]
          rintro e w1 ⟨rfl, hb1⟩
          go_wp2_with fail
          go_roundg (gk - 1)
          case measure => omega
          case rel =>
            refine ⟨k + 1, by omega, by go_num, below_trans hbel hb1, ?_⟩
            rw [← HE.out, List.drop_eq_getElem_cons hlt, HP.out]
            simp [errOf, HF.out]
        | false =>
          have HF := Lib.hid hf
          go_wp2_with fail
          refine (right_calls p _).mono ?_
          rw [HF.out]
          rintro e w1 ⟨rfl, hb1⟩
          go_wp2_with fail
          go_ret
          refine ⟨ret_i ?_, below_trans hbel hb1⟩
          rw [← HE.out, List.drop_eq_getElem_cons hlt, HP.out]
          simp [errOf, HF.out]
      · go_wp2
        go_ret
        refine ⟨ret_i ?_, hbel⟩
        rw [← HE.out, List.drop_eq_nil_of_le (by omega)]; rfl

/-- cells that hold points, or nothing -/
def Sl3 (w : World) (a : Option Addr) (l : List P3) : Prop := ∀ i (h : i < l.length), ∃ b o, a = some ⟨b, o, none⟩ ∧ b < w.heap.size ∧ w.cell? ⟨b, o + i * 3, none⟩ = some (.int .i64 l[i].x) ∧ w.cell? ⟨b, o + i * 3 + 1, none⟩ = some (.int .i64 l[i].y) ∧ w.cell? ⟨b, o + i * 3 + 2, none⟩ = some (.int .i64 l[i].z)
theorem Sl3.to {w w' : World} {a : Option Addr} {l : List P3} (h : Sl3 w a l) (hb : Below w.heap.size w w') : Sl3 w' a l := fun i hi => by
  obtain ⟨b, o, e, hlt, hc⟩ := h i hi
  refine ⟨b, o, e, Nat.lt_of_lt_of_le hlt hb.size, ?_⟩
  exact ⟨(hb.cell (p := ⟨b, _, none⟩) hlt).trans hc.1, (hb.cell (p := ⟨b, _, none⟩) hlt).trans hc.2.1, (hb.cell (p := ⟨b, _, none⟩) hlt).trans hc.2.2⟩
theorem Sl3.of {w : World} {b o : Nat} {l : List P3} (h : Spts w b o l) : Sl3 w (some ⟨b, o, none⟩) l := fun i hi => ⟨b, o, rfl, h.1, h.2 i hi⟩
theorem Sl3.nil (w : World) : Sl3 w none [] := fun i hi => absurd hi (Nat.not_lt_zero i)

set_option maxHeartbeats 1600000 in
theorem allOS_calls (l : List P3) (a : Option Addr) (cap : Nat) (w : World) (hT : Sl3 w a l) (hn : l.length ≤ 1000000) :
    Calls Tryz.prog 64 #[.func (.func 65) #[] #[], .slice a l.length cap] w fun e w' => e = .returned (.int .i64 (errOf3 l)) ∧ Below w.heap.size w w' := by
  go_enter Tryz.func64, Tryz.ntmps64
  go_wp2
  go_loopg [9] l.length (fun g i wr => ∃ k : Nat, k + g = l.length ∧ i = .int .i64 k ∧ Below w.heap.size w wr ∧ errOf3 (l.drop k) = errOf3 l)
  case atStart => exact ⟨0, Nat.zero_add _, rfl, Below.refl _ _, by rw [List.drop_zero]⟩
  case round =>
    obtain ⟨k, hk, rfl, hbel, herr⟩ := hrel
    have HE := Lib.hid herr; clear herr
    by_cases hlt : k < l.length
    · obtain ⟨b, o, rfl, -, hp⟩ := hT.to hbel k hlt
      obtain ⟨p, hpp⟩ : ∃ p, l[k] = p := ⟨_, rfl⟩
      rw [hpp] at hp
      obtain ⟨c1, c2, c3⟩ := hp
      have HP := Lib.hid hpp; clear hpp
      cases hf : highB p with
      | true =>
        have HF := Lib.hid hf
        go_wp2_with fail
        refine (high_calls p _).mono ?_
        rintro e w1 ⟨rfl, hb1⟩
        go_wp2_with fail
        go_roundg (gk - 1)
        case measure => omega
        case rel =>
          refine ⟨k + 1, by omega, by go_num, hbel.trans ((below_trans (alloc_below _ _) hb1).mono hbel.size), ?_⟩
          rw [← HE.out, List.drop_eq_getElem_cons hlt, HP.out]
          simp [errOf3, HF.out]
      | false =>
        have HF := Lib.hid hf
        go_wp2_with fail
        refine (high_calls p _).mono ?_
        rintro e w1 ⟨rfl, hb1⟩
        go_wp2_with fail
        go_ret
        refine ⟨ret_i ?_, hbel.trans ((below_trans (alloc_below _ _) hb1).mono hbel.size)⟩
        rw [← HE.out, List.drop_eq_getElem_cons hlt, HP.out]
        simp [errOf3, HF.out]
    · go_wp2
      go_ret
      refine ⟨ret_i ?_, hbel⟩
      rw [← HE.out, List.drop_eq_nil_of_le (by omega)]; rfl

/-- the error of a list -/
def errL3 (l : List P3) : Int := if 64 < l.length then 5 else errOf3 l

end Go.Proofs.YtgdlfjofefhdoaaGreatDoor
