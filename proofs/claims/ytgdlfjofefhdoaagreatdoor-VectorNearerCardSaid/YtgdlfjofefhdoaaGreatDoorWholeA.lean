/- Package whole: Check, all, Of, small, result on canonical texts. -/
import Derived.Test.YtgdlfjofefhdoaaGreatDoorLib
namespace Go.Proofs.YtgdlfjofefhdoaaGreatDoor
open Go.RowKit Go.Sort Go.Lib Mb

theorem one_of {l : List UInt8} (hl : l.length = 1) (hp : 0 < l.length) (h : l[0] = 48) : l = [48] := by
  match l, hl with
  | [x], _ => simp at h; rw [h]

theorem dg_head (n : Int) (hp : 0 < (dg n).length) (h : (dg n)[0] = 48) : itoa n = [48] := by
  have hc := (can_decDigits n.natAbs).2.2 (by show (dg n).head? = some 48; rw [List.head?_eq_getElem?, List.getElem?_eq_getElem hp, h])
  have hd : dg n = [48] := one_of hc hp h
  have hz : n = 0 := by
    have := dv_decDigits n.natAbs
    have h2 : decDigits n.natAbs = [48] := hd
    rw [h2] at this; simp [dv_one] at this; omega
  subst hz; rw [Mb.itoa_nonneg (by omega)]; exact hd

set_option maxHeartbeats 400000 in
theorem check_calls (n : Int) (w : World) (h : (dg n).length ≤ 1024) :
    Calls Tryz.prog 147 #[S n] w fun e w' => e = .returned (.int .i64 0) ∧ Below w.heap.size w w' := by
  have hne : (dg n).isEmpty = false := by simp [dg_ne n]
  have hpos : 0 < (dg n).length := by have := dg_ne n; cases h : dg n <;> simp_all
  go_enter Tryz.func147, Tryz.ntmps147
  go_wp2_with (first
    | (go_at_call 136; refine (trimPrefix_calls _ _).mono ?_; rintro e w' ⟨rfl, rfl⟩)
    | (go_at_call 170; refine (trim_calls _ (dg_dig n) (by omega) _).mono ?_; rintro e w' ⟨rfl, hb⟩))
  · exfalso
    have h1 : ((⟨(dg n).toArray⟩ : ByteArray)[0]'(by simpa [ByteArray.size] using hpos)).toNat = (48 : Int) := by assumption
    have h2 : (!itoa n == [48]) = true := by assumption
    have h3 : (dg n)[0] = 48 := UInt8.toNat_inj.1 (show (dg n)[0].toNat = 48 by have : ((dg n)[0].toNat : Int) = 48 := h1; omega)
    rw [dg_head n hpos h3] at h2; simp at h2
  all_goals (go_ret; exact ⟨rfl, by assumption⟩)

/-- cells that hold numbers as texts -/
def Txts (w : World) (b : Nat) (l : List Int) : Prop := b < w.heap.size ∧ ∀ i (h : i < l.length), w.cell? ⟨b, i, none⟩ = some (S l[i])

set_option maxHeartbeats 400000 in
theorem all_calls (l : List Int) (b cap : Nat) (w : World) (hT : Txts w b l) (hl : ∀ n ∈ l, (dg n).length ≤ 1024) (hn : l.length ≤ 100) :
    Calls Tryz.prog 120 #[.slice (some ⟨b, 0, none⟩) l.length cap] w fun e w' => e = .returned (.int .i64 0) ∧ Below w.heap.size w w' := by
  obtain ⟨hb, hc⟩ := hT
  go_enter Tryz.func120, Tryz.ntmps120
  go_wp2
  go_loopw [8] (fun i wr => ∃ k : Nat, k ≤ l.length ∧ i = .int .i64 k ∧ Below w.heap.size w wr) (fun i _ => l.length - (RowKit.intOf i).toNat)
  case atStart => exact ⟨0, Nat.zero_le _, rfl, Below.refl _ _⟩
  case round =>
    obtain ⟨k, hk, rfl, hbel⟩ := hrel
    by_cases hlt : k < l.length
    · have hcell : wr.cell? ⟨b, k, none⟩ = some (S l[k]) := (hbel.cell (p := ⟨b, k, none⟩) hb).trans (hc k hlt)
      have hdl := hl l[k] (List.getElem_mem hlt)
      go_wp2_with (go_at_call 147; refine (check_calls _ _ hdl).mono ?_; rintro e w' ⟨rfl, hb'⟩)
      go_roundw
      case rel => exact ⟨k + 1, by omega, by go_num, hbel.trans (hb'.mono hbel.size)⟩
      case measure => simp [RowKit.intOf]; omega
    · go_wp2
      go_ret
      exact ⟨rfl, hbel⟩

theorem of_calls (n : Int) (w : World) (hg : Good w) (h0 : -9223372036854775808 ≤ n) (h1 : n ≤ 9223372036854775807) :
    Calls Tryz.prog 56 #[.int .i64 n] w fun e w' => e = .returned (S n) ∧ Below w.heap.size w w' := by
  go_enter Tryz.func56, Tryz.ntmps56
  go_wp2_with (go_at_call 109; refine (itoa_calls _ _ hg h0 h1).mono ?_; rintro e w' ⟨rfl, hb⟩)
  go_ret
  exact ⟨rfl, hb⟩

theorem result_calls (n : Int) (w : World) (hg : Good w) (h0 : -9223372036854775808 ≤ n) (h1 : n ≤ 9223372036854775807) :
    Calls Tryz.prog 122 #[.int .i64 n] w fun e w' => e = .returned (.tuple #[S n, .int .i64 0]) ∧ Below w.heap.size w w' := by
  go_enter Tryz.func122, Tryz.ntmps122
  go_wp2_with (go_at_call 56; refine (of_calls _ _ hg h0 h1).mono ?_; rintro e w' ⟨rfl, hb⟩)
  go_ret2
  exact ⟨rfl, hb⟩

theorem decNat_dg (n : Int) : Lib.decNat (decDigits n.natAbs) = some n.natAbs := by
  unfold Lib.decNat
  have h := decFrom_dvf (decDigits n.natAbs) 0 (dig_decDigits _)
  have hne := decDigits_ne n.natAbs
  have h2 : dvf 0 (decDigits n.natAbs) = n.natAbs := dv_decDigits _
  rw [if_neg (by simp [hne]), h, h2]

theorem atoi_itoa (n : Int) : Lib.atoi (itoa n) = some n := by
  by_cases hn : n < 0
  · rw [itoa_neg hn]
    show ((Lib.decNat (decDigits n.natAbs)).map fun (m : Nat) => -(m : Int)) = some n
    rw [decNat_dg]
    show some (-(n.natAbs : Int)) = some n
    congr 1; omega
  · rw [Mb.itoa_nonneg (by omega)]
    cases hd : decDigits n.natAbs with
    | nil => exact absurd hd (decDigits_ne _)
    | cons b r =>
      have hb := dig_decDigits n.natAbs b (by rw [hd]; simp)
      have e45 : (b == 45) = false := by rw [beq_eq_false_iff_ne]; intro e; subst e; simp at hb
      have e43 : (b == 43) = false := by rw [beq_eq_false_iff_ne]; intro e; subst e; simp at hb
      show (if b == 45 then _ else if b == 43 then _ else (Lib.decNat (b :: r)).map fun (m : Nat) => (m : Int)) = some n
      rw [e45, e43, ← hd, decNat_dg]
      show some (n.natAbs : Int) = some n
      congr 1; omega

theorem atoiS_calls (n : Int) (w : World) (h : (itoa n).length ≤ 18) :
    Calls Tryz.prog 151 #[S n] w fun e w' => e = .returned (.tuple #[.int .i64 n, .nilIface]) ∧ Below w.heap.size w w' :=
  atoi_calls _ n w (by simpa [ByteArray.size] using h) (atoi_itoa n)

theorem small_yes (a b : Int) (w : World) (ha : (itoa a).length ≤ 9) (hb : (itoa b).length ≤ 9) :
    Calls Tryz.prog 121 #[S a, S b] w fun e w' => e = .returned (.tuple #[.int .i64 a, .int .i64 b, .bool true]) ∧ Below w.heap.size w w' := by
  go_enter Tryz.func121, Tryz.ntmps121
  go_wp2_with fail
  refine (atoiS_calls a _ (by omega)).mono ?_
  rintro e w' ⟨rfl, hb1⟩
  go_wp2_with fail
  refine (atoiS_calls b _ (by omega)).mono ?_
  rintro e w' ⟨rfl, hb2⟩
  go_wp2_with fail
  go_ret3
  exact ⟨rfl, below_trans hb1 hb2⟩

theorem small_no (a b : Int) (w : World) (h : 9 < (itoa a).length ∨ 9 < (itoa b).length) :
    Calls Tryz.prog 121 #[S a, S b] w fun e w' => e = .returned (.tuple #[.int .i64 0, .int .i64 0, .bool false]) ∧ Below w.heap.size w w' := by
  by_cases ha : 9 < (itoa a).length
  · go_enter Tryz.func121, Tryz.ntmps121
    go_wp2_with fail
    go_ret3
    exact ⟨rfl, Below.refl _ _⟩
  · have hb : 9 < (itoa b).length := by omega
    clear h
    go_enter Tryz.func121, Tryz.ntmps121
    go_wp2_with fail
    go_ret3
    exact ⟨rfl, Below.refl _ _⟩

end Go.Proofs.YtgdlfjofefhdoaaGreatDoor
