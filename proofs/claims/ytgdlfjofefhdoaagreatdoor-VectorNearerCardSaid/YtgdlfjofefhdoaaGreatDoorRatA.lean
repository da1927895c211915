/- Package ratio: sums.do, lowest, Make, Whole; whole.Quo of short numbers. -/
import Derived.Test.YtgdlfjofefhdoaaGreatDoorGcd1
namespace Go.Proofs.YtgdlfjofefhdoaaGreatDoor
open Go.RowKit Go.Sort Go.Lib Mb

theorem below_same {w : World} {a : Addr} {v : Value} (h : w.cell? a = some v) : Below w.heap.size w (w.setCell a v) := by
  refine ⟨rfl, rfl, rfl, by simp [World.setCell], fun k _ => ?_⟩
  simp only [World.setCell, Array.getElem?_modify]
  split
  · rename_i e
    subst e
    unfold World.cell? at h
    cases ho : w.heap[a.block]? with
    | none => rfl
    | some o =>
      rw [ho] at h
      cases o with
      | cells c t fz =>
        simp only at h
        split at h
        · cases h
        · rename_i hs
          simp only [hs, Bool.false_eq_true, if_false, Option.map_some, Option.some.injEq, Obj.cells.injEq, and_true]
          apply Array.ext_getElem?
          intro i
          rw [Array.getElem?_setIfInBounds]
          split
          · rename_i e; subst e; split <;> simp_all
          · rfl
      | _ => rfl
  · rfl

/-- a sums block without an error -/
def Sums (w : World) (s : Nat) : Prop := w.heap[s]? = some (.cells #[.int .i64 0] 121 (0, 0))
theorem Sums.c {w : World} {s : Nat} (h : Sums w s) : w.cell? ⟨s, 0, none⟩ = some (.int .i64 0) := by unfold Sums at h; simp [World.cell?, h]
theorem Sums.free {w : World} {s : Nat} (h : Sums w s) : w.frozen? ⟨s, 0, none⟩ = false := by unfold Sums at h; simp [World.frozen?, h]
theorem Sums.lt {w : World} {s : Nat} (h : Sums w s) : s < w.heap.size := (Array.getElem?_eq_some_iff.1 h).1
theorem Sums.to {w w' : World} {s : Nat} (h : Sums w s) (hb : Below w.heap.size w w') : Sums w' s := by unfold Sums at *; rw [hb.block s (Array.getElem?_eq_some_iff.1 h).1]; exact h
theorem sums_new (w : World) : Sums (w.alloc (.cells #[.int .i64 0] 121)) w.heap.size := by unfold Sums World.alloc; simp

set_option maxHeartbeats 400000 in
theorem do_calls (s g : Nat) (a b r : Value) (w : World) (hs : Sums w s) (he : ∀ args w, (callFunc g args).run Tryz.prog w = .ok (.enter g args) w)
    (hop : ∀ w', Below w.heap.size w w' → Calls Tryz.prog g #[a, b] w' fun e w'' => e = .returned (.tuple #[r, .int .i64 0]) ∧ Below w'.heap.size w' w'') :
    Calls Tryz.prog 133 #[.pointer (some ⟨s, 0, none⟩), .func (.func g) #[] #[], a, b] w fun e w' => e = .returned r ∧ Below w.heap.size w w' := by
  have c := hs.c
  have H := hop w (Below.refl _ _)
  clear hop
  go_enter Tryz.func133, Tryz.ntmps133
  go_wp2_with fail
  refine H.mono ?_
  rintro e w1 ⟨rfl, hb⟩
  have hs1 := hs.to hb
  have c1 := hs1.c
  have f1 := hs1.free
  clear H hs c
  go_wp2_with fail
  go_ret
  exact ⟨rfl, below_trans hb (below_same c1)⟩

theorem quo_short (a b : Int) (w : World) (hg : Good w) (ha : (itoa a).length ≤ 9) (hb : (itoa b).length ≤ 9) (h0 : 0 ≤ a) (h1 : 0 < b) :
    Calls Tryz.prog 174 #[S a, S b] w fun e w' => e = .returned (.tuple #[S (a / b), .int .i64 0]) ∧ Below w.heap.size w w' := by
  have ba := itoa_bd ha (by omega)
  obtain ⟨q1, q2, -, -, -⟩ := quo_facts h0 h1
  have hdq : (dg (a / b)).length ≤ 1024 := by
    have := (decDigits_len_le (u := (a / b).natAbs) (k := 9) (by omega)).2 (by omega)
    exact Nat.le_trans this (by omega)
  go_enter Tryz.func174, Tryz.ntmps174
  go_wp2_with fail
  refine (parted_short a b w hg ha hb h0 h1).mono ?_
  rintro e w1 ⟨rfl, hb1⟩
  go_wp2_with fail
  refine (check_calls (a / b) _ hdq).mono ?_
  rintro e w2 ⟨rfl, hb2⟩
  go_wp2_with fail
  go_ret2
  exact ⟨rfl, below_trans hb1 hb2⟩

theorem itoa_one : itoa 1 = [49] := by rw [Mb.itoa_nonneg (by omega)]; rw [show (1 : Int).natAbs = 1 from rfl, decDigits]; rfl
theorem itoa_ne_one {n : Int} (h : n ≠ 1) : (itoa n == [49]) = false := by
  rw [beq_eq_false_iff_ne]; intro e; exact h (itoa_inj (e.trans itoa_one.symm))

/-- a quotient in lowest terms as a text -/
abbrev R (p q : Int) : Value := .string ⟨(rtxt p q).toArray⟩

theorem joined_calls (p q : Int) (w : World) (hp : (itoa p).length ≤ 100000) (hq : (itoa q).length ≤ 100000) :
    Calls Tryz.prog 173 #[S p, S q] w fun e w' => e = .returned (R p q) ∧ Below w.heap.size w w' := by
  by_cases h : q = 1
  · subst h
    have e1 := itoa_one
    have e2 : rtxt p 1 = itoa p := if_pos rfl
    have H := Lib.hid e2; clear e2
    have hS : S 1 = .string ⟨#[49]⟩ := by show Value.string ⟨(itoa 1).toArray⟩ = _; rw [e1]
    rw [hS]; clear hS e1 hq
    go_enter Tryz.func173, Tryz.ntmps173
    go_wp2_with fail
    go_ret
    refine ⟨?_, Below.refl _ _⟩
    show Ending.returned (S p) = Ending.returned (.string ⟨(rtxt p 1).toArray⟩)
    rw [H.out]
  · have e1 := itoa_ne_one h
    have e2 : rtxt p q = itoa p ++ 47 :: itoa q := if_neg h
    have H := Lib.hid e2; clear e2
    go_enter Tryz.func173, Tryz.ntmps173
    go_wp2_with fail
    go_ret
    refine ⟨?_, Below.refl _ _⟩
    show Ending.returned (Value.string ((⟨(itoa p).toArray⟩ : ByteArray) ++ ⟨#[47]⟩ ++ ⟨(itoa q).toArray⟩)) = Ending.returned (.string ⟨(rtxt p q).toArray⟩)
    rw [H.out]
    exact congrArg (fun s => Ending.returned (Value.string s)) (ByteArray.ext (Array.ext' (by simp)))

theorem prefix_pos {d : Int} (h : 0 ≤ d) : Lib.hasPrefix (itoa d) [45] = false := by
  rw [Mb.itoa_nonneg h]
  cases hd : decDigits d.natAbs with
  | nil => exact absurd hd (decDigits_ne _)
  | cons b r =>
    have hb := dig_decDigits d.natAbs b (by rw [hd]; simp)
    have : (45 == b) = false := by rw [beq_eq_false_iff_ne]; intro e; subst e; simp at hb
    simp [Lib.hasPrefix, List.isPrefixOf, this]

theorem hasPrefix_calls (d : Int) (w : World) (h : 0 ≤ d) :
    Calls Tryz.prog 171 #[S d, .string ⟨#[45]⟩] w fun e w' => e = .returned (.bool false) ∧ w = w' := by
  refine (Tryz.strings_HasPrefix ⟨(itoa d).toArray⟩ ⟨#[45]⟩ w).mono ?_
  rintro e w' ⟨rfl, rfl⟩
  refine ⟨?_, rfl⟩
  rw [show Lib.hasPrefix (⟨(itoa d).toArray⟩ : ByteArray).data.toList (⟨#[45]⟩ : ByteArray).data.toList = false from prefix_pos h]

/-- what lowest asks of the operations on its two integers, in all later worlds -/
structure LowOps (n d : Int) : Prop where
  pos : 0 < d
  gcd : ∀ w, Good w → Calls Tryz.prog 164 #[S n, S d] w fun e w' => e = .returned (.tuple #[S (Int.gcd n d), .int .i64 0]) ∧ Below w.heap.size w w'
  qn : ∀ w, Good w → Calls Tryz.prog 174 #[S n, S (Int.gcd n d)] w fun e w' => e = .returned (.tuple #[S (rn n d), .int .i64 0]) ∧ Below w.heap.size w w'
  qd : ∀ w, Good w → Calls Tryz.prog 174 #[S d, S (Int.gcd n d)] w fun e w' => e = .returned (.tuple #[S (rd n d), .int .i64 0]) ∧ Below w.heap.size w w'
  ln : (itoa (rn n d)).length ≤ 100000
  ld : (itoa (rd n d)).length ≤ 100000

set_option maxHeartbeats 800000 in
theorem lowest_calls (s : Nat) (n d : Int) (w : World) (hg : Good w) (hs : Sums w s) (ho : LowOps n d) :
    Calls Tryz.prog 148 #[.pointer (some ⟨s, 0, none⟩), S n, S d] w fun e w' => e = .returned (R (rn n d) (rd n d)) ∧ Below w.heap.size w w' := by
  go_enter Tryz.func148, Tryz.ntmps148
  go_wp2_with fail
  refine (do_calls s _ _ _ _ w hs (enters_of Tryz.func164 (by kernel_rfl) rfl) (fun w' hb => ho.gcd w' (hg.to hb))).mono ?_
  rintro e w1 ⟨rfl, hb1⟩
  go_wp2_with fail
  refine (hasPrefix_calls d _ (Int.le_of_lt ho.pos)).mono ?_
  rintro e w1 ⟨rfl, rfl⟩
  have hs1 := hs.to hb1
  have c1 := hs1.c
  go_wp2_with fail
  refine (do_calls s _ _ _ _ _ hs1 (enters_of Tryz.func174 (by kernel_rfl) rfl) (fun w' hb => ho.qn w' (hg.to (below_trans hb1 hb)))).mono ?_
  rintro e w2 ⟨rfl, hb2⟩
  have hs2 := hs1.to hb2
  go_wp2_with fail
  refine (do_calls s _ _ _ _ _ hs2 (enters_of Tryz.func174 (by kernel_rfl) rfl) (fun w' hb => ho.qd w' (hg.to (below_trans (below_trans hb1 hb2) hb)))).mono ?_
  rintro e w3 ⟨rfl, hb3⟩
  go_wp2_with fail
  refine (joined_calls _ _ _ ho.ln ho.ld).mono ?_
  rintro e w4 ⟨rfl, hb4⟩
  go_wp2_with fail
  go_ret
  exact ⟨rfl, below_trans (below_trans (below_trans hb1 hb2) hb3) hb4⟩

end Go.Proofs.YtgdlfjofefhdoaaGreatDoor
