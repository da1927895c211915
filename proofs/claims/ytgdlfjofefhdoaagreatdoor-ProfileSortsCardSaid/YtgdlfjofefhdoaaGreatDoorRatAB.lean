/- Package ratio: sums.do, lowest, Make, Whole; whole.Quo of short numbers. Package ratio: Make, Whole; vector.squared. -/
import Derived.Test.YtgdlfjofefhdoaaGreatDoorWhA
namespace Go.Proofs.YtgdlfjofefhdoaaGreatDoor
open Go.RowKit Go.Sort Go.Lib Mb

theorem below_same {w : World} {a : Addr} {v : Value} (h : w.cell? a = some v) : Below w.heap.size w (w.setCell a v) := by
  refine ⟨rfl, rfl, rfl, by simp [World.setCell], fun k _ => ?_⟩
  simp only [World.setCell, Array.getElem?_modify]
  split
  · rename_i e
    subst e
    unfold World.cell? at h
    cases ho : w.heap[a.block]? with
    | none => rfl
    | some o =>
      rw [ho] at h
      cases o with
      | cells c t fz =>
        simp only at h
        split at h
        · cases h
        · rename_i hs
          simp only [hs, Bool.false_eq_true, if_false, Option.map_some, Option.some.injEq, Obj.cells.injEq, and_true]
          apply Array.ext_getElem?
          intro i
          rw [Array.getElem?_setIfInBounds]
          split
          · rename_i e; subst e; split <;> simp_all
          · rfl
      | _ => rfl
  · rfl

/-- a sums block without an error -/
def Sums (w : World) (s : Nat) : Prop := w.heap[s]? = some (.cells #[.int .i64 0] 121 (0, 0))
theorem Sums.c {w : World} {s : Nat} (h : Sums w s) : w.cell? ⟨s, 0, none⟩ = some (.int .i64 0) := by unfold Sums at h; simp [World.cell?, h]
theorem Sums.free {w : World} {s : Nat} (h : Sums w s) : w.frozen? ⟨s, 0, none⟩ = false := by unfold Sums at h; simp [World.frozen?, h]
theorem Sums.lt {w : World} {s : Nat} (h : Sums w s) : s < w.heap.size := (Array.getElem?_eq_some_iff.1 h).1
theorem Sums.to {w w' : World} {s : Nat} (h : Sums w s) (hb : Below w.heap.size w w') : Sums w' s := by unfold Sums at *; rw [hb.block s (Array.getElem?_eq_some_iff.1 h).1]; exact h
theorem sums_new (w : World) : Sums (w.alloc (.cells #[.int .i64 0] 121)) w.heap.size := by unfold Sums World.alloc; simp

set_option maxHeartbeats 400000 in
theorem do_calls (s g : Nat) (a b r : Value) (w : World) (hs : Sums w s) (he : ∀ args w, (callFunc g args).run Tryz.prog w = .ok (.enter g args) w)
    (hop : ∀ w', Below w.heap.size w w' → Calls Tryz.prog g #[a, b] w' fun e w'' => e = .returned (.tuple #[r, .int .i64 0]) ∧ Below w'.heap.size w' w'') :
    Calls Tryz.prog 133 #[.pointer (some ⟨s, 0, none⟩), .func (.func g) #[] #[], a, b] w fun e w' => e = .returned r ∧ Below w.heap.size w w' := by
  have c := hs.c
  have H := hop w (Below.refl _ _)
  clear hop
  go_enter Tryz.func133, Tryz.ntmps133
  go_wp2_with fail
  refine H.mono ?_
  rintro e w1 ⟨rfl, hb⟩
  have hs1 := hs.to hb
  have c1 := hs1.c
  have f1 := hs1.free
  clear H hs c
  go_wp2_with fail
  go_ret
  exact ⟨rfl, below_trans hb (below_same c1)⟩

theorem quo_short (a b : Int) (w : World) (hg : Good w) (ha : (itoa a).length ≤ 9) (hb : (itoa b).length ≤ 9) (h0 : 0 ≤ a) (h1 : 0 < b) :
    Calls Tryz.prog 174 #[S a, S b] w fun e w' => e = .returned (.tuple #[S (a / b), .int .i64 0]) ∧ Below w.heap.size w w' := by
  have ba := itoa_bd ha (by omega)
  obtain ⟨q1, q2, -, -, -⟩ := quo_facts h0 h1
  have hdq : (dg (a / b)).length ≤ 1024 := by
    have := (decDigits_len_le (u := (a / b).natAbs) (k := 9) (by omega)).2 (by omega)
    exact Nat.le_trans this (by omega)
  go_enter Tryz.func174, Tryz.ntmps174
  go_wp2_with fail
  refine (parted_short a b w hg ha hb h0 h1).mono ?_
  rintro e w1 ⟨rfl, hb1⟩
  go_wp2_with fail
  refine (check_calls (a / b) _ hdq).mono ?_
  rintro e w2 ⟨rfl, hb2⟩
  go_wp2_with fail
  go_ret2
  exact ⟨rfl, below_trans hb1 hb2⟩

theorem itoa_one : itoa 1 = [49] := by rw [Mb.itoa_nonneg (by omega)]; rw [show (1 : Int).natAbs = 1 from rfl, decDigits]; rfl
theorem itoa_ne_one {n : Int} (h : n ≠ 1) : (itoa n == [49]) = false := by
  rw [beq_eq_false_iff_ne]; intro e; exact h (itoa_inj (e.trans itoa_one.symm))

/-- a quotient in lowest terms as a text -/
abbrev R (p q : Int) : Value := .string ⟨(rtxt p q).toArray⟩

theorem joined_calls (p q : Int) (w : World) (hp : (itoa p).length ≤ 100000) (hq : (itoa q).length ≤ 100000) :
    Calls Tryz.prog 173 #[S p, S q] w fun e w' => e = .returned (R p q) ∧ Below w.heap.size w w' := by
  by_cases h : q = 1
  · subst h
    have e1 := itoa_one
    have e2 : rtxt p 1 = itoa p := if_pos rfl
    have H := Lib.hid e2; clear e2
    have hS : S 1 = .string ⟨#[49]⟩ := by show Value.string ⟨(itoa 1).toArray⟩ = _; rw [e1]
    rw [hS]; clear hS e1 hq
    go_enter Tryz.func173, Tryz.ntmps173
    go_wp2_with fail
    go_ret
    refine ⟨?_, Below.refl _ _⟩
    show Ending.returned (S p) = Ending.returned (.string ⟨(rtxt p 1).toArray⟩)
    rw [H.out]
  · have e1 := itoa_ne_one h
    have e2 : rtxt p q = itoa p ++ 47 :: itoa q := if_neg h
    have H := Lib.hid e2; clear e2
    go_enter Tryz.func173, Tryz.ntmps173
    go_wp2_with fail
    go_ret
    refine ⟨?_, Below.refl _ _⟩
    show Ending.returned (Value.string ((⟨(itoa p).toArray⟩ : ByteArray) ++ ⟨#[47]⟩ ++ ⟨(itoa q).toArray⟩)) = Ending.returned (.string ⟨(rtxt p q).toArray⟩)
    rw [H.out]
    exact congrArg (fun s => Ending.returned (Value.string s)) (ByteArray.ext (Array.ext' (by simp)))

theorem prefix_pos {d : Int} (h : 0 ≤ d) : Lib.hasPrefix (itoa d) [45] = false := by
  rw [Mb.itoa_nonneg h]
  cases hd : decDigits d.natAbs with
  | nil => exact absurd hd (decDigits_ne _)
  | cons b r =>
    have hb := dig_decDigits d.natAbs b (by rw [hd]; simp)
    have : (45 == b) = false := by rw [beq_eq_false_iff_ne]; intro e; subst e; simp at hb
    simp [Lib.hasPrefix, List.isPrefixOf, this]

theorem hasPrefix_calls (d : Int) (w : World) (h : 0 ≤ d) :
    Calls Tryz.prog 171 #[S d, .string ⟨#[45]⟩] w fun e w' => e = .returned (.bool false) ∧ w = w' := by
  refine (Tryz.strings_HasPrefix ⟨(itoa d).toArray⟩ ⟨#[45]⟩ w).mono ?_
  rintro e w' ⟨rfl, rfl⟩
  refine ⟨?_, rfl⟩
  rw [show Lib.hasPrefix (⟨(itoa d).toArray⟩ : ByteArray).data.toList (⟨#[45]⟩ : ByteArray).data.toList = false from prefix_pos h]

/-- what lowest asks of the operations on its two integers, in all later worlds -/
structure LowOps (n d : Int) : Prop where
  pos : 0 < d
  gcd : ∀ w, Good w → Calls Tryz.prog 164 #[S n, S d] w fun e w' => e = .returned (.tuple #[S (Int.gcd n d), .int .i64 0]) ∧ Below w.heap.size w w'
  qn : ∀ w, Good w → Calls Tryz.prog 174 #[S n, S (Int.gcd n d)] w fun e w' => e = .returned (.tuple #[S (rn n d), .int .i64 0]) ∧ Below w.heap.size w w'
  qd : ∀ w, Good w → Calls Tryz.prog 174 #[S d, S (Int.gcd n d)] w fun e w' => e = .returned (.tuple #[S (rd n d), .int .i64 0]) ∧ Below w.heap.size w w'
  ln : (itoa (rn n d)).length ≤ 100000
  ld : (itoa (rd n d)).length ≤ 100000

set_option maxHeartbeats 800000 in
theorem lowest_calls (s : Nat) (n d : Int) (w : World) (hg : Good w) (hs : Sums w s) (ho : LowOps n d) :
    Calls Tryz.prog 148 #[.pointer (some ⟨s, 0, none⟩), S n, S d] w fun e w' => e = .returned (R (rn n d) (rd n d)) ∧ Below w.heap.size w w' := by
  go_enter Tryz.func148, Tryz.ntmps148
  go_wp2_with fail
  refine (do_calls s _ _ _ _ w hs (enters_of Tryz.func164 (by kernel_rfl) rfl) (fun w' hb => ho.gcd w' (hg.to hb))).mono ?_
  rintro e w1 ⟨rfl, hb1⟩
  go_wp2_with fail
  refine (hasPrefix_calls d _ (Int.le_of_lt ho.pos)).mono ?_
  rintro e w1 ⟨rfl, rfl⟩
  have hs1 := hs.to hb1
  have c1 := hs1.c
  go_wp2_with fail
  refine (do_calls s _ _ _ _ _ hs1 (enters_of Tryz.func174 (by kernel_rfl) rfl) (fun w' hb => ho.qn w' (hg.to (below_trans hb1 hb)))).mono ?_
  rintro e w2 ⟨rfl, hb2⟩
  have hs2 := hs1.to hb2
  go_wp2_with fail
  refine (do_calls s _ _ _ _ _ hs2 (enters_of Tryz.func174 (by kernel_rfl) rfl) (fun w' hb => ho.qd w' (hg.to (below_trans (below_trans hb1 hb2) hb)))).mono ?_
  rintro e w3 ⟨rfl, hb3⟩
  go_wp2_with fail
  refine (joined_calls _ _ _ ho.ln ho.ld).mono ?_
  rintro e w4 ⟨rfl, hb4⟩
  go_wp2_with fail
  go_ret
  exact ⟨rfl, below_trans (below_trans (below_trans hb1 hb2) hb3) hb4⟩

end Go.Proofs.YtgdlfjofefhdoaaGreatDoor

namespace Go.Proofs.YtgdlfjofefhdoaaGreatDoor
open Go.RowKit Go.Sort Go.Lib Mb

theorem itoa_le {n : Int} {k : Nat} (hk : 1 ≤ k) (h0 : 0 ≤ n) (h : n < (10 ^ k : Nat)) : (itoa n).length ≤ k := by
  rw [Mb.itoa_nonneg h0]
  exact (decDigits_len_le hk).2 (by omega)

theorem rg_of_pos {n d : Int} (hd : 0 < d) : rg n d = Int.gcd n d := by unfold rg; rw [if_neg (by omega)]

theorem rn_le {n d : Int} (hn : 0 ≤ n) (hd : 0 < d) : 0 ≤ rn n d ∧ rn n d ≤ n := by
  unfold rn; rw [rg_of_pos hd]
  exact ⟨Int.ediv_nonneg hn (by omega), Int.ediv_le_self _ hn⟩

theorem rd_le {n d : Int} (hd : 0 < d) : 0 < rd n d ∧ rd n d ≤ d := by
  refine ⟨rd_pos (by omega), ?_⟩
  unfold rd; rw [rg_of_pos hd]
  exact Int.ediv_le_self _ (by omega)

theorem gcd_le {n d : Int} (hd : 0 < d) : 0 < (Int.gcd n d : Int) ∧ (Int.gcd n d : Int) ≤ d :=
  ⟨gcd_pos' (by omega), Int.le_of_dvd hd (Int.gcd_dvd_right ..)⟩

theorem lowOps_short (n d : Int) (hn : 0 ≤ n) (hn9 : n < 1000000000) (hd : 0 < d) (hd9 : d < 1000000000) : LowOps n d := by
  have l1 := itoa_le (n := n) (k := 9) (by omega) hn (by omega)
  have l2 := itoa_le (n := d) (k := 9) (by omega) (by omega) (by omega)
  have g := gcd_le (n := n) hd
  have l3 := itoa_le (n := (Int.gcd n d : Int)) (k := 9) (by omega) (by omega) (by omega)
  have r1 := rn_le hn hd
  have r2 := rd_le (n := n) hd
  have e1 : rn n d = n / (Int.gcd n d : Int) := by unfold rn; rw [rg_of_pos hd]
  have e2 : rd n d = d / (Int.gcd n d : Int) := by unfold rd; rw [rg_of_pos hd]
  exact ⟨hd, fun w hg => gcd_short n d w hg l1 l2 hd,
    fun w hg => by rw [e1]; exact quo_short n _ w hg l1 l3 hn g.1,
    fun w hg => by rw [e2]; exact quo_short d _ w hg l2 l3 (by omega) g.1,
    Nat.le_trans (itoa_le (k := 9) (by omega) r1.1 (by omega)) (by omega),
    Nat.le_trans (itoa_le (k := 9) (by omega) (by omega) (by omega)) (by omega)⟩

set_option maxHeartbeats 800000 in
theorem make_calls (n d : Int) (w : World) (hg : Good w) (ho : LowOps n d) (hn : (dg n).length ≤ 1024) (hd : (dg d).length ≤ 1024) :
    Calls Tryz.prog 107 #[S n, S d] w fun e w' => e = .returned (.tuple #[R (rn n d) (rd n d), .int .i64 0]) ∧ Below w.heap.size w w' := by
  have hz := itoa_zero (n := d) (by have := ho.pos; omega)
  have hT := txts2 w n d 95
  go_enter Tryz.func107, Tryz.ntmps107
  go_wp2_with fail
  go_loopg [15] 2 (fun g i wr => ∃ k : Nat, k + g = 2 ∧ i = .int .i64 k ∧ Below w.heap.size w wr ∧ Txts wr w.heap.size [n, d])
  case atStart => exact ⟨0, rfl, rfl, alloc_below _ _, hT⟩
  case round =>
    obtain ⟨k, hk, rfl, hbel, hT'⟩ := hrel
    have hc := hT'.2
    have hb := hT'.1
    match k, hk with
    | 0, hk =>
      have c0 : wr.cell? ⟨w.heap.size, 0, none⟩ = some (S n) := hc 0 (by simp)
      clear hc
      go_wp2_with fail
      refine (check_calls n _ hn).mono ?_
      rintro e w1 ⟨rfl, hb1⟩
      go_wp2_with fail
      go_roundg 1
      case measure => omega
      case rel => exact ⟨1, rfl, rfl, below_trans hbel hb1, Nat.lt_of_lt_of_le hb hb1.size, fun i hi => (hb1.cell (p := ⟨w.heap.size, i, none⟩) hb).trans (hT'.2 i hi)⟩
    | 1, hk =>
      have c0 : wr.cell? ⟨w.heap.size, 1, none⟩ = some (S d) := hc 1 (by simp)
      clear hc
      go_wp2_with fail
      refine (check_calls d _ hd).mono ?_
      rintro e w1 ⟨rfl, hb1⟩
      go_wp2_with fail
      go_roundg 0
      case measure => omega
      case rel => exact ⟨2, rfl, rfl, below_trans hbel hb1, Nat.lt_of_lt_of_le hb hb1.size, fun i hi => (hb1.cell (p := ⟨w.heap.size, i, none⟩) hb).trans (hT'.2 i hi)⟩
    | 2, hk =>
      clear hc
      go_wp2_with fail
      refine (lowest_calls _ n d _ ((hg.to hbel).alloc _) (sums_new _) ho).mono ?_
      rintro e w1 ⟨rfl, hb1⟩
      have c1 := ((sums_new wr).to hb1).c
      go_wp2_with fail
      go_ret2
      exact ⟨rfl, below_trans (below_trans hbel (alloc_below _ _)) hb1⟩
    | k + 3, hk => omega

theorem whole_calls (n : Int) (w : World) (hg : Good w) (h0 : -9223372036854775808 ≤ n) (h1 : n ≤ 9223372036854775807) :
    Calls Tryz.prog 60 #[.int .i64 n] w fun e w' => e = .returned (S n) ∧ Below w.heap.size w w' := by
  go_enter Tryz.func60, Tryz.ntmps60
  go_wp2_with (go_at_call 56; refine (of_calls _ _ hg h0 h1).mono ?_; rintro e w' ⟨rfl, hb⟩)
  go_ret
  exact ⟨rfl, hb⟩

end Go.Proofs.YtgdlfjofefhdoaaGreatDoor
