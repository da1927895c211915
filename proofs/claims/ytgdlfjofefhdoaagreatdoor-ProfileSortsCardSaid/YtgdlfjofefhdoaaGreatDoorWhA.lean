/- Package whole: Check, all, Of, small, result on canonical texts. Package whole: the short ways of Mul, Add, Quo, Gcd. Integers of many words in memory: a block of 234 cells. whole.read: the words of a canonical text. whole.Gcd of short numbers; whole.Quo of short numbers. -/
import Derived.Test.YtgdlfjofefhdoaaGreatDoorLib
import Derived.Deep.LoopGhost
import Derived.IntWalk
import Derived.Laws.NewBlocks
import Derived.Deep.RegionHeld3
namespace Go.Proofs.YtgdlfjofefhdoaaGreatDoor
open Go.RowKit Go.Sort Go.Lib Mb

theorem one_of {l : List UInt8} (hl : l.length = 1) (hp : 0 < l.length) (h : l[0] = 48) : l = [48] := by
  match l, hl with
  | [x], _ => simp at h; rw [h]

theorem dg_head (n : Int) (hp : 0 < (dg n).length) (h : (dg n)[0] = 48) : itoa n = [48] := by
  have hc := (can_decDigits n.natAbs).2.2 (by show (dg n).head? = some 48; rw [List.head?_eq_getElem?, List.getElem?_eq_getElem hp, h])
  have hd : dg n = [48] := one_of hc hp h
  have hz : n = 0 := by
    have := dv_decDigits n.natAbs
    have h2 : decDigits n.natAbs = [48] := hd
    rw [h2] at this; simp [dv_one] at this; omega
  subst hz; rw [Mb.itoa_nonneg (by omega)]; exact hd

set_option maxHeartbeats 400000 in
theorem check_calls (n : Int) (w : World) (h : (dg n).length ≤ 1024) :
    Calls Tryz.prog 147 #[S n] w fun e w' => e = .returned (.int .i64 0) ∧ Below w.heap.size w w' := by
  have hne : (dg n).isEmpty = false := by simp [dg_ne n]
  have hpos : 0 < (dg n).length := by have := dg_ne n; cases h : dg n <;> simp_all
  go_enter Tryz.func147, Tryz.ntmps147
  go_wp2_with (first
    | (go_at_call 136; refine (trimPrefix_calls _ _).mono ?_; rintro e w' ⟨rfl, rfl⟩)
    | (go_at_call 170; refine (trim_calls _ (dg_dig n) (by omega) _).mono ?_; rintro e w' ⟨rfl, hb⟩))
  · exfalso
    have h1 : ((⟨(dg n).toArray⟩ : ByteArray)[0]'(by simpa [ByteArray.size] using hpos)).toNat = (48 : Int) := by assumption
    have h2 : (!itoa n == [48]) = true := by assumption
    have h3 : (dg n)[0] = 48 := UInt8.toNat_inj.1 (show (dg n)[0].toNat = 48 by have : ((dg n)[0].toNat : Int) = 48 := h1; omega)
    rw [dg_head n hpos h3] at h2; simp at h2
  all_goals (go_ret; exact ⟨rfl, by assumption⟩)

/-- cells that hold numbers as texts -/
def Txts (w : World) (b : Nat) (l : List Int) : Prop := b < w.heap.size ∧ ∀ i (h : i < l.length), w.cell? ⟨b, i, none⟩ = some (S l[i])

set_option maxHeartbeats 400000 in
theorem all_calls (l : List Int) (b cap : Nat) (w : World) (hT : Txts w b l) (hl : ∀ n ∈ l, (dg n).length ≤ 1024) (hn : l.length ≤ 100) :
    Calls Tryz.prog 120 #[.slice (some ⟨b, 0, none⟩) l.length cap] w fun e w' => e = .returned (.int .i64 0) ∧ Below w.heap.size w w' := by
  obtain ⟨hb, hc⟩ := hT
  go_enter Tryz.func120, Tryz.ntmps120
  go_wp2
  go_loopw [8] (fun i wr => ∃ k : Nat, k ≤ l.length ∧ i = .int .i64 k ∧ Below w.heap.size w wr) (fun i _ => l.length - (RowKit.intOf i).toNat)
  case atStart => exact ⟨0, Nat.zero_le _, rfl, Below.refl _ _⟩
  case round =>
    obtain ⟨k, hk, rfl, hbel⟩ := hrel
    by_cases hlt : k < l.length
    · have hcell : wr.cell? ⟨b, k, none⟩ = some (S l[k]) := (hbel.cell (p := ⟨b, k, none⟩) hb).trans (hc k hlt)
      have hdl := hl l[k] (List.getElem_mem hlt)
      go_wp2_with (go_at_call 147; refine (check_calls _ _ hdl).mono ?_; rintro e w' ⟨rfl, hb'⟩)
      go_roundw
      case rel => exact ⟨k + 1, by omega, by go_num, hbel.trans (hb'.mono hbel.size)⟩
      case measure => simp [RowKit.intOf]; omega
    · go_wp2
      go_ret
      exact ⟨rfl, hbel⟩

theorem of_calls (n : Int) (w : World) (hg : Good w) (h0 : -9223372036854775808 ≤ n) (h1 : n ≤ 9223372036854775807) :
    Calls Tryz.prog 56 #[.int .i64 n] w fun e w' => e = .returned (S n) ∧ Below w.heap.size w w' := by
  go_enter Tryz.func56, Tryz.ntmps56
  go_wp2_with (go_at_call 109; refine (itoa_calls _ _ hg h0 h1).mono ?_; rintro e w' ⟨rfl, hb⟩)
  go_ret
  exact ⟨rfl, hb⟩

theorem result_calls (n : Int) (w : World) (hg : Good w) (h0 : -9223372036854775808 ≤ n) (h1 : n ≤ 9223372036854775807) :
    Calls Tryz.prog 122 #[.int .i64 n] w fun e w' => e = .returned (.tuple #[S n, .int .i64 0]) ∧ Below w.heap.size w w' := by
  go_enter Tryz.func122, Tryz.ntmps122
  go_wp2_with (go_at_call 56; refine (of_calls _ _ hg h0 h1).mono ?_; rintro e w' ⟨rfl, hb⟩)
  go_ret2
  exact ⟨rfl, hb⟩

theorem decNat_dg (n : Int) : Lib.decNat (decDigits n.natAbs) = some n.natAbs := by
  unfold Lib.decNat
  have h := decFrom_dvf (decDigits n.natAbs) 0 (dig_decDigits _)
  have hne := decDigits_ne n.natAbs
  have h2 : dvf 0 (decDigits n.natAbs) = n.natAbs := dv_decDigits _
  rw [if_neg (by simp [hne]), h, h2]

theorem atoi_itoa (n : Int) : Lib.atoi (itoa n) = some n := by
  by_cases hn : n < 0
  · rw [itoa_neg hn]
    show ((Lib.decNat (decDigits n.natAbs)).map fun (m : Nat) => -(m : Int)) = some n
    rw [decNat_dg]
    show some (-(n.natAbs : Int)) = some n
    congr 1; omega
  · rw [Mb.itoa_nonneg (by omega)]
    cases hd : decDigits n.natAbs with
    | nil => exact absurd hd (decDigits_ne _)
    | cons b r =>
      have hb := dig_decDigits n.natAbs b (by rw [hd]; simp)
      have e45 : (b == 45) = false := by rw [beq_eq_false_iff_ne]; intro e; subst e; simp at hb
      have e43 : (b == 43) = false := by rw [beq_eq_false_iff_ne]; intro e; subst e; simp at hb
      show (if b == 45 then _ else if b == 43 then _ else (Lib.decNat (b :: r)).map fun (m : Nat) => (m : Int)) = some n
      rw [e45, e43, ← hd, decNat_dg]
      show some (n.natAbs : Int) = some n
      congr 1; omega

theorem atoiS_calls (n : Int) (w : World) (h : (itoa n).length ≤ 18) :
    Calls Tryz.prog 151 #[S n] w fun e w' => e = .returned (.tuple #[.int .i64 n, .nilIface]) ∧ Below w.heap.size w w' :=
  atoi_calls _ n w (by simpa [ByteArray.size] using h) (atoi_itoa n)

theorem small_yes (a b : Int) (w : World) (ha : (itoa a).length ≤ 9) (hb : (itoa b).length ≤ 9) :
    Calls Tryz.prog 121 #[S a, S b] w fun e w' => e = .returned (.tuple #[.int .i64 a, .int .i64 b, .bool true]) ∧ Below w.heap.size w w' := by
  go_enter Tryz.func121, Tryz.ntmps121
  go_wp2_with fail
  refine (atoiS_calls a _ (by omega)).mono ?_
  rintro e w' ⟨rfl, hb1⟩
  go_wp2_with fail
  refine (atoiS_calls b _ (by omega)).mono ?_
  rintro e w' ⟨rfl, hb2⟩
  go_wp2_with fail
  go_ret3
  exact ⟨rfl, below_trans hb1 hb2⟩

theorem small_no (a b : Int) (w : World) (h : 9 < (itoa a).length ∨ 9 < (itoa b).length) :
    Calls Tryz.prog 121 #[S a, S b] w fun e w' => e = .returned (.tuple #[.int .i64 0, .int .i64 0, .bool false]) ∧ Below w.heap.size w w' := by
  by_cases ha : 9 < (itoa a).length
  · go_enter Tryz.func121, Tryz.ntmps121
    go_wp2_with fail
    go_ret3
    exact ⟨rfl, Below.refl _ _⟩
  · have hb : 9 < (itoa b).length := by omega
    clear h
    go_enter Tryz.func121, Tryz.ntmps121
    go_wp2_with fail
    go_ret3
    exact ⟨rfl, Below.refl _ _⟩

end Go.Proofs.YtgdlfjofefhdoaaGreatDoor

namespace Go.Proofs.YtgdlfjofefhdoaaGreatDoor
open Go.RowKit Go.Sort Go.Lib Mb

theorem txts2 (w : World) (a b : Int) (t : Nat) : Txts (w.alloc (.cells #[S a, S b] t)) w.heap.size [a, b] := by
  refine ⟨by simp, fun i h => ?_⟩
  match i, h with
  | 0, _ => rw [World.cell?_alloc_at _ _ _ _ rfl]; rfl
  | 1, _ => rw [World.cell?_alloc_at _ _ _ _ rfl]; rfl

theorem alloc_below (w : World) (o : Obj) : Below w.heap.size w (w.alloc o) := (Below.refl _ _).alloc (Nat.le_refl _) _

theorem dg_le_itoa (n : Int) : (dg n).length ≤ (itoa n).length := by
  by_cases h : n < 0
  · rw [itoa_neg h]; simp [dg]
  · rw [Mb.itoa_nonneg (by omega)]; exact Nat.le_refl _

theorem itoa_bd {n : Int} {k : Nat} (h : (itoa n).length ≤ k) (hk : 1 ≤ k) : -(10 ^ k : Nat) < n ∧ n < (10 ^ k : Nat) := by
  have h1 : (decDigits n.natAbs).length ≤ k := Nat.le_trans (dg_le_itoa n) h
  have h2 := (decDigits_len_le hk).1 h1
  omega

set_option maxHeartbeats 400000 in
theorem mul_short (a b : Int) (w : World) (hg : Good w) (ha : (itoa a).length ≤ 9) (hb : (itoa b).length ≤ 9) :
    Calls Tryz.prog 73 #[S a, S b] w fun e w' => e = .returned (.tuple #[S (a * b), .int .i64 0]) ∧ Below w.heap.size w w' := by
  have ba := itoa_bd ha (by omega)
  have bb := itoa_bd hb (by omega)
  have hda : (dg a).length ≤ 1024 := by have := dg_le_itoa a; omega
  have hdb : (dg b).length ≤ 1024 := by have := dg_le_itoa b; omega
  have hprod : -1000000000000000000 ≤ a * b ∧ a * b ≤ 1000000000000000000 := by
    have := Mb.mul_bd (A := 1000000000) (C := 1000000000) (a := a) (b := b) (by omega) (by omega)
    omega
  go_enter Tryz.func73, Tryz.ntmps73
  go_wp2_with fail
  refine (all_calls [a, b] _ _ _ (txts2 w a b _) (by simp [hda, hdb]) (by simp)).mono ?_
  rintro e w1 ⟨rfl, hb1⟩
  go_wp2_with fail
  refine (small_yes a b _ ha hb).mono ?_
  rintro e w2 ⟨rfl, hb2⟩
  have hbb := below_trans (below_trans (alloc_below w _) hb1) hb2
  go_wp2_with fail
  refine (result_calls _ _ (hg.to hbb) (by omega) (by omega)).mono ?_
  rintro e w3 ⟨rfl, hb3⟩
  go_wp2_with fail
  go_ret2
  exact ⟨rfl, below_trans hbb hb3⟩

set_option maxHeartbeats 400000 in
theorem add_short (a b : Int) (w : World) (hg : Good w) (ha : (itoa a).length ≤ 9) (hb : (itoa b).length ≤ 9) :
    Calls Tryz.prog 74 #[S a, S b] w fun e w' => e = .returned (.tuple #[S (a + b), .int .i64 0]) ∧ Below w.heap.size w w' := by
  have ba := itoa_bd ha (by omega)
  have bb := itoa_bd hb (by omega)
  have hda : (dg a).length ≤ 1024 := by have := dg_le_itoa a; omega
  have hdb : (dg b).length ≤ 1024 := by have := dg_le_itoa b; omega
  go_enter Tryz.func74, Tryz.ntmps74
  go_wp2_with fail
  refine (all_calls [a, b] _ _ _ (txts2 w a b _) (by simp [hda, hdb]) (by simp)).mono ?_
  rintro e w1 ⟨rfl, hb1⟩
  go_wp2_with fail
  refine (small_yes a b _ ha hb).mono ?_
  rintro e w2 ⟨rfl, hb2⟩
  have hbb := below_trans (below_trans (alloc_below w _) hb1) hb2
  go_wp2_with fail
  refine (result_calls _ _ (hg.to hbb) (by omega) (by omega)).mono ?_
  rintro e w3 ⟨rfl, hb3⟩
  go_wp2_with fail
  go_ret2
  exact ⟨rfl, below_trans hbb hb3⟩

theorem itoa_zero {n : Int} (h : n ≠ 0) : (itoa n == [48]) = false := by
  rw [beq_eq_false_iff_ne]
  intro e
  apply h
  exact itoa_inj (e.trans (show [48] = itoa 0 by rw [Mb.itoa_nonneg (by omega)]; rw [show (0 : Int).natAbs = 0 from rfl, decDigits]; rfl))

theorem quo_facts {a b : Int} (h0 : 0 ≤ a) (h1 : 0 < b) : 0 ≤ a / b ∧ a / b ≤ a ∧ 0 ≤ a % b ∧ a % b < b ∧ (!decide (a % b < 0) == decide (b < 0)) = false := by
  have h2 := Int.emod_nonneg a (show b ≠ 0 by omega)
  have h3 := Int.emod_lt_of_pos a h1
  refine ⟨Int.ediv_nonneg h0 (by omega), Int.ediv_le_self _ h0, h2, h3, ?_⟩
  rw [decide_eq_false (by omega), decide_eq_false (by omega)]; rfl

set_option maxHeartbeats 800000 in
/-- short numbers, the divisor positive -/
theorem parted_short (a b : Int) (w : World) (hg : Good w) (ha : (itoa a).length ≤ 9) (hb : (itoa b).length ≤ 9) (h0 : 0 ≤ a) (h1 : 0 < b) :
    Calls Tryz.prog 200 #[S a, S b] w fun e w' => e = .returned (.tuple #[S (a / b), S (a % b), .int .i64 0]) ∧ Below w.heap.size w w' := by
  have ba := itoa_bd ha (by omega)
  have bb := itoa_bd hb (by omega)
  have hda : (dg a).length ≤ 1024 := by have := dg_le_itoa a; omega
  have hdb : (dg b).length ≤ 1024 := by have := dg_le_itoa b; omega
  have hz := itoa_zero (n := b) (by omega)
  obtain ⟨q1, q2, r1, r2, hs⟩ := quo_facts h0 h1
  go_enter Tryz.func200, Tryz.ntmps200
  go_wp2_with fail
  refine (all_calls [a, b] _ _ _ (txts2 w a b _) (by simp [hda, hdb]) (by simp)).mono ?_
  rintro e w1 ⟨rfl, hb1⟩
  go_wp2_with fail
  refine (small_yes a b _ ha hb).mono ?_
  rintro e w2 ⟨rfl, hb2⟩
  have hbb := below_trans (below_trans (alloc_below w _) hb1) hb2
  go_wp2_with fail
  go_quiet (fail)
  go_wp2_with fail
  all_goals
    refine (of_calls _ _ (hg.to (below_trans hbb (bel_dn _ _))) (by omega) (by omega)).mono ?_
    rintro e w3 ⟨rfl, hb3⟩
    go_wp2_with fail
    refine (of_calls _ _ ((hg.to (below_trans hbb (bel_dn _ _))).to hb3) (by omega) (by omega)).mono ?_
    rintro e w4 ⟨rfl, hb4⟩
    go_wp2_with fail
    go_ret3
    exact ⟨by first | rfl | (have h : a % b = 0 := by assumption
                             rw [h]; rfl), below_trans (below_trans (below_trans hbb (bel_dn _ _)) hb3) hb4⟩

end Go.Proofs.YtgdlfjofefhdoaaGreatDoor

namespace Go.Proofs.YtgdlfjofefhdoaaGreatDoor
open Go.RowKit Go.Sort Go.Lib Mb

/-- the cells of an integer: its sign, the number of its words, the words -/
def wc (less : Bool) (n : Nat) (f : Nat → Int) : Array Value := #[.bool less, .int .i64 n] ++ (Array.ofFn (n := 232) fun i => .int .i64 (f i.val))

theorem wc_size (less : Bool) (n : Nat) (f : Nat → Int) : (wc less n f).size = 234 := by simp [wc]
theorem wc_0 (less : Bool) (n : Nat) (f : Nat → Int) : (wc less n f)[0]? = some (.bool less) := by
  unfold wc; rw [Array.getElem?_append_left (by simp)]; rfl
theorem wc_1 (less : Bool) (n : Nat) (f : Nat → Int) : (wc less n f)[1]? = some (.int .i64 n) := by
  unfold wc; rw [Array.getElem?_append_left (by simp)]; rfl
theorem wc_w (less : Bool) (n : Nat) (f : Nat → Int) (k : Nat) (h : k < 232) : (wc less n f)[2 + k]? = some (.int .i64 (f k)) := by
  unfold wc; rw [Array.getElem?_append_right (by simp)]
  simp [h]

/-- the block b is this integer -/
def Wide (w : World) (b : Nat) (less : Bool) (n : Nat) (f : Nat → Int) : Prop := w.heap[b]? = some (.cells (wc less n f) 193 (0, 0))

section
variable {w : World} {b : Nat} {less : Bool} {n : Nat} {f : Nat → Int}
theorem Wide.lt (h : Wide w b less n f) : b < w.heap.size := (Array.getElem?_eq_some_iff.1 h).1
theorem Wide.c0 (h : Wide w b less n f) : w.cell? ⟨b, 0, none⟩ = some (.bool less) := by
  unfold Wide at h; simp [World.cell?, h, wc_0]
theorem Wide.c1 (h : Wide w b less n f) : w.cell? ⟨b, 1, none⟩ = some (.int .i64 n) := by
  unfold Wide at h; simp [World.cell?, h, wc_1]
theorem Wide.cw (h : Wide w b less n f) (k : Nat) (hk : k < 232) : w.cell? ⟨b, 2 + k, none⟩ = some (.int .i64 (f k)) := by
  unfold Wide at h; simp [World.cell?, h, wc_w _ _ _ k hk]
theorem Wide.free (h : Wide w b less n f) (o : Nat) : w.frozen? ⟨b, o, none⟩ = false := by
  unfold Wide at h; simp [World.frozen?, h]

theorem wide_set (h : Wide w b less n f) (o : Nat) (v : Value) : (w.setCell ⟨b, o, none⟩ v).heap[b]? = some (.cells ((wc less n f).setIfInBounds o v) 193 (0, 0)) := by
  unfold Wide at h
  simp [World.setCell, Array.getElem?_modify, h]

theorem ext_wc {a : Array Value} {less : Bool} {n : Nat} {f : Nat → Int} (hs : a.size = 234) (h0 : a[0]? = some (.bool less)) (h1 : a[1]? = some (.int .i64 n)) (hw : ∀ k, k < 232 → a[2 + k]? = some (.int .i64 (f k))) : a = wc less n f := by
  apply Array.ext_getElem?
  intro i
  by_cases hi : i < 234
  · match i, hi with
    | 0, _ => rw [h0, wc_0]
    | 1, _ => rw [h1, wc_1]
    | k + 2, hk => rw [show k + 2 = 2 + k by omega, hw k (by omega), wc_w _ _ _ k (by omega)]
  · rw [Array.getElem?_eq_none (by omega), Array.getElem?_eq_none (by rw [wc_size]; omega)]

theorem Wide.setW (h : Wide w b less n f) (k : Nat) (hk : k < 232) (v : Int) : Wide (w.setCell ⟨b, 2 + k, none⟩ (.int .i64 v)) b less n (upd f k v) := by
  unfold Wide; rw [wide_set h]
  refine congrArg (fun c => some (Obj.cells c 193 (0, 0))) (ext_wc (by rw [Array.size_setIfInBounds, wc_size]) ?_ ?_ ?_)
  · rw [Array.getElem?_setIfInBounds_ne (by omega), wc_0]
  · rw [Array.getElem?_setIfInBounds_ne (by omega), wc_1]
  · intro j hj
    by_cases e : j = k
    · subst e
      rw [Array.getElem?_setIfInBounds_self_of_lt (by rw [wc_size]; omega), upd_same]
    · rw [Array.getElem?_setIfInBounds_ne (by omega), wc_w _ _ _ j hj, upd_other e]

theorem Wide.setN (h : Wide w b less n f) (m : Nat) : Wide (w.setCell ⟨b, 1, none⟩ (.int .i64 m)) b less m f := by
  unfold Wide; rw [wide_set h]
  refine congrArg (fun c => some (Obj.cells c 193 (0, 0))) (ext_wc (by rw [Array.size_setIfInBounds, wc_size]) ?_ ?_ ?_)
  · rw [Array.getElem?_setIfInBounds_ne (by omega), wc_0]
  · rw [Array.getElem?_setIfInBounds_self_of_lt (by rw [wc_size]; omega)]
  · intro j hj
    rw [Array.getElem?_setIfInBounds_ne (by omega), wc_w _ _ _ j hj]

theorem Wide.setL (h : Wide w b less n f) (l : Bool) : Wide (w.setCell ⟨b, 0, none⟩ (.bool l)) b l n f := by
  unfold Wide; rw [wide_set h]
  refine congrArg (fun c => some (Obj.cells c 193 (0, 0))) (ext_wc (by rw [Array.size_setIfInBounds, wc_size]) ?_ ?_ ?_)
  · rw [Array.getElem?_setIfInBounds_self_of_lt (by rw [wc_size]; omega)]
  · rw [Array.getElem?_setIfInBounds_ne (by omega), wc_1]
  · intro j hj
    rw [Array.getElem?_setIfInBounds_ne (by omega), wc_w _ _ _ j hj]

theorem Wide.kept {w' : World} (h : Wide w b less n f) (hk : w'.heap[b]? = w.heap[b]?) : Wide w' b less n f := by unfold Wide at *; rw [hk, h]
theorem Wide.below {w' : World} {B : Nat} (h : Wide w b less n f) (hb : Below B w w') (hB : b < B) : Wide w' b less n f := h.kept (hb.block b hB)
theorem Wide.to {w' : World} (h : Wide w b less n f) (hb : Below w.heap.size w w') : Wide w' b less n f := h.below hb h.lt
theorem Wide.grown {w' : World} {r : Option Nat} (h : Wide w b less n f) (hg : w.grownBy w' r) (hr : some b ≠ r) : Wide w' b less n f := h.kept (hg.block b h.lt hr)
theorem Wide.drew (h : Wide w b less n f) : Wide w.drew b less n f := h.to ((Below.refl _ _).drew)
theorem Wide.drewN (h : Wide w b less n f) (q : Nat) : Wide (w.drewN q) b less n f := h.to (bel_dn w q)
end

/-- worlds that part at one block, and in new ones -/
theorem gb_refl (w : World) (r : Option Nat) : w.grownBy w r := ⟨rfl, rfl, rfl, Nat.le_refl _, fun _ _ _ => rfl⟩
theorem gb_trans {a b c : World} {r : Option Nat} (h : a.grownBy b r) (k : b.grownBy c r) : a.grownBy c r :=
  ⟨k.os.trans h.os, k.tape.trans h.tape, k.output.trans h.output, Nat.le_trans h.size k.size, fun i hi hr => (k.block i (Nat.lt_of_lt_of_le hi h.size) hr).trans (h.block i hi hr)⟩
theorem gb_below {a b : World} {r : Option Nat} (h : Below a.heap.size a b) : a.grownBy b r := ⟨h.os, h.tape, h.output, h.size, fun i hi _ => h.block i hi⟩
theorem gb_set (w : World) (b o : Nat) (v : Value) : w.grownBy (w.setCell ⟨b, o, none⟩ v) (some b) :=
  ⟨rfl, rfl, rfl, by simp [World.setCell], fun i _ hr => Below.heap_setCell _ _ _ _ (fun e => hr (by rw [e]))⟩
theorem gb_dn (w : World) (q : Nat) (r : Option Nat) : w.grownBy (w.drewN q) r := gb_below (bel_dn w q)
/-- a block laid since the beginning may be written -/
theorem below_gb {B r : Nat} {a b c : World} (h : Below B a b) (k : b.grownBy c (some r)) (hB : B ≤ b.heap.size) (hr : B ≤ r) : Below B a c :=
  h.grown k hB (fun j e => by cases e; exact hr)

set_option maxHeartbeats 400000 in
theorem trimmed_calls (b : Nat) (less : Bool) (n : Nat) (f : Nat → Int) (w : World) (hW : Wide w b less n f) (hp : Pre f n) :
    Calls Tryz.prog 152 #[.pointer (some ⟨b, 0, none⟩)] w fun e w' => e = .returned (.pointer (some ⟨b, 0, none⟩)) ∧
      (∃ m, Mag f m ∧ val f m = val f n ∧ Wide w' b less m f) ∧ w.grownBy w' (some b) := by
  go_enter Tryz.func152, Tryz.ntmps152
  go_wp2
  go_loopg [] n (fun k wr => Pre f k ∧ val f k = val f n ∧ Wide wr b less k f ∧ w.grownBy wr (some b))
  case atStart => exact ⟨hp, rfl, hW, gb_refl _ _⟩
  case round =>
    obtain ⟨hp', hv, hW', hg⟩ := hrel
    have c1 := hW'.c1
    have fr := hW'.free 1
    by_cases hk : gk = 0
    · subst hk
      have HV := Lib.hid hv; clear hv
      go_wp2_with fail
      go_quiet (fail)
      go_wp2_with fail
      go_ret
      exact ⟨rfl, ⟨0, hp'.mag (.inl rfl), HV.out, hW'.drewN _⟩, gb_trans hg (gb_dn _ _ _)⟩
    · obtain ⟨k, rfl⟩ : ∃ k, gk = k + 1 := ⟨gk - 1, by omega⟩
      have cw := hW'.cw k (by have := hp'.le; omega)
      have HV := Lib.hid hv; clear hv
      have hk2 : (k : Int) < 232 := by have := hp'.le; omega
      have e1 : IntKind.i64.wrap (k : Int) = k := IntWalk.i64_in _ (by omega)
      have e2 : (0 : Int) ≤ k := by omega
      by_cases hz : f k = 0
      · rw [hz] at cw
        have HZ := Lib.hid hz; clear hz hk
        go_wp2_with fail
        go_quiet (fail)
        go_wp2_with fail
        go_roundg k
        case measure => omega
        case rel => exact ⟨(hp'.down HZ.out).1, (hp'.down HZ.out).2.trans HV.out, (hW'.setN k).drewN _, gb_trans hg (gb_trans (gb_set _ _ _ _) (gb_dn _ _ _))⟩
      · have hz' : (f k == 0) = false := by simpa using hz
        clear hk
        go_wp2_with fail
        go_quiet (fail)
        go_wp2_with fail
        go_ret
        exact ⟨rfl, ⟨k + 1, hp'.mag (.inr (by simpa using hz)), HV.out, hW'.drewN _⟩, gb_trans hg (gb_dn _ _ _)⟩

end Go.Proofs.YtgdlfjofefhdoaaGreatDoor

namespace Go.Proofs.YtgdlfjofefhdoaaGreatDoor
open Go.RowKit Go.Sort Go.Lib Mb

theorem zero_wc : Tryz.zeroCells193 = wc false 0 (fun _ => 0) := by kernel_rfl

theorem zero_set (l : Bool) : Tryz.zeroCells193.setIfInBounds 0 (.bool l) = wc l 0 (fun _ => 0) := by
  rw [zero_wc]
  refine ext_wc (by rw [Array.size_setIfInBounds, wc_size]) ?_ ?_ ?_
  · rw [Array.getElem?_setIfInBounds_self_of_lt (by rw [wc_size]; omega)]
  · rw [Array.getElem?_setIfInBounds_ne (by omega), wc_1]
  · intro j hj
    rw [Array.getElem?_setIfInBounds_ne (by omega), wc_w _ _ _ j hj]

theorem wide_new (w : World) (l : Bool) (n : Nat) (f : Nat → Int) : Wide (w.alloc (.cells (wc l n f) 193)) w.heap.size l n f := by
  unfold Wide World.alloc
  simp

theorem itoa_head (n : Int) (h : 0 < (⟨(itoa n).toArray⟩ : ByteArray).size) : ((((⟨(itoa n).toArray⟩ : ByteArray)[0]'h).toNat : Int) == 45) = decide (n < 0) := by
  have h' : 0 < (itoa n).length := h
  show (((itoa n)[0].toNat : Int) == 45) = decide (n < 0)
  by_cases hn : n < 0
  · have : (itoa n)[0] = 45 := by
      have e := itoa_neg hn
      have : (itoa n)[0]? = some 45 := by rw [e]; rfl
      rw [List.getElem?_eq_getElem h'] at this; exact Option.some.inj this
    rw [this]; simp [hn]
  · have e := Mb.itoa_nonneg (n := n) (by omega)
    have hm : (itoa n)[0] ∈ decDigits n.natAbs := by rw [← e]; exact List.getElem_mem h'
    have := dig_decDigits _ _ hm
    rw [decide_eq_false hn, beq_eq_false_iff_ne]; omega

theorem atoi_dig {l : List UInt8} (h : Dig l) (hn : l ≠ []) : Lib.atoi l = some (dv l : Int) := by
  have hd := decFrom_dvf l 0 h
  have h2 : Lib.decNat l = some (dv l) := by unfold Lib.decNat; rw [if_neg (by simp [hn]), hd]; rfl
  cases l with
  | nil => exact absurd rfl hn
  | cons b r =>
    have hb := h b (by simp)
    have e45 : (b == 45) = false := by rw [beq_eq_false_iff_ne]; intro e; subst e; simp at hb
    have e43 : (b == 43) = false := by rw [beq_eq_false_iff_ne]; intro e; subst e; simp at hb
    show (if b == 45 then _ else if b == 43 then _ else (Lib.decNat (b :: r)).map fun (m : Nat) => (m : Int)) = _
    rw [e45, e43, h2]; rfl

set_option maxRecDepth 100000 in
set_option maxHeartbeats 800000 in
theorem read_calls (n : Int) (w : World) (h : (dg n).length ≤ 1024) :
    Calls Tryz.prog 123 #[S n] w fun e w' => ∃ b m f, e = .returned (.pointer (some ⟨b, 0, none⟩)) ∧ w.heap.size ≤ b ∧ Mag f m ∧ val f m = n.natAbs ∧ Wide w' b (decide (n < 0)) m f ∧ Below w.heap.size w w' := by
  have hpos : 0 < (itoa n).length := by have := dg_le_itoa n; have h1 := dg_ne n; cases hx : dg n <;> simp_all; omega
  have hb0 := itoa_head n hpos
  go_enter Tryz.func123, Tryz.ntmps123
  go_wp2_with fail
  rw [zero_set]
  obtain ⟨w1, hw1⟩ : ∃ w1, w1 = w.alloc (.cells (wc (decide (n < 0)) 0 (fun _ => 0)) 193) := ⟨_, rfl⟩
  rw [← hw1]
  have hW : Wide w1 w.heap.size (decide (n < 0)) 0 (fun _ => 0) := by rw [hw1]; exact wide_new _ _ _ _
  have hB : Below w.heap.size w w1 := by rw [hw1]; exact alloc_below _ _
  clear hw1
  refine (trimPrefix_calls _ _).mono ?_
  rintro e w' ⟨rfl, rfl⟩
  clear hb0
  have hdig := dg_dig n
  go_wp2_with fail
  go_loopg [3] (dg n).length (fun g s wr => ∃ k f, s = .string ⟨((dg n).take g).toArray⟩ ∧ Rd (dg n) g k f ∧ Wide wr w.heap.size (decide (n < 0)) k f ∧ Below w.heap.size w wr)
  case atStart => exact ⟨0, fun _ => 0, by rw [List.take_length], Rd.start _, hW, hB⟩
  case round =>
    obtain ⟨k, f, rfl, hr, hw, hbel⟩ := hrel
    have hlen := hr.len
    by_cases hg : gk = 0
    · subst hg
      rw [List.take_zero]
      go_wp2_with fail
      refine (trimmed_calls _ _ _ _ _ hw ⟨by omega, hr.wd, hr.z⟩).mono ?_
      rintro e w2 ⟨rfl, ⟨m, hm, hv, hW2⟩, hgb⟩
      have hfin : val f m = n.natAbs := by
        rw [hv, hr.done, show (dv (dg n)) = n.natAbs from dv_decDigits _]
      have HF := Lib.hid hfin; clear hfin hv
      go_wp2_with fail
      go_ret
      exact ⟨_, m, f, rfl, Nat.le_refl _, hm, HF.out, hW2, below_gb hbel hgb hbel.size (Nat.le_refl _)⟩
    · obtain ⟨r, hrr⟩ : ∃ r, r = (dg n).take gk := ⟨_, rfl⟩
      obtain ⟨p, hp⟩ : ∃ p, p = gk - 9 := ⟨_, rfl⟩
      have hrl : r.length = gk := by rw [hrr, List.length_take]; omega
      have hrd : Dig r := by rw [hrr]; exact dig_take hdig _
      have hmax : max 0 ((gk : Int) - 9) = (p : Int) := by omega
      have hpg : p < gk := by omega
      have hk : k < 232 := by omega
      have hpl : gk - p ≤ 9 := by omega
      rw [← hrr]
      have hx : ((⟨r.toArray⟩ : ByteArray).extract p gk).data.toList = r.drop p := by
        rw [Lib.extract_data]
        exact List.take_of_length_le (by rw [List.length_drop]; show r.length - p ≤ _; omega)
      have hxs : ((⟨r.toArray⟩ : ByteArray).extract p gk).size ≤ 18 := by
        have : ((⟨r.toArray⟩ : ByteArray).extract p gk).size = ((⟨r.toArray⟩ : ByteArray).extract p gk).data.toList.length := by simp [ByteArray.size]
        rw [this, hx, List.length_drop, hrl]; omega
      have hch : Lib.atoi ((⟨r.toArray⟩ : ByteArray).extract p gk).data.toList = some (dv (r.drop p) : Int) := by
        rw [hx]; exact atoi_dig (dig_drop hrd p) (by rw [Ne, List.drop_eq_nil_iff, hrl]; omega)
      clear hx
      have i1 : (0 : Int) ≤ p := by omega
      have i2 : (p : Int) ≤ gk := by omega
      have i3 : (k : Int) < 232 := by omega
      have i4 : (0 : Int) ≤ k := by omega
      have HR := Lib.hid hrr; clear hrr
      have HP := Lib.hid hp; clear hp
      have HC := Lib.hid hch; clear hch
      have c1 := hw.c1
      have fr1 := hw.free 1
      have ck := hw.cw k hk
      have frk := hw.free (2 + k)
      go_wp2_with fail
      go_region_held3 (fun w' => w'.cell? ⟨w.heap.size, 1, none⟩ = some (.int .i64 k))
        (first | exact hw.drew.c1 | exact (hw.drew.to hb).c1 | exact ((hw.drew.to hb).setW k hk _).c1)
        (first | (go_at_call 151; refine (atoi_calls _ _ _ hxs HC.out).mono ?_; rintro e w' ⟨rfl, hb⟩; have s1 := (hw.drew.to hb).cw k hk; have s2 := (hw.drew.to hb).free (2 + k)))
      have t1 := ((hw.drew.to hb).setW k hk (dv (r.drop p))).c1
      have t2 := ((hw.drew.to hb).setW k hk (dv (r.drop p))).free 1
      go_wp2_with fail
      go_roundg p
      case measure => omega
      case rel =>
        have hR := HR.out
        have hP := HP.out
        refine ⟨k + 1, upd f k (dv (r.drop p)), ?_, ?_, ?_, ?_⟩
        · congr 1
          apply ByteArray.ext
          apply Array.ext'
          rw [Lib.extract_data, List.drop_zero, Nat.sub_zero]
          show r.take p = (dg n).take p
          rw [hR, List.take_take]; congr 1; omega
        · rw [hR, hP]; exact hr.step hdig (by omega)
        · exact ((hw.drew.to hb).setW k hk _).setN (k + 1)
        · refine Below.setCell (Below.setCell (hbel.trans ?_) (Nat.le_refl _) _) (Nat.le_refl _) _
          exact (below_trans ((Below.refl _ _).drew) hb).mono hbel.size

end Go.Proofs.YtgdlfjofefhdoaaGreatDoor

namespace Go.Proofs.YtgdlfjofefhdoaaGreatDoor
open Go.RowKit Go.Sort Go.Lib Mb

theorem mag_one {f : Nat → Int} {m : Nat} (h : Mag f m) (hv : val f m < B) : m ≤ 1 ∧ val f m = f 0 := by
  have hm : m ≤ 1 := by
    by_cases hc : m ≤ 1
    · exact hc
    · obtain ⟨k, rfl⟩ : ∃ k, m = k + 1 := ⟨m - 1, by omega⟩
      have h1 := h.low
      have h2 := pow_mono (show 1 ≤ k by omega)
      rw [Int.pow_succ, Int.pow_zero, Int.one_mul] at h2
      omega
  refine ⟨hm, ?_⟩
  rw [← h.ext hm]; simp [val]

theorem gcd_step {i j : Int} (h0 : 0 ≤ i) (h : 0 < j) : Int.gcd j (i % j) = Int.gcd i j := by
  obtain ⟨m, rfl⟩ := Int.eq_ofNat_of_zero_le h0
  obtain ⟨n, rfl⟩ := Int.eq_ofNat_of_zero_le (Int.le_of_lt h)
  rw [← Int.natCast_emod]
  show Nat.gcd n (m % n) = Nat.gcd m n
  rw [Nat.gcd_comm, ← Nat.gcd_rec, Nat.gcd_comm]

theorem nat_of_short {n : Int} (h : (itoa n).length ≤ 9) : (n.natAbs : Int) < B := by
  have := itoa_bd h (by omega)
  unfold B; omega

set_option maxRecDepth 100000 in
set_option maxHeartbeats 1600000 in
theorem gcd_short (a b : Int) (w : World) (hg : Good w) (ha : (itoa a).length ≤ 9) (hb : (itoa b).length ≤ 9) (h1 : 0 < b) :
    Calls Tryz.prog 164 #[S a, S b] w fun e w' => e = .returned (.tuple #[S (Int.gcd a b), .int .i64 0]) ∧ Below w.heap.size w w' := by
  have hda : (dg a).length ≤ 1024 := by have := dg_le_itoa a; omega
  have hdb : (dg b).length ≤ 1024 := by have := dg_le_itoa b; omega
  go_enter Tryz.func164, Tryz.ntmps164
  go_wp2_with fail
  refine (all_calls [a, b] _ _ _ (txts2 w a b _) (by simp [hda, hdb]) (by simp)).mono ?_
  rintro e w1 ⟨rfl, hb1⟩
  go_wp2_with fail
  refine (read_calls a _ hda).mono ?_
  rintro e w2 ⟨x, mx, fx, rfl, hx, hmx, hvx, hWx, hb2⟩
  go_wp2_with fail
  refine (read_calls b _ hdb).mono ?_
  rintro e w3 ⟨y, my, fy, rfl, hy, hmy, hvy, hWy, hb3⟩
  have hbb := below_trans (below_trans (below_trans (alloc_below w _) hb1) hb2) hb3
  have hWx3 := hWx.to hb3
  have hx1 := mag_one hmx (by rw [hvx]; exact nat_of_short ha)
  have hy1 := mag_one hmy (by rw [hvy]; exact nat_of_short hb)
  have hbx := hmx.wd 0
  have hby := hmy.wd 0
  have hy0 : my = 1 := by
    rcases Nat.eq_zero_or_pos my with e | e
    · exfalso; rw [e] at hvy; simp [val] at hvy; omega
    · omega
  have HV := Lib.hid (And.intro (hx1.2.symm.trans hvx) (hy1.2.symm.trans hvy)); clear hvx hvy
  have hmx1 : (mx : Int) ≤ 1 := by omega
  clear hx1 hy1 hmx hmy hWx
  subst hy0
  have cx1 := hWx3.c1
  have cy1 := hWy.c1
  have cx2 : w3.cell? ⟨x, 2, none⟩ = some (.int .i64 (fx 0)) := hWx3.cw 0 (by omega)
  have cy2 : w3.cell? ⟨y, 2, none⟩ = some (.int .i64 (fy 0)) := hWy.cw 0 (by omega)
  obtain ⟨u, hu⟩ : ∃ u, fx 0 = u := ⟨_, rfl⟩
  obtain ⟨v, hv⟩ : ∃ v, fy 0 = v := ⟨_, rfl⟩
  rw [hu] at cx2 hbx HV
  rw [hv] at cy2 hby HV
  clear hu hv
  go_wp2_with fail
  refine wp_loop_rounds 1 ?_
  rw [rounds_succ]
  go_wp2_with fail
  go_quiet (fail)
  go_wp2_with fail
  clear cx1 cy1 cx2 cy2 hWx3 hWy hmx1
  have hB : B = 1000000000 := rfl
  have hB' := Lib.hid hB; clear hB
  have hbx' : 0 ≤ u ∧ u < 1000000000 := hbx
  have hby' : 0 ≤ v ∧ v < 1000000000 := hby
  clear hbx hby
  go_loopg [9, 10] v.toNat (fun g p q wr => ∃ i j : Int, p = .int .i64 i ∧ q = .int .i64 j ∧ 0 ≤ i ∧ i < 1000000000 ∧ 0 ≤ j ∧ j < 1000000000 ∧ j.toNat = g ∧ Int.gcd i j = Int.gcd u v ∧ Below w3.heap.size w3 wr)
  case atStart => exact ⟨u, v, rfl, rfl, hbx'.1, hbx'.2, hby'.1, hby'.2, rfl, rfl, bel_dn _ _⟩
  case round =>
    obtain ⟨i, j, rfl, rfl, i0, i1, j0, j1, hj, hgcd, hbel⟩ := hrel
    have H := Lib.hid (And.intro hj hgcd); clear hj hgcd
    by_cases hz : j = 0
    · subst hz
      go_wp2_with fail
      refine (of_calls _ _ (hg.to (below_trans hbb hbel)) (by omega) (by omega)).mono ?_
      rintro e w4 ⟨rfl, hb4⟩
      go_wp2_with fail
      go_ret2
      refine ⟨?_, below_trans (below_trans hbb hbel) hb4⟩
      have h2 := H.out.2
      have h3 := HV.out
      have e1 : i = (Int.gcd a b : Int) := by
        have h4 : Int.gcd i 0 = i.natAbs := by simp
        have h5 : Int.gcd u v = Int.gcd a b := by rw [h3.1, h3.2]; simp [Int.gcd]
        omega
      rw [e1]; rfl
    · have hnz : (j != 0) = true := by simpa using hz
      have hpos : 0 < j := by omega
      have hm1 := Int.emod_nonneg i hz
      have hm2 := Int.emod_lt_of_pos i hpos
      clear hz
      go_wp2_with fail
      go_quiet (fail)
      go_wp2_with fail
      go_roundg (i % j).toNat
      case measure => have := H.out.1; omega
      case rel => exact ⟨j, i % j, rfl, rfl, by omega, by omega, hm1, by omega, rfl, (gcd_step i0 hpos).trans H.out.2, below_trans hbel (bel_dn _ _)⟩

end Go.Proofs.YtgdlfjofefhdoaaGreatDoor
