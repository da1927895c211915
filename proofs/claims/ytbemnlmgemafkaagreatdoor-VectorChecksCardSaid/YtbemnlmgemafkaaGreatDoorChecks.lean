/- The walk of VectorChecks. -/
import Derived.Test.YtbemnlmgemafkaaGreatDoorArea
import Derived.Test.YtbemnlmgemafkaaGreatDoorColl
import Derived.Test.YtbemnlmgemafkaaGreatDoorSortR
import Derived.Test.YtbemnlmgemafkaaGreatDoorAwake
namespace Go.Proofs.YtbemnlmgemafkaaGreatDoor
open Go.RowKit Go.Sort Go.Lib Mb

def fewP (n : Nat) : Bool := decide (n ≤ 8) || (decide (64 < n) && decide (n < 128))

theorem fewP_calls (a : Option Addr) (n cap : Nat) (w : World) (hn : n ≤ 9223372036854775807) :
    Calls Tryz.prog 35 #[.slice a n cap] w fun e w' => e = .returned (.bool (fewP n)) ∧ Below w.heap.size w w' := by
  by_cases h1 : n ≤ 8
  · have h1' : (n : Int) ≤ 8 := by omega
    go_enter Tryz.func35, Tryz.ntmps35
    go_wp2_with fail
    go_ret
    exact ⟨ret_b (by simp [fewP, h1]), Below.refl _ _⟩
  · have h1' : ¬ (n : Int) ≤ 8 := by omega
    by_cases h2 : 64 < n
    · have h2' : (64 : Int) < n := by omega
      by_cases h3 : n < 128
      · have h3' : (n : Int) < 128 := by omega
        go_enter Tryz.func35, Tryz.ntmps35
        go_wp2_with fail
        go_ret
        exact ⟨ret_b (by simp [fewP, h1, h2, h3]), Below.refl _ _⟩
      · have h3' : ¬ (n : Int) < 128 := by omega
        go_enter Tryz.func35, Tryz.ntmps35
        go_wp2_with fail
        go_ret
        exact ⟨ret_b (by simp [fewP, h1, h2, h3]), Below.refl _ _⟩
    · have h2' : ¬ (64 : Int) < n := by omega
      go_enter Tryz.func35, Tryz.ntmps35
      go_wp2_with fail
      go_ret
      exact ⟨ret_b (by simp [fewP, h1, h2]), Below.refl _ _⟩

theorem errL_cases {l : List P2} (h : l.length ≤ 8 ∨ 64 < l.length) (he : errL l = 0) : l.length ≤ 8 ∧ errOf l = 0 := by
  unfold errL at he
  split at he
  · omega
  · exact ⟨by omega, he⟩

def ar2 (l : List P2) : Int := if errL l = 0 then areaOf l else 0

theorem area_any (l : List P2) (a : Option Addr) (cap : Nat) (w : World) (hT : Sl2 w a l) (hn : l.length ≤ 9223372036854775807) (hF : l.length ≤ 8 ∨ 64 < l.length) :
    Calls Tryz.prog 29 #[.slice a l.length cap] w fun e w' => e = .returned (.tuple #[.int .i64 (ar2 l), .int .i64 (errL l)]) ∧ Below w.heap.size w w' := by
  by_cases he : errL l = 0
  · obtain ⟨h8, he2⟩ := errL_cases hF he
    rw [he, show ar2 l = areaOf l from if_pos he]
    exact area_calls l a cap w hT (by omega) he2
  · have H := checkP_calls l a cap w hT hn
    have ha : ar2 l = 0 := if_neg he
    rw [ha]
    obtain ⟨r, hr⟩ : ∃ r, errL l = r := ⟨_, rfl⟩
    rw [hr] at H he ⊢
    clear hr hT ha
    go_enter Tryz.func29, Tryz.ntmps29
    go_wp2_with fail
    refine H.mono ?_
    rintro e w1 ⟨rfl, hb1⟩
    clear H
    go_wp2_with fail
    go_ret2
    exact ⟨rfl, hb1⟩

theorem rarea_any (l : List P2) (a : Option Addr) (cap : Nat) (w : World) (hT : Sl2 w a l) (hn : l.length ≤ 9223372036854775807) (hF : l.length ≤ 8 ∨ 64 < l.length) :
    Calls Tryz.prog 36 #[.slice a l.length cap] w fun e w' => e = .returned (.tuple #[.int .i64 (ar2 l), .int .i64 (errL l)]) ∧ Below w.heap.size w w' := by
  have H := rcheckP_calls l a cap w hT hn
  by_cases he : errL l = 0
  · obtain ⟨h8, he2⟩ := errL_cases hF he
    rw [he] at H ⊢
    rw [show ar2 l = areaOf l from if_pos he]
    have HT := Lib.hid (And.intro hT he2); clear hT he2 he
    go_enter Tryz.func36, Tryz.ntmps36
    go_wp2_with fail
    refine H.mono ?_
    rintro e w1 ⟨rfl, hb1⟩
    clear H
    go_wp2_with fail
    refine (twice_calls l a cap _ (HT.out.1.to hb1) (by omega) HT.out.2).mono ?_
    rintro e w2 ⟨rfl, hb2⟩
    go_wp2_with fail
    go_ret2
    exact ⟨rfl, below_trans hb1 hb2⟩
  · have ha : ar2 l = 0 := if_neg he
    rw [ha]
    obtain ⟨r, hr⟩ : ∃ r, errL l = r := ⟨_, rfl⟩
    rw [hr] at H he ⊢
    clear hr hT ha
    go_enter Tryz.func36, Tryz.ntmps36
    go_wp2_with fail
    refine H.mono ?_
    rintro e w1 ⟨rfl, hb1⟩
    clear H
    go_wp2_with fail
    go_ret2
    exact ⟨rfl, hb1⟩

/-- what both answer -/
def StA (l : List P2) (b : Bool) : Prop := (errL l = 0 → (b = true ↔ StrP l)) ∧ (errL l ≠ 0 → b = false)
theorem StA.uniq {l : List P2} {a b : Bool} (ha : StA l a) (hb : StA l b) : a = b := by
  by_cases h : errL l = 0
  · have h1 := ha.1 h
    have h2 := hb.1 h
    cases a <;> cases b <;> simp_all
  · rw [ha.2 h, hb.2 h]

theorem collinear_any (l : List P2) (a : Option Addr) (cap : Nat) (w : World) (hT : Sl2 w a l) (hn : l.length ≤ 9223372036854775807) (hF : l.length ≤ 8 ∨ 64 < l.length) :
    Calls Tryz.prog 37 #[.slice a l.length cap] w fun e w' => (∃ b : Bool, e = .returned (.tuple #[.bool b, .int .i64 (errL l)]) ∧ StA l b) ∧ Below w.heap.size w w' := by
  by_cases he : errL l = 0
  · obtain ⟨h8, he2⟩ := errL_cases hF he
    refine (collinear_calls l a cap w hT (by omega) he2).mono ?_
    rintro e w' ⟨⟨b, rfl, hb⟩, hbel⟩
    exact ⟨⟨b, by rw [he], fun _ => hb, fun h => absurd he h⟩, hbel⟩
  · have H := fun W b => checkP_calls l a cap W b hn
    obtain ⟨r, hr⟩ : ∃ r, errL l = r := ⟨_, rfl⟩
    rw [hr] at H he
    have HR := Lib.hid (And.intro hr hT); clear hr hT
    go_enter Tryz.func37, Tryz.ntmps37
    go_wp2_with fail
    refine (H _ (HR.out.2.to (alloc_below _ _))).mono ?_
    rintro e w1 ⟨rfl, hb1⟩
    have hb2 := below_trans (alloc_below _ _) hb1
    clear H hb1
    go_wp2_with fail
    go_ret2
    exact ⟨⟨false, by rw [HR.out.1]; rfl, fun h => absurd (HR.out.1 ▸ h) he, fun _ => rfl⟩, hb2⟩

theorem rcollinear_any (l : List P2) (a : Option Addr) (cap : Nat) (w : World) (hT : Sl2 w a l) (hn : l.length ≤ 9223372036854775807) (hF : l.length ≤ 8 ∨ 64 < l.length) :
    Calls Tryz.prog 38 #[.slice a l.length cap] w fun e w' => (∃ b : Bool, e = .returned (.tuple #[.bool b, .int .i64 (errL l)]) ∧ StA l b) ∧ Below w.heap.size w w' := by
  have H := rcheckP_calls l a cap w hT hn
  by_cases he : errL l = 0
  · obtain ⟨h8, he2⟩ := errL_cases hF he
    rw [he] at H
    have HR := Lib.hid (And.intro he (And.intro hT he2)); clear he hT he2
    go_enter Tryz.func38, Tryz.ntmps38
    go_wp2_with fail
    refine H.mono ?_
    rintro e w1 ⟨rfl, hb1⟩
    clear H
    go_wp2_with fail
    refine (straight_calls l a cap _ (HR.out.2.1.to hb1) (by omega) HR.out.2.2).mono ?_
    rintro e w2 ⟨⟨b, rfl, hb⟩, hb2⟩
    have HB := Lib.hid hb; clear hb
    go_wp2_with fail
    go_ret2
    exact ⟨⟨b, by rw [HR.out.1]; rfl, fun _ => HB.out, fun h => absurd HR.out.1 h⟩, below_trans hb1 hb2⟩
  · obtain ⟨r, hr⟩ : ∃ r, errL l = r := ⟨_, rfl⟩
    rw [hr] at H he
    have HR := Lib.hid hr; clear hr hT
    go_enter Tryz.func38, Tryz.ntmps38
    go_wp2_with fail
    refine H.mono ?_
    rintro e w1 ⟨rfl, hb1⟩
    clear H
    go_wp2_with fail
    go_ret2
    exact ⟨⟨false, by rw [HR.out]; rfl, fun h => absurd (HR.out ▸ h) he, fun _ => rfl⟩, hb1⟩

/-- the indices, or none behind an error -/
def Ors (w : World) (v : Value) (l : List P2) : Prop := (errL l = 0 → Ixs w v l) ∧ (errL l ≠ 0 → v = .slice none 0 0)
theorem Ixs.to {w w' : World} {v : Value} {l : List P2} (h : Ixs w v l) (hb : Below w.heap.size w w') : Ixs w' v l := by
  obtain ⟨a, cp, e, hc⟩ := h
  exact ⟨a, cp, e, fun j hj => by
    obtain ⟨b, e1, e2⟩ := hc j hj
    exact ⟨b, e1, cell_to e2 hb⟩⟩
theorem Ors.to {w w' : World} {v : Value} {l : List P2} (h : Ors w v l) (hb : Below w.heap.size w w') : Ors w' v l := ⟨fun he => (h.1 he).to hb, h.2⟩

theorem order_any (l : List P2) (a : Option Addr) (cap : Nat) (w : World) (hT : Sl2 w a l) (hn : l.length ≤ 9223372036854775807) (hF : l.length ≤ 8 ∨ 64 < l.length) :
    Calls Tryz.prog 39 #[.slice a l.length cap] w fun e w' => (∃ v, e = .returned (.tuple #[v, .int .i64 (errL l)]) ∧ Ors w' v l) ∧ Below w.heap.size w w' := by
  by_cases he : errL l = 0
  · obtain ⟨h8, he2⟩ := errL_cases hF he
    refine (order_calls l a cap w hT h8 he2).mono ?_
    rintro e w' ⟨⟨v, rfl, hb⟩, hbel⟩
    exact ⟨⟨v, by rw [he], fun _ => hb, fun h => absurd he h⟩, hbel⟩
  · have H := fun W b => checkP_calls l a cap W b hn
    obtain ⟨r, hr⟩ : ∃ r, errL l = r := ⟨_, rfl⟩
    rw [hr] at H he
    have HR := Lib.hid (And.intro hr hT); clear hr hT
    go_enter Tryz.func39, Tryz.ntmps39
    go_wp2_with fail
    refine (H _ (HR.out.2.to (alloc_below _ _))).mono ?_
    rintro e w1 ⟨rfl, hb1⟩
    have hb2 := below_trans (alloc_below _ _) hb1
    clear H hb1
    go_wp2_with fail
    go_ret2
    exact ⟨⟨.slice none 0 0, by rw [HR.out.1]; rfl, fun h => absurd (HR.out.1 ▸ h) he, fun _ => rfl⟩, hb2⟩

theorem rorder_any (l : List P2) (a : Option Addr) (cap : Nat) (w : World) (hT : Sl2 w a l) (hn : l.length ≤ 9223372036854775807) (hF : l.length ≤ 8 ∨ 64 < l.length) :
    Calls Tryz.prog 40 #[.slice a l.length cap] w fun e w' => (∃ v, e = .returned (.tuple #[v, .int .i64 (errL l)]) ∧ Ors w' v l) ∧ Below w.heap.size w w' := by
  have H := rcheckP_calls l a cap w hT hn
  by_cases he : errL l = 0
  · obtain ⟨h8, he2⟩ := errL_cases hF he
    rw [he] at H
    have HR := Lib.hid (And.intro he hT); clear he hT he2
    go_enter Tryz.func40, Tryz.ntmps40
    go_wp2_with fail
    refine H.mono ?_
    rintro e w1 ⟨rfl, hb1⟩
    clear H
    go_wp2_with fail
    refine (sorted_calls l a cap _ (HR.out.2.to hb1) h8).mono ?_
    rintro e w2 ⟨⟨v, rfl, hb⟩, hb2⟩
    have HB := Lib.hid hb; clear hb
    go_wp2_with fail
    go_ret2
    exact ⟨⟨v, by rw [HR.out.1]; rfl, fun _ => HB.out, fun h => absurd HR.out.1 h⟩, below_trans hb1 hb2⟩
  · obtain ⟨r, hr⟩ : ∃ r, errL l = r := ⟨_, rfl⟩
    rw [hr] at H he
    have HR := Lib.hid hr; clear hr hT
    go_enter Tryz.func40, Tryz.ntmps40
    go_wp2_with fail
    refine H.mono ?_
    rintro e w1 ⟨rfl, hb1⟩
    clear H
    go_wp2_with fail
    go_ret2
    exact ⟨⟨.slice none 0 0, by rw [HR.out]; rfl, fun h => absurd (HR.out ▸ h) he, fun _ => rfl⟩, hb1⟩

/-- two lists of the same whole numbers -/
def Two (w : World) (v u : Value) : Prop := ∃ (n : Nat) (a1 a2 : Option Addr) (c1 c2 : Nat) (f : Nat → Int), n ≤ 100 ∧ v = .slice a1 n c1 ∧ u = .slice a2 n c2 ∧
  ∀ j, j < n → ∃ b1 b2, a1 = some ⟨b1, 0, none⟩ ∧ a2 = some ⟨b2, 0, none⟩ ∧ w.cell? ⟨b1, j, none⟩ = some (.int .i64 (f j)) ∧ w.cell? ⟨b2, j, none⟩ = some (.int .i64 (f j))
theorem two_of {w : World} {v u : Value} {l : List P2} (hF : l.length ≤ 8 ∨ 64 < l.length) (h1 : Ors w v l) (h2 : Ors w u l) : Two w v u := by
  by_cases he : errL l = 0
  · obtain ⟨h8, _⟩ := errL_cases hF he
    obtain ⟨a1, c1, e1, k1⟩ := h1.1 he
    obtain ⟨a2, c2, e2, k2⟩ := h2.1 he
    exact ⟨l.length, a1, a2, c1, c2, fun j => (((srt l)[j]! % l.length : Nat) : Int), by omega, e1, e2, fun j hj => by
      obtain ⟨b1, x1, y1⟩ := k1 j hj
      obtain ⟨b2, x2, y2⟩ := k2 j hj
      exact ⟨b1, b2, x1, x2, y1, y2⟩⟩
  · exact ⟨0, none, none, 0, 0, fun _ => 0, by omega, h1.2 he, h2.2 he, fun j hj => absurd hj (Nat.not_lt_zero _)⟩

set_option maxHeartbeats 1600000 in
theorem same_calls (v u : Value) (w : World) (h : Two w v u) :
    Calls Tryz.prog 43 #[v, u] w fun e w' => e = .returned (.bool true) ∧ Below w.heap.size w w' := by
  obtain ⟨n, a1, a2, c1, c2, f, hn, rfl, rfl, hc⟩ := h
  have HC := Lib.hid hc; clear hc
  go_enter Tryz.func43, Tryz.ntmps43
  go_wp2_with fail
  go_loopg [5] n (fun g v wr => ∃ i : Nat, i + g = n ∧ v = .int .i64 i ∧ Below w.heap.size w wr)
  case atStart => exact ⟨0, Nat.zero_add _, rfl, Below.refl _ _⟩
  case round =>
    obtain ⟨i, hi, rfl, hbel⟩ := hrel
    by_cases hlt : i < n
    · obtain ⟨b1, b2, rfl, rfl, k1, k2⟩ := HC.out i hlt
      have r1 := cell_regrown (cell_to k1 hbel)
      have r2 := cell_regrown (cell_to k2 hbel)
      have HB := Lib.hid hbel
      clear k1 k2 hbel
      have i1 : ((i : Int) < (n : Int)) := by omega
      have z1 : (0 : Int) ≤ (i : Int) := by omega
      have n1 : n ≠ 0 := by omega
      obtain ⟨s, hs⟩ : ∃ s, f i = s := ⟨_, rfl⟩
      rw [hs] at r1 r2
      clear hs
      go_wp2_with fail
      refine wp_region_quiet_below follows (by kernel_rfl) ?_
      repeat (quiet_step (fail))
      refine wpQuiet_nil ?_
      intro _ hw'
      obtain ⟨⟨dq, osq⟩, rfl⟩ := hw'
      go_wp2_with fail
      go_roundg (n - i - 1)
      case measure => omega
      case rel => exact ⟨i + 1, by omega, by go_num, below_trans HB.out (below_regrown wr dq osq)⟩
    · go_wp2_with fail
      go_ret
      exact ⟨rfl, hbel⟩

set_option maxRecDepth 8000 in
set_option maxHeartbeats 1600000 in
theorem checks_calls (l : List P2) (a : Option Addr) (cap : Nat) (w : World) (hg : Good w) (hT : Sl2 w a l) (hn : l.length ≤ maxLen) :
    Calls Tryz.prog 8 #[.slice a l.length cap] w fun e w' => e = .returned (.bool true) ∧ Below w.heap.size w w' := by
  have hn' : l.length ≤ 9223372036854775807 := Nat.le_trans hn (by decide)
  have HT := Lib.hid (And.intro hg (And.intro hT hn')); clear hg hT
  have HF := fewP_calls a l.length cap w hn'
  cases hf : fewP l.length with
  | false =>
    rw [hf] at HF
    clear hf
    go_enter Tryz.func8, Tryz.ntmps8
    go_wp2_with fail
    refine HF.mono ?_
    rintro e w1 ⟨rfl, hb1⟩
    clear HF
    go_wp2_with fail
    refine (awake_calls _ (HT.out.1.to hb1)).mono ?_
    rintro e w2 ⟨rfl, hb2⟩
    go_wp2_with fail
    go_ret
    exact ⟨rfl, below_trans hb1 hb2⟩
  | true =>
    rw [hf] at HF
    have hFw : l.length ≤ 8 ∨ 64 < l.length := by
      simp only [fewP, Bool.or_eq_true, Bool.and_eq_true, decide_eq_true_eq] at hf
      omega
    have HW := Lib.hid hFw
    clear hf hFw
    go_enter Tryz.func8, Tryz.ntmps8
    go_wp2_with fail
    refine HF.mono ?_
    rintro e w1 ⟨rfl, hb1⟩
    have H1 := Lib.hid hb1; clear HF hb1
    go_wp2_with fail
    refine (area_any l a cap _ (HT.out.2.1.to H1.out) hn' HW.out).mono ?_
    rintro e w2 ⟨rfl, hb2⟩
    have H2 := Lib.hid (below_trans H1.out hb2); clear hb2
    go_wp2_with fail
    refine (rarea_any l a cap _ (HT.out.2.1.to H2.out) hn' HW.out).mono ?_
    rintro e w3 ⟨rfl, hb3⟩
    have H3 := Lib.hid (below_trans H2.out hb3); clear hb3
    go_wp2_with fail
    refine (collinear_any l a cap _ (HT.out.2.1.to H3.out) hn' HW.out).mono ?_
    rintro e w4 ⟨⟨b1, rfl, s1⟩, hb4⟩
    have H4 := Lib.hid (And.intro (below_trans H3.out hb4) s1); clear hb4 s1
    go_wp2_with fail
    refine (rcollinear_any l a cap _ (HT.out.2.1.to H4.out.1) hn' HW.out).mono ?_
    rintro e w5 ⟨⟨b2, rfl, s2⟩, hb5⟩
    obtain rfl : b1 = b2 := H4.out.2.uniq s2
    have H5 := Lib.hid (below_trans H4.out.1 hb5); clear hb5 s2
    go_wp2_with fail
    refine (order_any l a cap _ (HT.out.2.1.to H5.out) hn' HW.out).mono ?_
    rintro e w6 ⟨⟨v1, rfl, o1⟩, hb6⟩
    have H6 := Lib.hid (And.intro (below_trans H5.out hb6) o1); clear hb6 o1
    go_wp2_with fail
    refine (rorder_any l a cap _ (HT.out.2.1.to H6.out.1) hn' HW.out).mono ?_
    rintro e w7 ⟨⟨v2, rfl, o2⟩, hb7⟩
    have H7 := Lib.hid (And.intro (below_trans H6.out.1 hb7) (And.intro (H6.out.2.to hb7) o2)); clear hb7 o2
    go_wp2_with fail
    refine (awake_calls _ (HT.out.1.to H7.out.1)).mono ?_
    rintro e w8 ⟨rfl, hb8⟩
    have H8 := Lib.hid (And.intro (below_trans H7.out.1 hb8) (And.intro (H7.out.2.1.to hb8) (H7.out.2.2.to hb8))); clear hb8
    go_wp2_with fail
    refine (checkP_calls l a cap _ (HT.out.2.1.to H8.out.1) hn').mono ?_
    rintro e w9 ⟨rfl, hb9⟩
    have H9 := Lib.hid (And.intro (below_trans H8.out.1 hb9) (And.intro (H8.out.2.1.to hb9) (H8.out.2.2.to hb9))); clear hb9
    go_wp2_with fail
    refine (rcheckP_calls l a cap _ (HT.out.2.1.to H9.out.1) hn').mono ?_
    rintro e w10 ⟨rfl, hb10⟩
    have H10 := Lib.hid (And.intro (below_trans H9.out.1 hb10) (two_of HW.out (H9.out.2.1.to hb10) (H9.out.2.2.to hb10))); clear hb10
    go_wp2_with fail
    refine (same_calls v1 v2 _ H10.out.2).mono ?_
    rintro e w11 ⟨rfl, hb11⟩
    have H11 := Lib.hid (below_trans H10.out.1 hb11); clear hb11
    go_wp2_with fail
    go_ret
    exact ⟨ret_b (by simp), H11.out⟩

end Go.Proofs.YtbemnlmgemafkaaGreatDoor
