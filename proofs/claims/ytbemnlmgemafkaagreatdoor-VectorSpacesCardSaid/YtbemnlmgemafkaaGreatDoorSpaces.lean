/- The walk of VectorSpaces. -/
import Derived.Test.YtbemnlmgemafkaaGreatDoorCopl
import Derived.Test.YtbemnlmgemafkaaGreatDoorAwake
namespace Go.Proofs.YtbemnlmgemafkaaGreatDoor
open Go.RowKit Go.Sort Go.Lib Mb

def fewS (n : Nat) : Bool := decide (n ≤ 6) || (decide (64 < n) && decide (n < 128))

theorem fewS_calls (a : Option Addr) (n cap : Nat) (w : World) (hn : n ≤ 9223372036854775807) :
    Calls Tryz.prog 22 #[.slice a n cap] w fun e w' => e = .returned (.bool (fewS n)) ∧ Below w.heap.size w w' := by
  by_cases h1 : n ≤ 6
  · have h1' : (n : Int) ≤ 6 := by omega
    go_enter Tryz.func22, Tryz.ntmps22
    go_wp2_with fail
    go_ret
    exact ⟨ret_b (by simp [fewS, h1]), Below.refl _ _⟩
  · have h1' : ¬ (n : Int) ≤ 6 := by omega
    by_cases h2 : 64 < n
    · have h2' : (64 : Int) < n := by omega
      by_cases h3 : n < 128
      · have h3' : (n : Int) < 128 := by omega
        go_enter Tryz.func22, Tryz.ntmps22
        go_wp2_with fail
        go_ret
        exact ⟨ret_b (by simp [fewS, h1, h2, h3]), Below.refl _ _⟩
      · have h3' : ¬ (n : Int) < 128 := by omega
        go_enter Tryz.func22, Tryz.ntmps22
        go_wp2_with fail
        go_ret
        exact ⟨ret_b (by simp [fewS, h1, h2, h3]), Below.refl _ _⟩
    · have h2' : ¬ (64 : Int) < n := by omega
      go_enter Tryz.func22, Tryz.ntmps22
      go_wp2_with fail
      go_ret
      exact ⟨ret_b (by simp [fewS, h1, h2]), Below.refl _ _⟩

/-- what both answer -/
def CoA (l : List P3) (b : Bool) : Prop := (errL3 l = 0 → (b = true ↔ EvenP l)) ∧ (errL3 l ≠ 0 → b = false)
theorem CoA.uniq {l : List P3} {a b : Bool} (ha : CoA l a) (hb : CoA l b) : a = b := by
  by_cases h : errL3 l = 0
  · have h1 := ha.1 h
    have h2 := hb.1 h
    cases a <;> cases b <;> simp_all
  · rw [ha.2 h, hb.2 h]

theorem coplanar_any (l : List P3) (a : Option Addr) (cap : Nat) (w : World) (hT : Sl3 w a l) (hn : l.length ≤ 9223372036854775807) :
    Calls Tryz.prog 23 #[.slice a l.length cap] w fun e w' => (∃ b : Bool, e = .returned (.tuple #[.bool b, .int .i64 (errL3 l)]) ∧ CoA l b) ∧ Below w.heap.size w w' := by
  by_cases he : errL3 l = 0
  · have hl : l.length ≤ 64 := by unfold errL3 at he; split at he <;> omega
    have he3 : errOf3 l = 0 := by unfold errL3 at he; rwa [if_neg (by omega)] at he
    refine (coplanar_calls l a cap w hT hl he3).mono ?_
    rintro e w' ⟨⟨b, rfl, hb⟩, hbel⟩
    exact ⟨⟨b, by rw [he], fun _ => hb, fun h => absurd he h⟩, hbel⟩
  · have H := checkS_calls l a cap w hT hn
    obtain ⟨r, hr⟩ : ∃ r, errL3 l = r := ⟨_, rfl⟩
    rw [hr] at H he
    have HR := Lib.hid hr; clear hr hT
    go_enter Tryz.func23, Tryz.ntmps23
    go_wp2_with fail
    refine H.mono ?_
    rintro e w1 ⟨rfl, hb1⟩
    clear H
    go_wp2_with fail
    go_ret2
    exact ⟨⟨false, by rw [HR.out]; rfl, fun h => absurd (HR.out ▸ h) he, fun _ => rfl⟩, hb1⟩

theorem rcoplanar_any (l : List P3) (a : Option Addr) (cap : Nat) (w : World) (hT : Sl3 w a l) (hn : l.length ≤ 9223372036854775807) :
    Calls Tryz.prog 24 #[.slice a l.length cap] w fun e w' => (∃ b : Bool, e = .returned (.tuple #[.bool b, .int .i64 (errL3 l)]) ∧ CoA l b) ∧ Below w.heap.size w w' := by
  have H := rcheckS_calls l a cap w hT hn
  by_cases he : errL3 l = 0
  · have hl : l.length ≤ 64 := by unfold errL3 at he; split at he <;> omega
    have he3 : errOf3 l = 0 := by unfold errL3 at he; rwa [if_neg (by omega)] at he
    rw [he] at H
    have HR := Lib.hid (And.intro he (And.intro hT he3)); clear he hT he3
    go_enter Tryz.func24, Tryz.ntmps24
    go_wp2_with fail
    refine H.mono ?_
    rintro e w1 ⟨rfl, hb1⟩
    clear H
    go_wp2_with fail
    refine (even_calls l a cap _ (HR.out.2.1.to hb1) hl HR.out.2.2).mono ?_
    rintro e w2 ⟨⟨b, rfl, hb⟩, hb2⟩
    have HB := Lib.hid hb; clear hb
    go_wp2_with fail
    go_ret2
    exact ⟨⟨b, by rw [HR.out.1]; rfl, fun _ => HB.out, fun h => absurd HR.out.1 h⟩, below_trans hb1 hb2⟩
  · obtain ⟨r, hr⟩ : ∃ r, errL3 l = r := ⟨_, rfl⟩
    rw [hr] at H he
    have HR := Lib.hid hr; clear hr hT
    go_enter Tryz.func24, Tryz.ntmps24
    go_wp2_with fail
    refine H.mono ?_
    rintro e w1 ⟨rfl, hb1⟩
    clear H
    go_wp2_with fail
    go_ret2
    exact ⟨⟨false, by rw [HR.out]; rfl, fun h => absurd (HR.out ▸ h) he, fun _ => rfl⟩, hb1⟩

set_option maxHeartbeats 800000 in
theorem spaces_calls (l : List P3) (a : Option Addr) (cap : Nat) (w : World) (hg : Good w) (hT : Sl3 w a l) (hn : l.length ≤ maxLen) :
    Calls Tryz.prog 5 #[.slice a l.length cap] w fun e w' => e = .returned (.bool true) ∧ Below w.heap.size w w' := by
  have hn' : l.length ≤ 9223372036854775807 := Nat.le_trans hn (by decide)
  have HT := Lib.hid (And.intro hg (And.intro hT hn')); clear hg hT
  have HF := fewS_calls a l.length cap w hn'
  cases hf : fewS l.length with
  | false =>
    rw [hf] at HF
    clear hf
    go_enter Tryz.func5, Tryz.ntmps5
    go_wp2_with fail
    refine HF.mono ?_
    rintro e w1 ⟨rfl, hb1⟩
    clear HF
    go_wp2_with fail
    refine (awake_calls _ (HT.out.1.to hb1)).mono ?_
    rintro e w2 ⟨rfl, hb2⟩
    go_wp2_with fail
    go_ret
    exact ⟨rfl, below_trans hb1 hb2⟩
  | true =>
    rw [hf] at HF
    clear hf
    go_enter Tryz.func5, Tryz.ntmps5
    go_wp2_with fail
    refine HF.mono ?_
    rintro e w1 ⟨rfl, hb1⟩
    clear HF
    go_wp2_with fail
    refine (coplanar_any l a cap _ (HT.out.2.1.to hb1) hn').mono ?_
    rintro e w2 ⟨⟨b1, rfl, h1⟩, hb2⟩
    have H2 := Lib.hid (And.intro (below_trans hb1 hb2) h1); clear hb1 hb2 h1
    go_wp2_with fail
    refine (rcoplanar_any l a cap _ (HT.out.2.1.to H2.out.1) hn').mono ?_
    rintro e w3 ⟨⟨b2, rfl, h2⟩, hb3⟩
    obtain rfl : b1 = b2 := H2.out.2.uniq h2
    have H3 := Lib.hid (below_trans H2.out.1 hb3); clear hb3 h2
    go_wp2_with fail
    refine (awake_calls _ (HT.out.1.to H3.out)).mono ?_
    rintro e w4 ⟨rfl, hb4⟩
    have H4 := Lib.hid (below_trans H3.out hb4); clear hb4
    go_wp2_with fail
    refine (checkS_calls l a cap _ (HT.out.2.1.to H4.out) hn').mono ?_
    rintro e w5 ⟨rfl, hb5⟩
    have H5 := Lib.hid (below_trans H4.out hb5); clear hb5
    go_wp2_with fail
    refine (rcheckS_calls l a cap _ (HT.out.2.1.to H5.out) hn').mono ?_
    rintro e w6 ⟨rfl, hb6⟩
    have H6 := Lib.hid (below_trans H5.out hb6); clear hb6
    go_wp2_with fail
    go_ret
    exact ⟨ret_b (by simp), H6.out⟩

end Go.Proofs.YtbemnlmgemafkaaGreatDoor
