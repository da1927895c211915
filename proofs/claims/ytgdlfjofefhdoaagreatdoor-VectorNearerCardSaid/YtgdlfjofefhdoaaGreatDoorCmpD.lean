/- Plain texts: the comparison of decimal texts, the cut at the slash. No program here. -/
import Derived.Test.YtgdlfjofefhdoaaGreatDoorDec
import Derived.Lib.IndexMore
import Derived.Lib.Strings
namespace Mb
open Go.Lib

def cmp3 (a b : Int) : Int := if a < b then -1 else if b < a then 1 else 0

theorem cmp3_add (k x y : Int) : cmp3 (k + x) (k + y) = cmp3 x y := by
  unfold cmp3; repeat' split
  all_goals first | rfl | omega

theorem dv_cons (b : UInt8) (l : List UInt8) : dv (b :: l) = (b.toNat - 48) * 10 ^ l.length + dv l := by
  rw [show b :: l = [b] ++ l from rfl, dv_append, dv_one]

/-- digits of one length compare as their values do -/
theorem compare_dig : ∀ {l m : List UInt8}, l.length = m.length → Dig l → Dig m → compareBytes l m = cmp3 (dv l) (dv m)
  | [], [], _, _, _ => by rw [dv_nil, show compareBytes [] [] = 0 by simp only [compareBytes]]; rfl
  | [], _ :: _, h, _, _ => by simp at h
  | _ :: _, [], h, _, _ => by simp at h
  | a :: l, b :: m, h, hl, hm => by
    have hlen : l.length = m.length := by simpa using h
    have ih := compare_dig hlen (fun x hx => hl x (by simp [hx])) (fun x hx => hm x (by simp [hx]))
    have ha := hl a (by simp)
    have hb := hm b (by simp)
    have l1 := dv_lt (l := l) (fun x hx => hl x (by simp [hx]))
    have l2 := dv_lt (l := m) (fun x hx => hm x (by simp [hx]))
    rw [dv_cons, dv_cons, hlen]
    rw [hlen] at l1
    have hp : 0 < 10 ^ m.length := Nat.pow_pos (by decide)
    unfold compareBytes
    generalize 10 ^ m.length = P at *
    by_cases h1 : a < b
    · rw [if_pos h1]
      have h1' : a.toNat < b.toNat := h1
      have h2 : (a.toNat - 48 + 1) * P ≤ (b.toNat - 48) * P := Nat.mul_le_mul_right _ (by omega)
      rw [Nat.add_mul] at h2
      unfold cmp3
      rw [if_pos (by omega)]
    · rw [if_neg h1]
      have h1' : ¬ a.toNat < b.toNat := h1
      by_cases h2 : b < a
      · rw [if_pos h2]
        have h2' : b.toNat < a.toNat := h2
        have h3 : (b.toNat - 48 + 1) * P ≤ (a.toNat - 48) * P := Nat.mul_le_mul_right _ (by omega)
        rw [Nat.add_mul] at h3
        unfold cmp3
        rw [if_neg (by omega), if_pos (by omega)]
      · rw [if_neg h2, ih]
        have h2' : ¬ b.toNat < a.toNat := h2
        have e : a.toNat = b.toNat := by omega
        rw [e]
        rw [Int.natCast_add, Int.natCast_add, cmp3_add]

/-- the order of magnitudes by length, then by bytes -/
def ordL (l m : List UInt8) : Int := if l.length ≠ m.length then (if l.length < m.length then -1 else 1) else compareBytes l m

theorem len_lt {u v : Nat} (h : (decDigits u).length < (decDigits v).length) : u < v := by
  have hp : 1 ≤ (decDigits u).length := by have := decDigits_ne u; cases hx : decDigits u <;> simp_all
  have h1 := (decDigits_len_le (u := u) hp).1 (Nat.le_refl _)
  rcases Nat.lt_or_ge v (10 ^ (decDigits u).length) with h2 | h2
  · have := (decDigits_len_le (u := v) hp).2 h2; omega
  · omega

theorem ordL_dec (u v : Nat) : ordL (decDigits u) (decDigits v) = cmp3 u v := by
  unfold ordL
  by_cases h : (decDigits u).length ≠ (decDigits v).length
  · rw [if_pos h]
    by_cases h1 : (decDigits u).length < (decDigits v).length
    · rw [if_pos h1]; have := len_lt h1; unfold cmp3; rw [if_pos (by omega)]
    · rw [if_neg h1]; have := len_lt (u := v) (v := u) (by omega); unfold cmp3; rw [if_neg (by omega), if_pos (by omega)]
  · rw [if_neg h, compare_dig (by omega) (dig_decDigits _) (dig_decDigits _), dv_decDigits, dv_decDigits]

/-- the sign of an integer -/
def sg (n : Int) : Int := if n = 0 then 0 else if n < 0 then -1 else 1

theorem cmp_signed (a b : Int) : (if sg a < sg b then -1 else if sg b < sg a then 1 else sg a * cmp3 (a.natAbs : Int) (b.natAbs : Int)) = cmp3 a b := by
  have e1 : ∀ {n : Int}, n < 0 → sg n = -1 := fun h => by unfold sg; rw [if_neg (by omega), if_pos h]
  have e2 : ∀ {n : Int}, n = 0 → sg n = 0 := fun h => by unfold sg; rw [if_pos h]
  have e3 : ∀ {n : Int}, 0 < n → sg n = 1 := fun h => by unfold sg; rw [if_neg (by omega), if_neg (by omega)]
  rcases Int.lt_trichotomy a 0 with ha | ha | ha <;> rcases Int.lt_trichotomy b 0 with hb | hb | hb <;> simp only [e1, e2, e3, ha, hb] <;> unfold cmp3 <;> repeat' split
  all_goals first | rfl | omega

theorem index_none : ∀ {l : List UInt8}, (47 : UInt8) ∉ l → index l [47] = -1
  | [], _ => by simp [index]
  | b :: l, h => by
    have h1 : (47 == b) = false := by rw [beq_eq_false_iff_ne]; intro e; subst e; simp at h
    unfold index
    rw [index_none (fun hx => h (by simp [hx]))]
    simp [List.isPrefixOf, h1]

theorem index_some : ∀ {l : List UInt8} (m : List UInt8), (47 : UInt8) ∉ l → index (l ++ 47 :: m) [47] = (l.length : Int)
  | [], m, _ => by simp [index, List.isPrefixOf]
  | b :: l, m, h => by
    have h1 : (47 == b) = false := by rw [beq_eq_false_iff_ne]; intro e; subst e; simp at h
    rw [List.cons_append]
    unfold index
    rw [index_some m (fun hx => h (by simp [hx]))]
    have h2 : ((l.length : Int) == -1) = false := by rw [beq_eq_false_iff_ne]; omega
    simp [List.isPrefixOf, h1, h2]

theorem cut_none {l : List UInt8} (h : (47 : UInt8) ∉ l) : Go.Lib.cut l [47] = (l, [], false) := by
  unfold Go.Lib.cut; rw [index_none h]; rfl

theorem cut_some {l : List UInt8} (m : List UInt8) (h : (47 : UInt8) ∉ l) : Go.Lib.cut (l ++ 47 :: m) [47] = (l, m, true) := by
  unfold Go.Lib.cut
  rw [index_some m h, if_pos (by omega)]
  simp

end Mb
