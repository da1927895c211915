/- Plain decimal texts: digits and their values, words and texts, quotients in lowest terms. No program here. -/
import Derived.Test.YtgdlfjofefhdoaaGreatDoorNum
import Derived.Lib.ItoaNum
import Derived.Lib.AtoiAll
import Derived.Lib.Atoi
namespace Mb

open Go.Lib

def Dig (l : List UInt8) : Prop := ∀ b ∈ l, 48 ≤ b.toNat ∧ b.toNat ≤ 57
/-- the value of digits -/
def dvf (a : Nat) : List UInt8 → Nat
  | [] => a
  | b :: r => dvf (a * 10 + (b.toNat - 48)) r
def dv (l : List UInt8) : Nat := dvf 0 l

theorem dvf_eq (l : List UInt8) : ∀ a : Nat, dvf a l = a * 10 ^ l.length + dv l := by
  induction l with
  | nil => intro a; show a = a * 10 ^ 0 + 0; rw [Nat.pow_zero, Nat.mul_one, Nat.add_zero]
  | cons b r ih =>
    intro a
    have h2 : dv (b :: r) = (0 * 10 + (b.toNat - 48)) * 10 ^ r.length + dv r := ih _
    rw [h2]
    show dvf (a * 10 + (b.toNat - 48)) r = _
    rw [ih, List.length_cons, Nat.pow_succ, Nat.add_mul, Nat.add_mul]
    have : a * 10 * 10 ^ r.length = a * (10 ^ r.length * 10) := by rw [Nat.mul_assoc, Nat.mul_comm 10]
    omega

theorem dvf_append (l m : List UInt8) : ∀ a : Nat, dvf a (l ++ m) = dvf (dvf a l) m := by
  induction l with
  | nil => intro a; rfl
  | cons b r ih => intro a; exact ih _

theorem dv_append (l m : List UInt8) : dv (l ++ m) = dv l * 10 ^ m.length + dv m := by
  show dvf 0 (l ++ m) = _; rw [dvf_append, dvf_eq]; rfl

theorem dv_one (b : UInt8) : dv [b] = b.toNat - 48 := by show 0 * 10 + (b.toNat - 48) = _; omega

theorem decFrom_dvf (l : List UInt8) : ∀ a : Nat, Dig l → decFrom a l = some (dvf a l) := by
  induction l with
  | nil => intro a _; rfl
  | cons b r ih =>
    intro a h
    have hb := h b (by simp)
    have hr : Dig r := fun x hx => h x (by simp [hx])
    simp only [decFrom, digitVal, if_pos hb]
    exact ih _ hr

theorem dv_lt {l : List UInt8} (h : Dig l) : dv l < 10 ^ l.length := by
  have := decFrom_lt l 0 _ (decFrom_dvf l 0 h)
  rw [Nat.zero_add, Nat.one_mul] at this
  exact this

theorem toNat_digit {d : Nat} (h : d < 10) : (UInt8.ofNat (48 + d)).toNat = 48 + d := by
  rw [UInt8.toNat_ofNat']; omega

theorem dig_decDigits (u : Nat) : Dig (decDigits u) := by
  induction u using Nat.strongRecOn with
  | _ u ih =>
    rw [decDigits]
    split
    · rename_i h
      intro b hb
      simp at hb; subst hb
      have := toNat_digit h; simp at this ⊢; omega
    · intro b hb
      rw [List.mem_append] at hb
      rcases hb with hb | hb
      · exact ih (u / 10) (by omega) b hb
      · simp at hb; subst hb
        have := toNat_digit (show u % 10 < 10 by omega); simp at this ⊢; omega

theorem dv_decDigits (u : Nat) : dv (decDigits u) = u := by
  induction u using Nat.strongRecOn with
  | _ u ih =>
    rw [decDigits]
    split
    · rename_i h
      rw [dv_one, toNat_digit h]; omega
    · rw [dv_append, ih (u / 10) (by omega), dv_one, toNat_digit (by omega)]; simp; omega

theorem decDigits_ne (u : Nat) : decDigits u ≠ [] := by
  rw [decDigits]; split <;> simp

/-- digits without a 0 in front, or the one digit -/
def Can (l : List UInt8) : Prop := Dig l ∧ l ≠ [] ∧ (l.head? = some 48 → l.length = 1)

theorem can_snoc {l : List UInt8} {b : UInt8} (h : Can (l ++ [b])) (hl : l ≠ []) : Can l := by
  refine ⟨fun x hx => h.1 x (by simp [hx]), hl, fun hh => ?_⟩
  have := h.2.2 (by rw [List.head?_append]; simp [hh])
  simp at this; exact absurd this hl

theorem dv_pos {l : List UInt8} (h : Can l) (h0 : l.head? ≠ some 48) : 1 ≤ dv l := by
  obtain ⟨hd, hn, -⟩ := h
  cases l with
  | nil => exact absurd rfl hn
  | cons b r =>
    have hb := hd b (by simp)
    have : b.toNat ≠ 48 := fun e => h0 (by simp; exact UInt8.toNat_inj.1 (by simpa using e))
    show 1 ≤ dvf (0 * 10 + (b.toNat - 48)) r
    rw [dvf_eq]
    have : 1 * 10 ^ r.length ≤ (0 * 10 + (b.toNat - 48)) * 10 ^ r.length := Nat.mul_le_mul_right _ (by omega)
    have := Nat.pow_pos (n := r.length) (show 0 < 10 by decide)
    omega

theorem digit_of {b : UInt8} (h : 48 ≤ b.toNat ∧ b.toNat ≤ 57) : UInt8.ofNat (48 + (b.toNat - 48)) = b := by
  apply UInt8.toNat_inj.1; rw [UInt8.toNat_ofNat']; omega

theorem can_eq : ∀ (n : Nat) (l : List UInt8), l.length = n → Can l → decDigits (dv l) = l
  | 0, l, hl, h => absurd (List.length_eq_zero_iff.1 hl) h.2.1
  | n + 1, l, hl, h => by
    obtain ⟨m, b, rfl⟩ : ∃ m b, l = m ++ [b] := ⟨l.dropLast, l.getLast h.2.1, (List.dropLast_concat_getLast h.2.1).symm⟩
    have hb := h.1 b (by simp)
    by_cases hm : m = []
    · subst hm
      rw [List.nil_append, dv_one, decDigits, dif_pos (by omega), digit_of hb]
    · have hc := can_snoc h hm
      have ih := can_eq n m (by simp at hl; omega) hc
      have h48 : m.head? ≠ some 48 := fun e => by
        have := h.2.2 (by rw [List.head?_append]; simp [e])
        simp at this; exact hm this
      have hp := dv_pos hc h48
      rw [dv_append, dv_one]
      simp only [List.length_singleton, Nat.pow_one]
      rw [decDigits, dif_neg (by omega), show (dv m * 10 + (b.toNat - 48)) / 10 = dv m by omega, show (dv m * 10 + (b.toNat - 48)) % 10 = b.toNat - 48 by omega, ih, digit_of hb]

theorem Can.eq {l : List UInt8} (h : Can l) : decDigits (dv l) = l := can_eq _ l rfl h

theorem can_decDigits (u : Nat) : Can (decDigits u) := by
  refine ⟨dig_decDigits u, decDigits_ne u, fun hh => ?_⟩
  rw [decDigits_length]
  -- a first digit 0 says: the number is 0
  have key : ∀ u : Nat, 1 ≤ u → (decDigits u).head? ≠ some 48 := by
    intro u
    induction u using Nat.strongRecOn with
    | _ u ih =>
      intro hu
      rw [decDigits]
      split
      · rename_i h
        simp
        intro e
        have := toNat_digit h
        have h2 : (UInt8.ofNat u).toNat = 0 := by rw [e]; rfl
        rw [UInt8.toNat_ofNat'] at h2; omega
      · rw [List.head?_append]
        cases hx : (decDigits (u / 10)).head? with
        | none => simp at hx; exact absurd hx (decDigits_ne _)
        | some c => simp; intro e; exact ih (u / 10) (by omega) (by omega) (by rw [hx, e])
  by_cases hu : u = 0
  · subst hu; exact nDigits_small (by omega)
  · exact absurd hh (key u (by omega))

theorem decDigits_inj {u v : Nat} (h : decDigits u = decDigits v) : u = v := by rw [← dv_decDigits u, h, dv_decDigits]

theorem decDigits_len_le {u k : Nat} (hk : 1 ≤ k) : (decDigits u).length ≤ k ↔ u < 10 ^ k := by
  constructor
  · intro h
    have h1 := dv_lt (dig_decDigits u)
    rw [dv_decDigits] at h1
    exact Nat.lt_of_lt_of_le h1 (Nat.pow_le_pow_right (by decide) h)
  · intro h
    rw [decDigits_length]
    by_cases hc : nDigits u ≤ k
    · exact hc
    · obtain ⟨m, hm⟩ : ∃ m, nDigits u = m + 1 := ⟨nDigits u - 1, by omega⟩
      have hlow : 10 ^ m ≤ u := by
        by_cases hm0 : m = 0
        · omega
        · have hu1 : 1 ≤ u := by
            by_cases h0 : u = 0
            · subst h0; rw [nDigits_small (by omega)] at hm; omega
            · omega
          -- nDigits u = m+1 → 10^m ≤ u
          have : ∀ (m u : Nat), nDigits u = m + 1 → 1 ≤ m → 10 ^ m ≤ u := by
            intro m
            induction m with
            | zero => intro u _ h; omega
            | succ m ih =>
              intro u hu _
              by_cases h10 : u < 10
              · rw [nDigits_small h10] at hu; omega
              · rw [nDigits_big h10] at hu
                rcases Nat.eq_zero_or_pos m with e | e
                · subst e; omega
                · have := ih (u / 10) (by omega) e
                  rw [Nat.pow_succ]; omega
          exact this m u hm (by omega)
      have := Nat.pow_le_pow_right (n := 10) (by decide) (show k ≤ m by omega)
      omega

/-- digits of a length with zeros in front -/
theorem dv_inj : ∀ (n : Nat) (l m : List UInt8), l.length = n → m.length = n → Dig l → Dig m → dv l = dv m → l = m
  | 0, l, m, hl, hm, _, _, _ => by rw [List.length_eq_zero_iff.1 hl, List.length_eq_zero_iff.1 hm]
  | n + 1, a :: l, b :: m, hl, hm, da, db, h => by
    simp only [List.length_cons, Nat.add_right_cancel_iff] at hl hm
    have e1 : dv (a :: l) = (a.toNat - 48) * 10 ^ n + dv l := by show dvf _ l = _; rw [dvf_eq, hl]; simp
    have e2 : dv (b :: m) = (b.toNat - 48) * 10 ^ n + dv m := by show dvf _ m = _; rw [dvf_eq, hm]; simp
    have h1 := dv_lt (l := l) (fun x hx => da x (by simp [hx])); rw [hl] at h1
    have h2 := dv_lt (l := m) (fun x hx => db x (by simp [hx])); rw [hm] at h2
    have ha := da a (by simp); have hb := db b (by simp)
    have hab : a.toNat - 48 = b.toNat - 48 := by
      have p := Nat.pow_pos (n := n) (show 0 < 10 by decide)
      have q1 : dv (a :: l) / 10 ^ n = a.toNat - 48 := by rw [e1, Nat.add_comm, Nat.add_mul_div_right _ _ p, Nat.div_eq_of_lt h1]; omega
      have q2 : dv (b :: m) / 10 ^ n = b.toNat - 48 := by rw [e2, Nat.add_comm, Nat.add_mul_div_right _ _ p, Nat.div_eq_of_lt h2]; omega
      rw [← q1, ← q2, h]
    have hE : a = b := UInt8.toNat_inj.1 (by omega)
    subst hE
    rw [dv_inj n l m hl hm (fun x hx => da x (by simp [hx])) (fun x hx => db x (by simp [hx])) (by omega)]

/-- a word with zeros in front, as nine digits -/
def pad9 (v : Nat) : List UInt8 := List.replicate (9 - (decDigits v).length) 48 ++ decDigits v

theorem dvf_zeros (k : Nat) : ∀ a : Nat, dvf a (List.replicate k 48) = a * 10 ^ k := by
  induction k with
  | zero => intro a; show a = a * 10 ^ 0; rw [Nat.pow_zero, Nat.mul_one]
  | succ k ih =>
    intro a
    show dvf (a * 10 + 0) (List.replicate k 48) = _
    rw [ih, Nat.pow_succ, Nat.add_zero, Nat.mul_assoc, Nat.mul_comm 10]

theorem pad9_len {v : Nat} (h : v < 1000000000) : (pad9 v).length = 9 := by
  have := (decDigits_len_le (u := v) (k := 9) (by omega)).2 (by simpa using h)
  simp [pad9]; omega
theorem pad9_dig (v : Nat) : Dig (pad9 v) := by
  intro b hb
  rw [pad9, List.mem_append] at hb
  rcases hb with hb | hb
  · rw [List.mem_replicate] at hb; rw [hb.2]; decide
  · exact dig_decDigits v b hb
theorem pad9_dv (v : Nat) : dv (pad9 v) = v := by
  show dvf 0 (List.replicate _ 48 ++ decDigits v) = v
  rw [dvf_append, dvf_zeros, Nat.zero_mul]
  exact dv_decDigits v

theorem decDigits_join {u v : Nat} (hu : 1 ≤ u) (hv : v < 1000000000) : decDigits (u * 1000000000 + v) = decDigits u ++ pad9 v := by
  have hc : Can (decDigits u ++ pad9 v) := by
    have c := can_decDigits u
    refine ⟨fun b hb => ?_, by simp [decDigits_ne], fun hh => ?_⟩
    · rw [List.mem_append] at hb
      rcases hb with hb | hb
      · exact c.1 b hb
      · exact pad9_dig v b hb
    · exfalso
      rw [List.head?_append] at hh
      cases hx : (decDigits u).head? with
      | none => simp at hx; exact decDigits_ne _ hx
      | some d =>
        rw [hx] at hh; simp at hh; subst hh
        have h1 := c.2.2 hx
        have h2 : decDigits u = [48] := by
          match hd : decDigits u, h1, hx with
          | [x], _, hx => simp at hx; rw [hx]
        have := dv_decDigits u; rw [h2, dv_one] at this; simp at this; omega
  rw [← hc.eq, dv_append, dv_decDigits, pad9_dv, pad9_len hv]

/-! ### parsing -/
theorem parseUint10_dig (l : List UInt8) : ∀ a : Nat, Dig l → dvf a l < 1000000000000000000 → parseUint10 a l = .ok (dvf a l) := by
  induction l with
  | nil => intro a _ _; rfl
  | cons b r ih =>
    intro a h hlt
    have hb := h b (by simp)
    have hr : Dig r := fun x hx => h x (by simp [hx])
    have hlt' : dvf (a * 10 + (b.toNat - 48)) r < 1000000000000000000 := hlt
    have hle : a * 10 + (b.toNat - 48) ≤ dvf (a * 10 + (b.toNat - 48)) r := by
      rw [dvf_eq]
      have : (a * 10 + (b.toNat - 48)) * 1 ≤ (a * 10 + (b.toNat - 48)) * 10 ^ r.length := Nat.mul_le_mul_left _ (Nat.pow_pos (by decide))
      omega
    simp only [parseUint10, if_pos hb]
    rw [if_neg (by omega), if_neg (by omega)]
    exact ih _ hr hlt'

theorem dv_lt18 {l : List UInt8} (h : Dig l) (hl : l.length ≤ 18) : dv l < 1000000000000000000 :=
  Nat.lt_of_lt_of_le (dv_lt h) (Nat.le_trans (Nat.pow_le_pow_right (n := 10) (by decide) hl) (by decide))

theorem atoiAll_dig {l : List UInt8} (h : Dig l) (hn : l ≠ []) (hl : l.length ≤ 18) : atoiAll l = .ok (dv l) := by
  have hlt := dv_lt18 h hl
  have hp : parseUint10 0 l = .ok (dv l) := parseUint10_dig l 0 h hlt
  cases l with
  | nil => exact absurd rfl hn
  | cons c r =>
    have hc := h c (by simp)
    have e43 : ¬ (c.toNat = 43 ∨ c.toNat = 45) := by omega
    have e45 : ¬ c.toNat = 45 := by omega
    simp only [atoiAll, if_neg e43, parseMag, if_neg hn, hp]
    simp only [e45, not_false_eq_true, true_and, false_and, if_false]
    rw [if_neg (by omega)]

theorem atoiAll_neg {l : List UInt8} (h : Dig l) (hn : l ≠ []) (hl : l.length ≤ 18) : atoiAll (45 :: l) = .ok (-(dv l : Int)) := by
  have hlt := dv_lt18 h hl
  have hp : parseUint10 0 l = .ok (dv l) := parseUint10_dig l 0 h hlt
  have e45 : (45 : UInt8).toNat = 45 := rfl
  have hm : parseMag l = .ok (dv l) := by rw [parseMag, if_neg hn, hp]
  simp only [atoiAll, e45]
  simp [hm]
  omega

/-! ### numbers as texts -/
theorem itoa_inj {a b : Int} (h : itoa a = itoa b) : a = b := by
  unfold itoa at h
  have hd : ∀ u, (decDigits u).head? ≠ some 45 := fun u e => by
    have := dig_decDigits u 45 (List.mem_of_mem_head? (by rw [e]; rfl))
    simp at this
  split at h <;> split at h
  · have := decDigits_inj (List.cons.inj h).2; omega
  · exact absurd (by rw [← h]; rfl) (hd b.toNat)
  · exact absurd (by rw [h]; rfl) (hd a.toNat)
  · have := decDigits_inj h; omega

theorem itoa_neg {n : Int} (h : n < 0) : itoa n = 45 :: decDigits n.natAbs := by unfold itoa; rw [if_pos h]
theorem itoa_nonneg {n : Int} (h : 0 ≤ n) : itoa n = decDigits n.natAbs := by
  unfold itoa; rw [if_neg (by omega), show n.toNat = n.natAbs by omega]

theorem no_slash (n : Int) : (47 : UInt8) ∉ itoa n := by
  intro h
  unfold itoa at h
  split at h
  · rw [List.mem_cons] at h
    rcases h with h | h
    · cases h
    · have := dig_decDigits _ _ h; simp at this
  · have := dig_decDigits _ _ h; simp at this

/-! ### words from above, for the text -/
def hi (f : Nat → Int) (n j : Nat) : Nat := (val (sh f j) (n - j)).toNat

theorem val_sh_cons (f : Nat → Int) (j k : Nat) : val (sh f j) (k + 1) = val (sh f (j + 1)) k * B + f j := by
  have h := val_split (sh f j) 1 k
  rw [Nat.add_comm 1 k] at h
  rw [h]
  have e1 : val (sh f j) 1 = f j := by simp [val, sh]
  have e2 : val (sh (sh f j) 1) k = val (sh f (j + 1)) k := val_congr (fun i _ => by simp only [sh]; congr 1; omega)
  rw [e1, e2, Int.pow_succ, Int.pow_zero, Int.one_mul, Int.add_comm]

theorem hi_step {f n j} (hf : ∀ i, 0 ≤ f i ∧ f i < B) (hj : j < n) : hi f n j = hi f n (j + 1) * 1000000000 + (f j).toNat := by
  unfold hi
  rw [show n - j = (n - (j + 1)) + 1 by omega, val_sh_cons]
  have h1 := (val_bd (f := sh f (j + 1)) (k := n - (j + 1)) (fun i _ => hf _)).1
  have h2 := hf j
  unfold B at *; omega

theorem hi_top {f n} : hi f (n + 1) n = (f n).toNat := by
  unfold hi; rw [show n + 1 - n = 1 by omega]; simp [val, sh]

theorem hi_zero {f n} : hi f n 0 = (val f n).toNat := by
  unfold hi; congr 1; exact val_congr (fun i _ => by simp [sh])

theorem hi_pos {f n j} (h : Mag f (n + 1)) (hj : j ≤ n) : 1 ≤ hi f (n + 1) j := by
  have key : ∀ d, d ≤ n → 1 ≤ hi f (n + 1) (n - d) := by
    intro d
    induction d with
    | zero =>
      intro _
      rw [Nat.sub_zero, hi_top]
      have := h.wd n; rcases h.top with h0 | h0
      · omega
      · simp at h0; omega
    | succ d ih =>
      intro hd
      rw [hi_step h.wd (by omega), show n - (d + 1) + 1 = n - d by omega]
      have := ih (by omega); omega
  have := key (n - j) (by omega)
  rwa [show n - (n - j) = j by omega] at this

theorem text_step {f n j} (h : Mag f (n + 1)) (hj : j < n) : decDigits (hi f (n + 1) j) = decDigits (hi f (n + 1) (j + 1)) ++ pad9 (f j).toNat := by
  have h2 := h.wd j
  rw [hi_step h.wd (by omega), decDigits_join (hi_pos h (by omega)) (by unfold B at h2; omega)]

/-! ### words out of digits -/
theorem dv_nil : dv [] = 0 := rfl

/-- what the loop of read holds: m digits are left, k words are read -/
structure Rd (l : List UInt8) (m k : Nat) (f : Nat → Int) : Prop where
  eq : (dv l : Int) = dv (l.take m) * B ^ k + val f k
  wd : ∀ i, 0 ≤ f i ∧ f i < B
  z : ∀ i, k ≤ i → f i = 0
  len : m ≤ l.length ∧ (0 < m → m + 9 * k = l.length) ∧ 9 * k ≤ l.length + 8

theorem Rd.start (l : List UInt8) : Rd l l.length 0 (fun _ => 0) :=
  ⟨by simp [val], fun _ => by simp [B], fun _ _ => rfl, by omega⟩

theorem dig_take {l : List UInt8} (h : Dig l) (m : Nat) : Dig (l.take m) := fun b hb => h b (List.mem_of_mem_take hb)
theorem dig_drop {l : List UInt8} (h : Dig l) (m : Nat) : Dig (l.drop m) := fun b hb => h b (List.mem_of_mem_drop hb)

theorem Rd.step {l m k f} (h : Rd l m k f) (hd : Dig l) (hm : 0 < m) :
    Rd l (m - 9) (k + 1) (upd f k (dv ((l.take m).drop (m - 9)))) := by
  have hl := h.len
  have hc := dv_lt (dig_drop (dig_take hd m) (m - 9))
  have hlen : ((l.take m).drop (m - 9)).length = m - (m - 9) := by simp; omega
  rw [hlen] at hc
  have hcB : (dv ((l.take m).drop (m - 9)) : Int) < B := by
    have := Nat.pow_le_pow_right (n := 10) (by decide) (show m - (m - 9) ≤ 9 by omega)
    have e : (10 : Nat) ^ 9 = 1000000000 := by decide
    unfold B; omega
  have hsplit : dv (l.take m) = dv (l.take (m - 9)) * 10 ^ (m - (m - 9)) + dv ((l.take m).drop (m - 9)) := by
    have e : l.take m = l.take (m - 9) ++ (l.take m).drop (m - 9) := by
      conv => lhs; rw [← List.take_append_drop (m - 9) (l.take m)]
      rw [List.take_take, show min (m - 9) m = m - 9 by omega]
    conv => lhs; rw [e]
    rw [dv_append, hlen]
  have hpow : (dv (l.take (m - 9)) : Int) * ((10 ^ (m - (m - 9)) : Nat) : Int) = dv (l.take (m - 9)) * B := by
    by_cases h9 : 9 ≤ m
    · rw [show m - (m - 9) = 9 by omega]; rfl
    · rw [show m - 9 = 0 by omega, List.take_zero, dv_nil]; simp
  have hval : val (upd f k (dv ((l.take m).drop (m - 9)))) (k + 1) = val f k + dv ((l.take m).drop (m - 9)) * B ^ k := by
    simp only [val]; rw [upd_same, val_congr (f := upd f k _) (g := f) (fun i hi => upd_other (by omega))]
  refine ⟨?_, ?_, ?_, by omega, by omega, by omega⟩
  · rw [hval, h.eq, hsplit, pow_succ']
    have : ((dv (l.take (m - 9)) * 10 ^ (m - (m - 9)) + dv ((l.take m).drop (m - 9)) : Nat) : Int) = dv (l.take (m - 9)) * B + dv ((l.take m).drop (m - 9)) := by
      rw [Int.natCast_add, Int.natCast_mul, hpow]
    rw [this]; grind
  · intro i
    by_cases e : i = k
    · subst e; rw [upd_same]; omega
    · rw [upd_other e]; exact h.wd i
  · intro i hi; rw [upd_other (by omega)]; exact h.z i (by omega)

theorem Rd.done {l k f} (h : Rd l 0 k f) : val f k = dv l := by
  have := h.eq; rw [List.take_zero, dv_nil] at this; omega

/-! ### quotients in lowest terms -/
def rg (n d : Int) : Int := if d < 0 then -(Int.gcd n d : Int) else Int.gcd n d
def rn (n d : Int) : Int := n / rg n d
def rd (n d : Int) : Int := d / rg n d

theorem rg_dvd (n d : Int) : rg n d ∣ n ∧ rg n d ∣ d := by
  unfold rg; split
  · exact ⟨Int.neg_dvd.2 (Int.gcd_dvd_left ..), Int.neg_dvd.2 (Int.gcd_dvd_right ..)⟩
  · exact ⟨Int.gcd_dvd_left .., Int.gcd_dvd_right ..⟩

theorem gcd_pos' {n d : Int} (hd : d ≠ 0) : 0 < (Int.gcd n d : Int) := by
  have := Int.gcd_pos_of_ne_zero_right n hd; omega

theorem rg_ne {n d : Int} (hd : d ≠ 0) : rg n d ≠ 0 := by
  have := gcd_pos' (n := n) hd; unfold rg; split <;> omega

theorem rn_mul (n d : Int) : rn n d * rg n d = n := Int.ediv_mul_cancel (rg_dvd n d).1
theorem rd_mul (n d : Int) : rd n d * rg n d = d := Int.ediv_mul_cancel (rg_dvd n d).2

theorem rd_pos {n d : Int} (hd : d ≠ 0) : 0 < rd n d := by
  have h := rd_mul n d
  have hg := gcd_pos' (n := n) hd
  rcases Int.lt_trichotomy (rd n d) 0 with h1 | h1 | h1
  · exfalso
    unfold rg at h
    split at h
    · have : 0 < rd n d * -(Int.gcd n d : Int) := Int.mul_pos_of_neg_of_neg h1 (by omega)
      omega
    · have : rd n d * (Int.gcd n d : Int) < 0 := Int.mul_neg_of_neg_of_pos h1 hg
      omega
  · rw [h1] at h; omega
  · exact h1

theorem r_coprime {n d : Int} (hd : d ≠ 0) : Int.gcd (rn n d) (rd n d) = 1 := by
  have h1 := Int.gcd_mul_right (rn n d) (rg n d) (rd n d)
  rw [rn_mul, rd_mul] at h1
  have hg := gcd_pos' (n := n) hd
  have h2 : (rg n d).natAbs = Int.gcd n d := by unfold rg; split <;> omega
  rw [h2] at h1
  have h3 : Int.gcd (rn n d) (rd n d) * Int.gcd n d = 1 * Int.gcd n d := by omega
  exact Nat.eq_of_mul_eq_mul_right (by omega) h3

theorem r_cross (n d : Int) : rn n d * d = n * rd n d := by
  have h1 := rn_mul n d; have h2 := rd_mul n d
  calc rn n d * d = rn n d * (rd n d * rg n d) := by rw [h2]
    _ = (rn n d * rg n d) * rd n d := by grind
    _ = _ := by rw [h1]

/-- two quotients in lowest terms that are equal are the same -/
theorem low_unique {p q p' q' : Int} (hq : 0 < q) (hq' : 0 < q') (h1 : Int.gcd p q = 1) (h2 : Int.gcd p' q' = 1) (h : p * q' = p' * q) : p = p' ∧ q = q' := by
  have d1 : q ∣ q' := by
    have : q ∣ p * q' := ⟨p', by rw [h, Int.mul_comm]⟩
    have hc : Nat.Coprime q.natAbs p.natAbs := by rw [Nat.coprime_comm]; exact h1
    have h3 := Int.natAbs_dvd_natAbs.2 this
    rw [Int.natAbs_mul] at h3
    exact Int.natAbs_dvd_natAbs.1 (hc.dvd_of_dvd_mul_left h3)
  have d2 : q' ∣ q := by
    have : q' ∣ p' * q := ⟨p, by rw [← h, Int.mul_comm]⟩
    have hc : Nat.Coprime q'.natAbs p'.natAbs := by rw [Nat.coprime_comm]; exact h2
    have h3 := Int.natAbs_dvd_natAbs.2 this
    rw [Int.natAbs_mul] at h3
    exact Int.natAbs_dvd_natAbs.1 (hc.dvd_of_dvd_mul_left h3)
  have e := Int.dvd_antisymm (by omega) (by omega) d1 d2
  subst e
  exact ⟨Int.eq_of_mul_eq_mul_right (by omega) h, rfl⟩

theorem r_of_low {n d p q : Int} (hd : d ≠ 0) (hq : 0 < q) (h1 : Int.gcd p q = 1) (h : p * d = n * q) : rn n d = p ∧ rd n d = q := by
  refine low_unique (rd_pos hd) hq (r_coprime hd) h1 ?_
  have h2 := r_cross n d
  have h3 : (rn n d * q) * d = (p * rd n d) * d := by
    calc (rn n d * q) * d = (rn n d * d) * q := by grind
      _ = n * rd n d * q := by rw [h2]
      _ = (n * q) * rd n d := by grind
      _ = (p * d) * rd n d := by rw [h]
      _ = _ := by grind
  exact Int.eq_of_mul_eq_mul_right hd h3

theorem r_eq {n d n' d' : Int} (hd : d ≠ 0) (hd' : d' ≠ 0) (h : n * d' = n' * d) : rn n d = rn n' d' ∧ rd n d = rd n' d' := by
  refine r_of_low hd (rd_pos hd') (r_coprime hd') ?_
  have h2 := r_cross n' d'
  have : (rn n' d' * d) * d' = (n * rd n' d') * d' := by
    calc (rn n' d' * d) * d' = (rn n' d' * d') * d := by grind
      _ = n' * rd n' d' * d := by rw [h2]
      _ = (n' * d) * rd n' d' := by grind
      _ = (n * d') * rd n' d' := by rw [h]
      _ = _ := by grind
  exact Int.eq_of_mul_eq_mul_right hd' this

/-- the text of a quotient in lowest terms -/
def rtxt (p q : Int) : List UInt8 := if q = 1 then itoa p else itoa p ++ 47 :: itoa q

theorem split_slash {a b c d : List UInt8} (ha : (47 : UInt8) ∉ a) (hc : (47 : UInt8) ∉ c) (h : a ++ 47 :: b = c ++ 47 :: d) : a = c ∧ b = d := by
  induction a generalizing c with
  | nil =>
    cases c with
    | nil => exact ⟨rfl, (List.cons.inj h).2⟩
    | cons x c => have := (List.cons.inj h).1; subst this; simp at hc
  | cons y a ih =>
    cases c with
    | nil => have := (List.cons.inj h).1; subst this; simp at ha
    | cons x c =>
      obtain ⟨h1, h2⟩ := List.cons.inj h
      subst h1
      obtain ⟨e1, e2⟩ := ih (fun hx => ha (by simp [hx])) (fun hx => hc (by simp [hx])) h2
      exact ⟨by rw [e1], e2⟩

theorem rtxt_inj {p q p' q' : Int} (h : rtxt p q = rtxt p' q') : p = p' ∧ q = q' := by
  unfold rtxt at h
  split at h <;> split at h
  · rename_i h1 h2; exact ⟨itoa_inj h, by omega⟩
  · exact absurd (by rw [h]; simp) (no_slash p)
  · exact absurd (by rw [← h]; simp) (no_slash p')
  · obtain ⟨h1, h2⟩ := split_slash (no_slash _) (no_slash _) h
    exact ⟨itoa_inj h1, itoa_inj h2⟩

end Mb
