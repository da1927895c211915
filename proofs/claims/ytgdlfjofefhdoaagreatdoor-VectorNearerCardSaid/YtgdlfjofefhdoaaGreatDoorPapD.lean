/- Plain arithmetic on decimal digits, as on paper: zeros in front, sums and differences with a carry, products by columns, long division. No program here. -/
import Derived.Test.YtgdlfjofefhdoaaGreatDoorCmpD
namespace Mb
open Go.Lib

abbrev pw (k : Nat) : Int := (10 : Int) ^ k
theorem pw_pos (k : Nat) : 0 < pw k := Int.pow_pos (by decide)
theorem pw_succ (k : Nat) : pw (k + 1) = pw k * 10 := Int.pow_succ _ _
theorem pw_add (j k : Nat) : pw (j + k) = pw j * pw k := Int.pow_add _ _ _
theorem pw_mono {j k : Nat} (h : j ≤ k) : pw j ≤ pw k := by
  obtain ⟨d, rfl⟩ : ∃ d, k = j + d := ⟨k - j, by omega⟩
  rw [pw_add]
  have h1 := pw_pos j
  have h2 := pw_pos d
  have h3 : pw j * 1 ≤ pw j * pw d := Int.mul_le_mul_of_nonneg_left (by omega) (by omega)
  omega
theorem pw_nat (k : Nat) : ((10 ^ k : Nat) : Int) = pw k := by simp [pw]

theorem dvz_cons (b : UInt8) (l : List UInt8) : (dv (b :: l) : Int) = ((b.toNat - 48 : Nat) : Int) * pw l.length + dv l := by
  rw [dv_cons, Int.natCast_add, Int.natCast_mul, pw_nat]
theorem dvz_snoc (l : List UInt8) (b : UInt8) : (dv (l ++ [b]) : Int) = dv l * 10 + ((b.toNat - 48 : Nat) : Int) := by
  rw [dv_append, dv_one]; simp
theorem dvz_lt {l : List UInt8} (h : Dig l) : (dv l : Int) < pw l.length := by
  have := dv_lt h; rw [← pw_nat]; omega
theorem dvz_drop {l : List UInt8} {i : Nat} (h : i < l.length) : (dv (l.drop i) : Int) = ((l[i].toNat - 48 : Nat) : Int) * pw (l.length - (i + 1)) + dv (l.drop (i + 1)) := by
  rw [List.drop_eq_getElem_cons h, dvz_cons, List.length_drop]
theorem dvz_take {l : List UInt8} {i : Nat} (h : i < l.length) : (dv (l.take (i + 1)) : Int) = dv (l.take i) * 10 + ((l[i].toNat - 48 : Nat) : Int) := by
  rw [List.take_succ_eq_append_getElem h, dvz_snoc]

/-- zeros in front -/
theorem dv_zeros (k : Nat) (l : List UInt8) : dv (List.replicate k 48 ++ l) = dv l := by
  show dvf 0 _ = dvf 0 l
  rw [dvf_append, dvf_zeros, Nat.zero_mul]
theorem dig_zeros {l : List UInt8} (k : Nat) (h : Dig l) : Dig (List.replicate k 48 ++ l) := by
  intro b hb
  rcases List.mem_append.1 hb with h1 | h1
  · rw [(List.mem_replicate.1 h1).2]; decide
  · exact h b h1

theorem bare_done {t : List UInt8} (hd : Dig t) (hn : t ≠ []) (h : 1 < t.length → t.head? ≠ some 48) : t = decDigits (dv t) := by
  refine (Can.eq ⟨hd, hn, fun h1 => ?_⟩).symm
  have h2 : 0 < t.length := List.length_pos_iff.2 hn
  by_cases h3 : 1 < t.length
  · exact absurd h1 (h h3)
  · omega

theorem bare_step {t : List UInt8} (ht : 1 < t.length) (h : t.head? = some 48) (hd : Dig t) : dv (t.drop 1) = dv t ∧ Dig (t.drop 1) ∧ (t.drop 1).length + 1 = t.length := by
  match t, ht with
  | b :: l, ht =>
    have hb : b = 48 := by simpa using h
    subst hb
    refine ⟨?_, fun x hx => hd x (List.mem_of_mem_drop hx), by simp⟩
    rw [dv_cons]; simp

/-- a column's digit and carry -/
def cd (n : Int) : Int := if 9 < n then n - 10 else if n < 0 then n + 10 else n
def cc (n : Int) : Int := if 9 < n then 1 else if n < 0 then 1 else 0
/-- sg is 1 where digits are added, -1 where they are taken away -/
theorem col_ok {g x y c : Int} (hg : g = 1 ∨ g = -1) (hx : 0 ≤ x ∧ x ≤ 9) (hy : 0 ≤ y ∧ y ≤ 9) (hc : c = 0 ∨ c = 1) :
    x + g * (y + c) = g * (10 * cc (x + g * (y + c))) + cd (x + g * (y + c)) ∧ 0 ≤ cd (x + g * (y + c)) ∧ cd (x + g * (y + c)) ≤ 9 ∧ (cc (x + g * (y + c)) = 0 ∨ cc (x + g * (y + c)) = 1) := by
  rcases hg with rfl | rfl <;> (unfold cd cc; repeat' split) <;> omega

/-- the columns from i on are done -/
structure Pap (A C : List UInt8) (g : Int) (i : Nat) (c : Int) (t : List UInt8) : Prop where
  len : t.length + i = A.length
  dig : Dig t
  cb : c = 0 ∨ c = 1
  eq : (dv (A.drop i) : Int) + g * dv (C.drop i) = g * c * pw t.length + dv t

theorem Pap.start (A C : List UInt8) (hl : C.length = A.length) (g : Int) : Pap A C g A.length 0 [] :=
  ⟨by simp, fun _ h => (by cases h), .inl rfl, by rw [List.drop_of_length_le (Nat.le_refl _), List.drop_of_length_le (by omega)]; simp [dv_nil]⟩

theorem Pap.step {A C : List UInt8} {g : Int} {i : Nat} {c : Int} {t : List UInt8} {d : UInt8} (h : Pap A C g (i + 1) c t) (hg : g = 1 ∨ g = -1) (hl : C.length = A.length) (hA : Dig A) (hC : Dig C) (hi : i < A.length)
    (hd : (d.toNat : Int) = 48 + cd (((A[i].toNat - 48 : Nat) : Int) + g * (((C[i]'(by omega)).toNat - 48 : Nat) + c))) :
    Pap A C g i (cc (((A[i].toNat - 48 : Nat) : Int) + g * (((C[i]'(by omega)).toNat - 48 : Nat) + c))) (d :: t) := by
  have hx := hA A[i] (List.getElem_mem _)
  have hy := hC (C[i]'(by omega)) (List.getElem_mem _)
  have e1 := dvz_drop (l := A) (i := i) hi
  have e2 := dvz_drop (l := C) (i := i) (by omega)
  have hk : A.length - (i + 1) = t.length := by have := h.len; omega
  have hk2 : C.length - (i + 1) = t.length := by omega
  rw [hk] at e1
  rw [hk2] at e2
  obtain ⟨k1, k2, k3, k4⟩ := col_ok (g := g) (x := ((A[i].toNat - 48 : Nat) : Int)) (y := (((C[i]'(by omega)).toNat - 48 : Nat) : Int)) (c := c) hg (by omega) (by omega) h.cb
  have h4 := h.eq
  have hd2 : ((d.toNat - 48 : Nat) : Int) = cd (((A[i].toNat - 48 : Nat) : Int) + g * (((C[i]'(by omega)).toNat - 48 : Nat) + c)) := by omega
  refine ⟨by have := h.len; simp only [List.length_cons]; omega, fun b hb => ?_, k4, ?_⟩
  · rcases List.mem_cons.1 hb with rfl | hb
    · omega
    · exact h.dig b hb
  · rw [e1, e2, List.length_cons, pw_succ, dvz_cons, hd2]
    generalize cd (((A[i].toNat - 48 : Nat) : Int) + g * (((C[i]'(by omega)).toNat - 48 : Nat) + c)) = D at *
    generalize cc (((A[i].toNat - 48 : Nat) : Int) + g * (((C[i]'(by omega)).toNat - 48 : Nat) + c)) = E at *
    generalize ((A[i].toNat - 48 : Nat) : Int) = X at *
    generalize (((C[i]'(by omega)).toNat - 48 : Nat) : Int) = Y at *
    generalize (dv (A.drop (i + 1)) : Int) = P at *
    generalize (dv (C.drop (i + 1)) : Int) = Q at *
    generalize (dv t : Int) = R at *
    generalize pw t.length = Z at *
    grind

theorem Pap.done {a b A C t : List UInt8} {g c : Int} (h : Pap A C g 0 c t) (hg : g = 1 ∨ g = -1) (hn : A.length = max a.length b.length + 1) (ha : dv A = dv a) (hb : dv C = dv b) (hda : Dig a) (hdb : Dig b) (hle : g = -1 → dv b ≤ dv a) :
    (dv t : Int) = dv a + g * dv b := by
  have h1 := h.eq
  have hlen := h.len
  rw [List.drop_zero, List.drop_zero, ha, hb] at h1
  have h2 := dvz_lt h.dig
  have h3 := dvz_lt hda
  have h4 := dvz_lt hdb
  have h5 := pw_mono (show a.length ≤ t.length - 1 by omega)
  have h6 := pw_mono (show b.length ≤ t.length - 1 by omega)
  have h7 : pw t.length = pw (t.length - 1) * 10 := by rw [← pw_succ]; congr 1; omega
  rcases h.cb with rfl | rfl
  · rw [Int.mul_zero, Int.zero_mul] at h1; omega
  · exfalso
    rcases hg with rfl | rfl
    · omega
    · have := hle rfl; omega

/-- prefixes of columns as numbers -/
def cv (f : Nat → Int) : Nat → Int
  | 0 => 0
  | k + 1 => cv f k * 10 + f k

theorem cv_upd (f : Nat → Int) (j : Nat) (v : Int) : ∀ k, cv (upd f j v) k = if j < k then cv f k + (v - f j) * pw (k - 1 - j) else cv f k
  | 0 => by simp [cv]
  | k + 1 => by
    have ih := cv_upd f j v k
    simp only [cv]
    rw [ih]
    by_cases h1 : j < k
    · rw [if_pos h1, if_pos (by omega), upd_other (by omega)]
      have : k + 1 - 1 - j = (k - 1 - j) + 1 := by omega
      rw [this, pw_succ]
      generalize pw (k - 1 - j) = Z
      grind
    · rw [if_neg h1]
      by_cases h2 : j = k
      · subst h2; rw [upd_same, if_pos (by omega)]
        have : j + 1 - 1 - j = 0 := by omega
        rw [this]; simp [pw]
        omega
      · rw [if_neg (by omega), upd_other (by omega)]

theorem cv_zero : ∀ k, cv (fun _ => 0) k = 0
  | 0 => rfl
  | k + 1 => by simp [cv, cv_zero k]

/-- the columns of a product, i rows and k digits of the next one -/
structure Col (a b : List UInt8) (i k : Nat) (f : Nat → Int) : Prop where
  eq : cv f (a.length + b.length) = dv (a.take i) * pw (a.length - i) * dv b + ((a.getD i 48).toNat - 48 : Nat) * pw (a.length - 1 - i) * (dv (b.take k) * pw (b.length - k))
  bd : ∀ j, 0 ≤ f j ∧ f j ≤ 81 * (i * b.length + k)

theorem Col.start (a b : List UInt8) : Col a b 0 0 (fun _ => 0) := ⟨by rw [cv_zero]; simp [dv_nil], fun _ => by simp⟩

theorem dig9 {l : List UInt8} (h : Dig l) (i : Nat) : ((l.getD i 48).toNat - 48 : Nat) ≤ 9 := by
  unfold List.getD
  cases hh : l[i]? with
  | none => simp
  | some b => have := h b (List.mem_of_getElem? hh); simp; omega

theorem Col.step {a b : List UInt8} {i k : Nat} {f : Nat → Int} (h : Col a b i k f) (ha : Dig a) (hb : Dig b) (hi : i < a.length) (hk : k < b.length) :
    Col a b i (k + 1) (upd f (i + k + 1) (f (i + k + 1) + ((a.getD i 48).toNat - 48 : Nat) * ((b.getD k 48).toNat - 48 : Nat))) := by
  have hx := dig9 ha i
  have hy := dig9 hb k
  refine ⟨?_, fun j => ?_⟩
  · rw [cv_upd, if_pos (by omega), h.eq, dvz_take hk]
    have e1 : a.length + b.length - 1 - (i + k + 1) = (a.length - 1 - i) + (b.length - (k + 1)) := by omega
    have e2 : b.length - k = (b.length - (k + 1)) + 1 := by omega
    have e3 : (b.getD k 48) = b[k] := by simp [List.getD, hk]
    rw [e1, pw_add, e2, pw_succ, e3]
    generalize (((a.getD i 48).toNat - 48 : Nat) : Int) = X
    generalize ((b[k].toNat - 48 : Nat) : Int) = Y
    generalize pw (a.length - 1 - i) = P
    generalize pw (b.length - (k + 1)) = Q
    grind
  · have hj := h.bd j
    have hm : 0 ≤ ((((a.getD i 48).toNat - 48 : Nat) : Int) * (((b.getD k 48).toNat - 48 : Nat) : Int)) ∧ ((((a.getD i 48).toNat - 48 : Nat) : Int) * (((b.getD k 48).toNat - 48 : Nat) : Int)) ≤ 81 := by
      have := Nat.mul_le_mul hx hy
      rw [← Int.natCast_mul]; omega
    have e : (81 * ((i : Int) * b.length + ((k + 1 : Nat) : Int))) = 81 * (i * b.length + k) + 81 := by rw [Int.natCast_add]; grind
    rw [e]
    by_cases h1 : j = i + k + 1
    · subst h1; rw [upd_same]; omega
    · rw [upd_other h1]; omega

theorem Col.row {a b : List UInt8} {i : Nat} {f : Nat → Int} (h : Col a b i b.length f) (hi : i < a.length) : Col a b (i + 1) 0 f := by
  refine ⟨?_, fun j => ?_⟩
  · have e1 : a.length - i = (a.length - (i + 1)) + 1 := by omega
    have e2 : a.length - 1 - i = a.length - (i + 1) := by omega
    have e3 : (a.getD i 48) = a[i] := by simp [List.getD, hi]
    have h1 := h.eq
    rw [h1, dvz_take hi, List.take_of_length_le (Nat.le_refl _), e1, pw_succ, e2, e3, List.take_zero, dv_nil]
    have e4 : b.length - b.length = 0 := by omega
    rw [e4]
    generalize ((a[i].toNat - 48 : Nat) : Int) = X
    generalize pw (a.length - (i + 1)) = P
    simp only [pw, Int.pow_zero]
    grind
  · have := h.bd j
    have e : (81 * (((i + 1 : Nat) : Int) * b.length + (0 : Nat))) = 81 * (i * b.length + b.length) := by rw [Int.natCast_add]; grind
    rw [e]; exact this

theorem Col.done {a b : List UInt8} {f : Nat → Int} (h : Col a b a.length 0 f) : cv f (a.length + b.length) = dv a * dv b := by
  have h1 := h.eq
  rw [h1, List.take_of_length_le (Nat.le_refl _), List.take_zero, dv_nil]
  have e4 : a.length - a.length = 0 := by omega
  rw [e4]; simp [pw]

/-- the columns from i on are carried -/
structure Car (f : Nat → Int) (n i : Nat) (c : Int) (t : List UInt8) : Prop where
  len : t.length + i = n
  dig : Dig t
  eq : cv f n = (cv f i + c) * pw t.length + dv t

theorem Car.start (f : Nat → Int) (n : Nat) : Car f n n 0 [] := ⟨by simp, fun _ h => (by cases h), by simp [pw, dv_nil]⟩

theorem Car.step {f : Nat → Int} {n i : Nat} {c : Int} {t : List UInt8} {d : UInt8} (h : Car f n (i + 1) c t) (hd : (d.toNat : Int) = 48 + (c + f i) % 10) : Car f n i ((c + f i) / 10) (d :: t) := by
  have h4 := h.eq
  have hd2 : ((d.toNat - 48 : Nat) : Int) = (c + f i) % 10 := by omega
  refine ⟨by have := h.len; simp only [List.length_cons]; omega, fun b hb => ?_, ?_⟩
  · rcases List.mem_cons.1 hb with rfl | hb
    · omega
    · exact h.dig b hb
  · rw [h4, List.length_cons, pw_succ, dvz_cons, hd2]
    simp only [cv]
    have hs : c + f i = 10 * ((c + f i) / 10) + (c + f i) % 10 := by omega
    generalize (c + f i) / 10 = E at *
    generalize (c + f i) % 10 = D at *
    generalize pw t.length = Z at *
    generalize (dv t : Int) = R at *
    generalize cv f i = V at *
    grind

theorem Car.done {f : Nat → Int} {n : Nat} {c : Int} {t : List UInt8} (h : Car f n 0 c t) (hc : 0 ≤ c) (hlt : cv f n < pw n) : (dv t : Int) = cv f n := by
  have h1 := h.eq
  have hl : t.length = n := by have := h.len; omega
  rw [hl] at h1
  have hz : c = 0 := by
    by_cases h0 : c = 0
    · exact h0
    · exfalso
      have h2 : 1 * pw n ≤ c * pw n := Int.mul_le_mul_of_nonneg_right (by omega) (Int.le_of_lt (pw_pos n))
      simp only [cv] at h1
      rw [Int.zero_add] at h1
      omega
  subst hz
  simp only [cv] at h1
  rw [h1]; simp

theorem prod_lt {a b : List UInt8} (ha : Dig a) (hb : Dig b) : (dv a : Int) * dv b < pw (a.length + b.length) := by
  have h1 := dvz_lt ha
  have h2 := dvz_lt hb
  rw [pw_add]
  refine Int.lt_of_le_of_lt (Int.mul_le_mul_of_nonneg_left (Int.le_of_lt h2) (by omega)) ?_
  exact Int.mul_lt_mul_of_pos_right h1 (pw_pos _)

/-- a digit of a long division -/
theorem div_step {r v x d : Nat} (hr : r < v) (hx : x ≤ 9) (h : d * v ≤ r * 10 + x) : d ≤ 9 := by
  by_cases h1 : d ≤ 9
  · exact h1
  · exfalso
    have h2 : 10 * v ≤ d * v := Nat.mul_le_mul_right _ (by omega)
    omega

end Mb
