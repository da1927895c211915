/- The reference's decimal texts: less, size, Below, signed, number, brief, Turned, Of, divided. The reference's decimal texts: number, brief, Times, Plus, Minus, Order. The reference's decimal texts: Times, Plus, Minus, Order. -/
import Derived.Test.YtgdlfjofefhdoaaGreatDoorPapA
import Derived.Test.YtgdlfjofefhdoaaGreatDoorRatCE
namespace Go.Proofs.YtgdlfjofefhdoaaGreatDoor
open Go.RowKit Go.Sort Go.Lib Mb

theorem bytesLess_dig : ∀ {l m : List UInt8}, l.length = m.length → Dig l → Dig m → Op.bytesLess l m = decide (dv l < dv m)
  | [], [], _, _, _ => by simp [Op.bytesLess]
  | [], _ :: _, h, _, _ => by simp at h
  | _ :: _, [], h, _, _ => by simp at h
  | a :: l, b :: m, h, hl, hm => by
    have hlen : l.length = m.length := by simpa using h
    have ih := bytesLess_dig hlen (fun x hx => hl x (by simp [hx])) (fun x hx => hm x (by simp [hx]))
    have ha := hl a (by simp)
    have hb := hm b (by simp)
    have l1 := dv_lt (l := l) (fun x hx => hl x (by simp [hx]))
    have l2 := dv_lt (l := m) (fun x hx => hm x (by simp [hx]))
    rw [dv_cons, dv_cons, hlen]
    rw [hlen] at l1
    have hp : 0 < 10 ^ m.length := Nat.pow_pos (by decide)
    unfold Op.bytesLess
    rw [ih]
    generalize 10 ^ m.length = P at *
    by_cases h1 : a < b
    · have h1' : a.toNat < b.toNat := h1
      have h2 : (a.toNat - 48 + 1) * P ≤ (b.toNat - 48) * P := Nat.mul_le_mul_right _ (by omega)
      rw [Nat.add_mul] at h2
      rw [decide_eq_true h1, Bool.true_or, eq_comm, decide_eq_true_eq]
      omega
    · rw [decide_eq_false h1, Bool.false_or]
      by_cases h3 : a = b
      · subst h3
        simp
      · have h4 : b.toNat < a.toNat := by
          have h5 : ¬ a.toNat < b.toNat := h1
          have h6 : a.toNat ≠ b.toNat := fun e => h3 (UInt8.toNat_inj.1 e)
          omega
        have h2 : (b.toNat - 48 + 1) * P ≤ (a.toNat - 48) * P := Nat.mul_le_mul_right _ (by omega)
        rw [Nat.add_mul] at h2
        rw [beq_eq_false_iff_ne.2 h3, Bool.false_and, eq_comm, decide_eq_false_iff_not]
        omega

theorem less_dig {u v : Nat} (h : (decDigits u).length = (decDigits v).length) : Op.bytesLess (decDigits u) (decDigits v) = decide (u < v) := by
  rw [bytesLess_dig h (dig_decDigits _) (dig_decDigits _), dv_decDigits, dv_decDigits]

theorem tl_bytes (l : List UInt8) : (⟨l.toArray⟩ : ByteArray).toList = l := by rw [ByteArray.toList_eq]

set_option maxHeartbeats 400000 in
theorem less_calls' (u v : Nat) (w : World) (lu : (decDigits u).length ≤ 2000) (lv : (decDigits v).length ≤ 2000) :
    Calls Tryz.prog 186 #[Dd u, Dd v] w fun e w' => e = .returned (.bool (decide (u < v))) ∧ w = w' := by
  obtain ⟨su, hsu⟩ : ∃ s : ByteArray, s = ⟨(decDigits u).toArray⟩ := ⟨_, rfl⟩
  obtain ⟨sv', hsv⟩ : ∃ s : ByteArray, s = ⟨(decDigits v).toArray⟩ := ⟨_, rfl⟩
  have zu : su.size = (decDigits u).length := by rw [hsu]; simp [ByteArray.size]
  have zv : sv'.size = (decDigits v).length := by rw [hsv]; simp [ByteArray.size]
  have hb : su.size = sv'.size → Op.bytesLess su.toList sv'.toList = decide (u < v) := fun h => by
    rw [hsu, hsv, tl_bytes, tl_bytes]; exact less_dig (by omega)
  have h1 : su.size < sv'.size → decide (u < v) = true := fun h => decide_eq_true (len_lt (by omega))
  have h2 : sv'.size < su.size → decide (u < v) = false := fun h => decide_eq_false (by have := len_lt (u := v) (v := u) (by omega); omega)
  show Calls _ _ #[.string ⟨(decDigits u).toArray⟩, .string ⟨(decDigits v).toArray⟩] w _
  rw [← hsu, ← hsv]
  clear hsu hsv
  have b1 : su.size ≤ 2000 := by omega
  have b2 : sv'.size ≤ 2000 := by omega
  clear zu zv lu lv
  generalize decide (u < v) = q at *
  rcases Nat.lt_trichotomy su.size sv'.size with h | h | h
  · have hq := h1 h
    subst hq
    have i1 : (su.size : Int) < (sv'.size : Int) := by omega
    clear hb h1 h2
    go_enter Tryz.func186, Tryz.ntmps186
    go_wp2
    go_ret
    exact ⟨rfl, rfl⟩
  · have hq := hb h
    have i1 : ¬ (su.size : Int) < (sv'.size : Int) := by omega
    have i2 : decide ((su.size : Int) < (sv'.size : Int)) = false := decide_eq_false i1
    have i4 : decide (su.size < sv'.size) = false := decide_eq_false (by omega)
    have i3 : ((su.size : Int) == (sv'.size : Int)) = true := by rw [beq_iff_eq]; omega
    have i5 : (su.size == sv'.size) = true := by rw [beq_iff_eq]; omega
    clear hb h1 h2 h
    go_enter Tryz.func186, Tryz.ntmps186
    go_wp2
    go_ret
    exact ⟨rfl, rfl⟩
  · have hq := h2 h
    subst hq
    have i1 : ¬ (su.size : Int) < (sv'.size : Int) := by omega
    have i2 : decide ((su.size : Int) < (sv'.size : Int)) = false := decide_eq_false i1
    have i4 : decide (su.size < sv'.size) = false := decide_eq_false (by omega)
    have i3 : ((su.size : Int) == (sv'.size : Int)) = false := by rw [beq_eq_false_iff_ne]; omega
    have i5 : (su.size == sv'.size) = false := by rw [beq_eq_false_iff_ne]; omega
    clear hb h1 h2 h
    go_enter Tryz.func186, Tryz.ntmps186
    go_wp2
    go_ret
    exact ⟨rfl, rfl⟩

theorem itoa_pos (n : Int) : 0 < (itoa n).length := by have := dg_le_itoa n; have h1 := dg_ne n; cases hx : dg n <;> simp_all; omega

theorem below_calls (n : Int) (w : World) :
    Calls Tryz.prog 157 #[S n] w fun e w' => e = .returned (.bool (decide (n < 0))) ∧ w = w' := by
  obtain ⟨s, hs⟩ : ∃ s : ByteArray, s = ⟨(itoa n).toArray⟩ := ⟨_, rfl⟩
  have hpos : 0 < s.size := by rw [hs]; exact itoa_pos n
  have hb0 : ((s[0].toNat : Int) == 45) = decide (n < 0) := by subst hs; exact itoa_head n hpos
  show Calls _ _ #[.string ⟨(itoa n).toArray⟩] w _
  rw [← hs]
  clear hs
  have i1 : (0 : Int) < s.size := by omega
  generalize decide (n < 0) = q at *
  go_enter Tryz.func157, Tryz.ntmps157
  go_wp2
  go_ret
  exact ⟨rfl, rfl⟩

set_option maxHeartbeats 400000 in
theorem size_calls (n : Int) (w : World) (ln : (dg n).length ≤ 2000) :
    Calls Tryz.prog 162 #[S n] w fun e w' => e = .returned (Dd n.natAbs) ∧ w = w' := by
  obtain ⟨s, hs⟩ : ∃ s : ByteArray, s = ⟨(itoa n).toArray⟩ := ⟨_, rfl⟩
  have hpos : 0 < s.size := by rw [hs]; exact itoa_pos n
  have hb0 : ((s[0].toNat : Int) == 45) = decide (n < 0) := by subst hs; exact itoa_head n hpos
  have hsz : s.size = (itoa n).length := by rw [hs]; simp [ByteArray.size]
  have hle : s.size ≤ 2001 := by have := itoa_le_dg n; omega
  show Calls _ _ #[.string ⟨(itoa n).toArray⟩] w _
  rw [← hs]
  have hne : s.toList = [] → False := fun h => by
    rw [hs, tl_bytes] at h
    have := itoa_pos n
    rw [h] at this; simp at this
  have i1 : (0 : Int) < s.size := by omega
  have i0 : (!s.toList.isEmpty) = true := by
    cases hx : s.toList with
    | nil => exact (hne hx).elim
    | cons => rfl
  have hdl : s.data.toList = itoa n := by rw [hs]
  have j0 : (s.toList == []) = false := by
    rw [beq_eq_false_iff_ne]; exact fun h => hne h
  by_cases h : n < 0
  · have hx : s.extract 1 s.size = ⟨(decDigits n.natAbs).toArray⟩ := by
      apply ByteArray.ext
      apply Array.ext'
      rw [Lib.extract_data, hdl, itoa_neg h, hsz, itoa_neg h]
      show (decDigits n.natAbs).take _ = _
      rw [List.take_of_length_le (by simp)]
    have HX := Lib.hid hx
    rw [decide_eq_true h] at hb0
    have i2 : (1 : Int) ≤ s.size := by omega
    clear hs hx hsz hdl hne h
    go_enter Tryz.func162, Tryz.ntmps162
    go_wp2
    go_ret
    exact ⟨ret_s HX.out, rfl⟩
  · have hx : s = ⟨(decDigits n.natAbs).toArray⟩ := by rw [hs, Mb.itoa_nonneg (by omega)]
    have HX := Lib.hid hx
    rw [decide_eq_false h] at hb0
    clear hs hx hsz hdl hne h
    go_enter Tryz.func162, Tryz.ntmps162
    go_wp2
    go_ret
    exact ⟨ret_s HX.out, rfl⟩

/-- digits with a sign -/
def sgd (m : Bool) (u : Nat) : Int := if m then -(u : Int) else u

theorem signed_calls (u : Nat) (m : Bool) (w : World) (lu : (decDigits u).length ≤ 2000) :
    Calls Tryz.prog 160 #[Dd u, .bool m] w fun e w' => e = .returned (S (sgd m u)) ∧ w = w' := by
  obtain ⟨s, hs⟩ : ∃ s : ByteArray, s = ⟨(decDigits u).toArray⟩ := ⟨_, rfl⟩
  have hsz : s.size ≤ 2000 := by rw [hs]; simpa [ByteArray.size] using lu
  show Calls _ _ #[.string ⟨(decDigits u).toArray⟩, .bool m] w _
  rw [← hs]
  cases m with
  | false =>
    have hx : s = ⟨(itoa (sgd false u)).toArray⟩ := by rw [hs, Mb.itoa_nonneg (by simp [sgd])]; simp [sgd]
    have HX := Lib.hid hx
    clear hs hx
    go_enter Tryz.func160, Tryz.ntmps160
    go_wp2
    go_ret
    exact ⟨ret_s HX.out, rfl⟩
  | true =>
    by_cases h0 : u = 0
    · subst h0
      have e : decDigits 0 = [48] := by rw [decDigits]; rfl
      have hx : s = ⟨(itoa (sgd true 0)).toArray⟩ := by rw [hs, Mb.itoa_nonneg (by simp [sgd])]; simp [sgd]
      have hq : s.toList = [48] := by rw [hs, tl_bytes, e]
      have HX := Lib.hid hx
      clear hs hx e
      go_enter Tryz.func160, Tryz.ntmps160
      go_wp2
      go_ret
      exact ⟨ret_s HX.out, rfl⟩
    · have hx : ⟨#[45]⟩ ++ s = ⟨(itoa (sgd true u)).toArray⟩ := by
        rw [hs, cat_bytes, Mb.itoa_neg (by simp [sgd]; omega)]
        simp [sgd]
      have hq : (s.toList == [48]) = false := by
        rw [beq_eq_false_iff_ne]
        intro e
        rw [hs, tl_bytes] at e
        have h1 := dv_decDigits u
        rw [e] at h1
        simp [dv_one] at h1
        omega
      have HX := Lib.hid hx
      clear hs hx
      go_enter Tryz.func160, Tryz.ntmps160
      go_wp2
      go_ret
      exact ⟨ret_s HX.out, rfl⟩

theorem turned_calls (n : Int) (w : World) (ln : (dg n).length ≤ 2000) :
    Calls Tryz.prog 137 #[S n] w fun e w' => e = .returned (S (-n)) ∧ w = w' := by
  have h1 := fun w => size_calls n w ln
  have h2 := fun w => below_calls n w
  have h3 := fun w => signed_calls n.natAbs (!decide (n < 0)) w ln
  have e : sgd (!decide (n < 0)) n.natAbs = -n := by
    by_cases h : n < 0
    · rw [decide_eq_true h]; simp [sgd]; omega
    · rw [decide_eq_false h]; simp [sgd]; omega
  rw [e] at h3
  have H := Lib.hid (And.intro h1 (And.intro h2 h3))
  clear h1 h2 h3 e
  go_enter Tryz.func137, Tryz.ntmps137
  go_wp2_with fail
  refine (H.out.1 _).mono ?_
  rintro e w1 ⟨rfl, rfl⟩
  go_wp2_with fail
  refine (H.out.2.1 _).mono ?_
  rintro e w2 ⟨rfl, rfl⟩
  go_wp2_with fail
  refine (H.out.2.2 _).mono ?_
  rintro e w3 ⟨rfl, rfl⟩
  go_wp2_with fail
  go_ret
  exact ⟨rfl, rfl⟩

/-- Of, every number but the least one -/
theorem rof_calls (n : Int) (w : World) (h0 : -9223372036854775807 ≤ n) (h1 : n ≤ 9223372036854775807) :
    Calls Tryz.prog 83 #[.int .i64 n] w fun e w' => e = .returned (S n) ∧ Below w.heap.size w w' := by
  by_cases h : 0 ≤ n
  · exact rof_pos n w h h1
  · have h2 := fun w => rof_pos (-n) w (by omega) (by omega)
    have h3 := fun w => turned_calls (-n) w (by
      have := (decDigits_len_le (u := (-n).natAbs) (k := 19) (by omega)).2 (by omega)
      show (decDigits (-n).natAbs).length ≤ 2000; omega)
    rw [Int.neg_neg] at h3
    have i1 : IntKind.i64.wrap (-n) = -n := IntWalk.i64_in _ (by omega)
    have i2 : (n == -n) = false := by rw [beq_eq_false_iff_ne]; omega
    have i3 : n < 0 := by omega
    have i4 : decide (n < 0) = true := decide_eq_true i3
    have H := Lib.hid (And.intro h2 h3)
    clear h2 h3 h
    go_enter Tryz.func83, Tryz.ntmps83
    go_wp2_with fail
    refine (H.out.1 _).mono ?_
    rintro e w1 ⟨rfl, hb1⟩
    go_wp2_with fail
    refine (H.out.2 _).mono ?_
    rintro e w2 ⟨rfl, rfl⟩
    go_wp2_with fail
    go_ret
    exact ⟨rfl, hb1⟩

end Go.Proofs.YtgdlfjofefhdoaaGreatDoor

namespace Go.Proofs.YtgdlfjofefhdoaaGreatDoor
open Go.RowKit Go.Sort Go.Lib Mb

set_option maxHeartbeats 800000 in
theorem number_calls (n : Int) (w : World) (ln : (dg n).length ≤ 18) :
    Calls Tryz.prog 183 #[S n] w fun e w' => e = .returned (.int .i64 n) ∧ w = w' := by
  have h1 := fun w => size_calls n w (by omega)
  have h2 := fun w => below_calls n w
  obtain ⟨l, hl⟩ : ∃ l, l = dg n := ⟨_, rfl⟩
  obtain ⟨s, hs⟩ : ∃ s : ByteArray, s = ⟨l.toArray⟩ := ⟨_, rfl⟩
  have hsz : s.size = l.length := by rw [hs]; simp [ByteArray.size]
  have hd : Dig l := by rw [hl]; exact dg_dig n
  have hv : dv l = n.natAbs := by rw [hl]; exact dv_decDigits _
  have h1' : ∀ w, Calls Tryz.prog 162 #[S n] w fun e w' => e = .returned (.string s) ∧ w = w' := by rw [hs, hl]; exact h1
  have b1 : s.size ≤ 18 := by rw [hsz, hl]; exact ln
  have htk : ∀ k, (dv (l.take k) : Int) < 1000000000000000000 := fun k => by
    have h3 := dv_lt18 (l := l.take k) (dig_take hd k) (by rw [List.length_take]; omega)
    omega
  have H := Lib.hid (And.intro h1' (And.intro h2 (And.intro hs (And.intro hd (And.intro hv (And.intro hsz htk))))))
  clear h1 h1' h2 hs hd hv hsz hl ln htk
  go_enter Tryz.func183, Tryz.ntmps183
  go_wp2_with fail
  refine (H.out.1 _).mono ?_
  rintro e w1 ⟨rfl, rfl⟩
  go_wp2_with fail
  go_loopg [3, 5] s.size (fun g v i wr => ∃ (k : Nat) (z : Int), k + g = s.size ∧ v = .int .i64 z ∧ z = dv (l.take k) ∧ i = .int .i64 k ∧ w = wr)
  case atStart => exact ⟨0, 0, Nat.zero_add _, rfl, by simp [dv_nil], rfl, rfl⟩
  case round =>
    obtain ⟨k, z, hk, rfl, hz, rfl, rfl⟩ := hrel
    by_cases hlt : k < s.size
    · have hx := head_digit l s H.out.2.2.1 H.out.2.2.2.1 k hlt
      have hx9 := dig9 H.out.2.2.2.1 k
      obtain ⟨X, hX⟩ : ∃ X, X = (((l.getD k 48).toNat - 48 : Nat) : Int) := ⟨_, rfl⟩
      rw [← hX] at hx
      have hXb : 0 ≤ X ∧ X ≤ 9 := by omega
      have hlk : k < l.length := by have := H.out.2.2.2.2.2.1; omega
      have hn1 := dvz_take (l := l) (i := k) hlk
      have e3 : l.getD k 48 = l[k] := by simp [List.getD, hlk]
      rw [← e3, ← hX] at hn1
      have hb1 := H.out.2.2.2.2.2.2 (k + 1)
      have hz0 : 0 ≤ z := by omega
      rw [hn1, ← hz] at hb1
      have w1 : IntKind.u8.wrap ((s[k].toNat : Int) - 48) = X := by rw [hx.1]; exact IntWalk.u8_in _ (by omega)
      have w2 : IntKind.i64.wrap X = X := IntWalk.i64_in _ (by omega)
      have w3 : IntKind.i64.wrap (10 * z) = 10 * z := IntWalk.i64_in _ (by omega)
      have w4 : IntKind.i64.wrap (10 * z + X) = 10 * z + X := IntWalk.i64_in _ (by omega)
      have i1 : (k : Int) < s.size := by omega
      obtain ⟨X1, X2⟩ := hXb
      have HZ := Lib.hid (And.intro hz hn1)
      clear hx hx9 hX hlk e3 hb1 hz hn1
      go_wp2_with fail
      go_roundg (s.size - k - 1)
      case measure => omega
      case rel => exact ⟨k + 1, 10 * z + X, by omega, rfl, by rw [HZ.out.2, ← HZ.out.1]; omega, by go_num, rfl⟩
    · have hzn : z = n.natAbs := by
        rw [hz, List.take_of_length_le (by have := H.out.2.2.2.2.2.1; omega), H.out.2.2.2.2.1]
      have hb := H.out.2.2.2.2.2.2 k
      rw [← hz] at hb
      have hz0 : 0 ≤ z := by omega
      clear hz
      by_cases hn : n < 0
      · have e1 : decide (n < 0) = true := decide_eq_true hn
        have H2 := H.out.2.1
        rw [e1] at H2
        have w1 : IntKind.i64.wrap (-z) = -z := IntWalk.i64_in _ (by omega)
        have hf : -z = n := by omega
        have HF := Lib.hid (And.intro hf H2)
        clear hzn e1 H2 hf hn
        go_wp2_with fail
        refine (HF.out.2 _).mono ?_
        rintro e w2 ⟨rfl, rfl⟩
        go_wp2_with fail
        go_ret
        exact ⟨ret_i HF.out.1, rfl⟩
      · have e1 : decide (n < 0) = false := decide_eq_false hn
        have H2 := H.out.2.1
        rw [e1] at H2
        have hf : z = n := by omega
        have HF := Lib.hid (And.intro hf H2)
        clear hzn e1 H2 hf hn
        go_wp2_with fail
        refine (HF.out.2 _).mono ?_
        rintro e w2 ⟨rfl, rfl⟩
        go_wp2_with fail
        go_ret
        exact ⟨ret_i HF.out.1, rfl⟩

theorem brief_yes (a b : Int) (w : World) (la : (dg a).length ≤ 18) (lb : (dg b).length ≤ 18) :
    Calls Tryz.prog 159 #[S a, S b] w fun e w' => e = .returned (.tuple #[.int .i64 a, .int .i64 b, .bool true]) ∧ w = w' := by
  obtain ⟨sa, hsa⟩ : ∃ s : ByteArray, s = ⟨(dg a).toArray⟩ := ⟨_, rfl⟩
  obtain ⟨sb, hsb⟩ : ∃ s : ByteArray, s = ⟨(dg b).toArray⟩ := ⟨_, rfl⟩
  have h1 : ∀ w, Calls Tryz.prog 162 #[S a] w fun e w' => e = .returned (.string sa) ∧ w = w' := by rw [hsa]; exact fun w => size_calls a w (by omega)
  have h2 : ∀ w, Calls Tryz.prog 162 #[S b] w fun e w' => e = .returned (.string sb) ∧ w = w' := by rw [hsb]; exact fun w => size_calls b w (by omega)
  have h3 := fun w => number_calls a w la
  have h4 := fun w => number_calls b w lb
  have i1 : ¬ (18 : Int) < sa.size := by have : sa.size = (dg a).length := by rw [hsa]; simp [ByteArray.size]
                                         omega
  have i2 : ¬ (18 : Int) < sb.size := by have : sb.size = (dg b).length := by rw [hsb]; simp [ByteArray.size]
                                         omega
  have i3 : decide ((18 : Int) < sa.size) = false := decide_eq_false i1
  have i4 : decide ((18 : Int) < sb.size) = false := decide_eq_false i2
  have i5 : decide (18 < sa.size) = false := decide_eq_false (by omega)
  have i6 : decide (18 < sb.size) = false := decide_eq_false (by omega)
  have H := Lib.hid (And.intro h1 (And.intro h2 (And.intro h3 h4)))
  clear h1 h2 h3 h4 hsa hsb la lb
  go_enter Tryz.func159, Tryz.ntmps159
  go_wp2_with fail
  refine (H.out.1 _).mono ?_
  rintro e w1 ⟨rfl, rfl⟩
  go_wp2_with fail
  refine (H.out.2.1 _).mono ?_
  rintro e w2 ⟨rfl, rfl⟩
  go_wp2_with fail
  refine (H.out.2.2.1 _).mono ?_
  rintro e w3 ⟨rfl, rfl⟩
  go_wp2_with fail
  refine (H.out.2.2.2 _).mono ?_
  rintro e w4 ⟨rfl, rfl⟩
  go_wp2_with fail
  first | go_ret3 | go_ret2 | go_ret
  exact ⟨rfl, rfl⟩

theorem brief_no (a b : Int) (w : World) (la : (dg a).length ≤ 2000) (lb : (dg b).length ≤ 2000) (h : 18 < (dg a).length ∨ 18 < (dg b).length) :
    Calls Tryz.prog 159 #[S a, S b] w fun e w' => e = .returned (.tuple #[.int .i64 0, .int .i64 0, .bool false]) ∧ w = w' := by
  obtain ⟨sa, hsa⟩ : ∃ s : ByteArray, s = ⟨(dg a).toArray⟩ := ⟨_, rfl⟩
  obtain ⟨sb, hsb⟩ : ∃ s : ByteArray, s = ⟨(dg b).toArray⟩ := ⟨_, rfl⟩
  have h1 : ∀ w, Calls Tryz.prog 162 #[S a] w fun e w' => e = .returned (.string sa) ∧ w = w' := by rw [hsa]; exact fun w => size_calls a w (by omega)
  have h2 : ∀ w, Calls Tryz.prog 162 #[S b] w fun e w' => e = .returned (.string sb) ∧ w = w' := by rw [hsb]; exact fun w => size_calls b w (by omega)
  have z1 : sa.size = (dg a).length := by rw [hsa]; simp [ByteArray.size]
  have z2 : sb.size = (dg b).length := by rw [hsb]; simp [ByteArray.size]
  rw [← z1, ← z2] at h
  have H := Lib.hid (And.intro h1 h2)
  have b1 : sa.size ≤ 2000 := by omega
  have b2 : sb.size ≤ 2000 := by omega
  clear h1 h2 hsa hsb la lb z1 z2
  by_cases hs : 18 < sa.size
  · have i1 : (18 : Int) < sa.size := by omega
    have i3 : decide ((18 : Int) < sa.size) = true := decide_eq_true i1
    have i5 : decide (18 < sa.size) = true := decide_eq_true hs
    clear h
    go_enter Tryz.func159, Tryz.ntmps159
    go_wp2_with fail
    refine (H.out.1 _).mono ?_
    rintro e w1 ⟨rfl, rfl⟩
    go_wp2_with fail
    first | go_ret3 | go_ret2 | go_ret
    exact ⟨rfl, rfl⟩
  · have i1 : ¬ (18 : Int) < sa.size := by omega
    have i3 : decide ((18 : Int) < sa.size) = false := decide_eq_false i1
    have i5 : decide (18 < sa.size) = false := decide_eq_false hs
    have j0 : 18 < sb.size := by omega
    have j1 : (18 : Int) < sb.size := by omega
    have j3 : decide ((18 : Int) < sb.size) = true := decide_eq_true j1
    have j5 : decide (18 < sb.size) = true := decide_eq_true j0
    clear h
    go_enter Tryz.func159, Tryz.ntmps159
    go_wp2_with fail
    refine (H.out.1 _).mono ?_
    rintro e w1 ⟨rfl, rfl⟩
    go_wp2_with fail
    refine (H.out.2 _).mono ?_
    rintro e w2 ⟨rfl, rfl⟩
    go_wp2_with fail
    first | go_ret3 | go_ret2 | go_ret
    exact ⟨rfl, rfl⟩

theorem sgd_mul (a b : Int) : sgd (decide (a < 0) != decide (b < 0)) (a.natAbs * b.natAbs) = a * b := by
  have h := sv_mul (decide (a < 0)) (decide (b < 0)) (a.natAbs : Int) b.natAbs
  rw [sv_of, sv_of] at h
  rw [← h, ← Int.natCast_mul]
  unfold sgd sv
  rfl

theorem abs_lt {n : Int} {k : Nat} (hk : 1 ≤ k) (h : (dg n).length ≤ k) : n.natAbs < 10 ^ k := (decDigits_len_le hk).1 h

theorem dg_nat (u : Nat) : (decDigits u).length = (dg (u : Int)).length := by unfold dg; simp

set_option maxHeartbeats 800000 in
theorem rtimes_long (a b : Int) (w : World) (la : (dg a).length ≤ 900) (lb : (dg b).length ≤ 900) (x y : Int) (q : Bool)
    (hb : ∀ w, Calls Tryz.prog 159 #[S a, S b] w fun e w' => e = .returned (.tuple #[.int .i64 x, .int .i64 y, .bool q]) ∧ w = w')
    (hq : q = true → 18 < (itoa a).length + (itoa b).length) (hlen : (dg (a * b)).length ≤ 2000) :
    Calls Tryz.prog 128 #[S a, S b] w fun e w' => e = .returned (S (a * b)) ∧ Below w.heap.size w w' := by
  have h1 := fun w => size_calls a w (by omega)
  have h2 := fun w => size_calls b w (by omega)
  have h3 := fun w => product_calls a.natAbs b.natAbs w (by show (dg a).length ≤ 1000; omega) (by show (dg b).length ≤ 1000; omega)
  have h4 := fun w => below_calls a w
  have h5 := fun w => below_calls b w
  have h6 := fun w => signed_calls (a.natAbs * b.natAbs) (decide (a < 0) != decide (b < 0)) w (by rw [← Int.natAbs_mul]; exact hlen)
  rw [sgd_mul] at h6
  obtain ⟨sa, hsa⟩ : ∃ s : ByteArray, s = ⟨(itoa a).toArray⟩ := ⟨_, rfl⟩
  obtain ⟨sb, hsb⟩ : ∃ s : ByteArray, s = ⟨(itoa b).toArray⟩ := ⟨_, rfl⟩
  have z1 : sa.size = (itoa a).length := by rw [hsa]; simp [ByteArray.size]
  have z2 : sb.size = (itoa b).length := by rw [hsb]; simp [ByteArray.size]
  have b1 : sa.size ≤ 1000 := by have := itoa_le_dg a; omega
  have b2 : sb.size ≤ 1000 := by have := itoa_le_dg b; omega
  rw [← z1, ← z2] at hq
  have eA : S a = .string sa := by rw [hsa]
  have eB : S b = .string sb := by rw [hsb]
  rw [eA] at h1 h4
  rw [eB] at h2 h5
  simp only [eA, eB] at hb
  rw [eA, eB]
  obtain ⟨pa, hpa⟩ : ∃ p, decide (a < 0) = p := ⟨_, rfl⟩
  obtain ⟨pb, hpb⟩ : ∃ p, decide (b < 0) = p := ⟨_, rfl⟩
  rw [hpa] at h4 h6
  rw [hpb] at h5 h6
  have H := Lib.hid (And.intro h1 (And.intro h2 (And.intro h3 (And.intro h4 (And.intro h5 (And.intro h6 hb))))))
  clear h1 h2 h3 h4 h5 h6 hb eA eB hsa hsb z1 z2 hpa hpb la lb hlen
  cases q with
  | true =>
    have i1 : ¬ (sa.size : Int) + sb.size ≤ 18 := by have := hq rfl; omega
    have i2 : decide ((sa.size : Int) + sb.size ≤ 18) = false := decide_eq_false i1
    have i3 : decide (sa.size + sb.size ≤ 18) = false := decide_eq_false (by omega)
    clear hq
    go_enter Tryz.func128, Tryz.ntmps128
    go_wp2_with fail
    refine (H.out.2.2.2.2.2.2 _).mono ?_
    rintro e w1 ⟨rfl, rfl⟩
    go_wp2_with fail
    refine (H.out.1 _).mono ?_
    rintro e w2 ⟨rfl, rfl⟩
    go_wp2_with fail
    refine (H.out.2.1 _).mono ?_
    rintro e w3 ⟨rfl, rfl⟩
    go_wp2_with fail
    refine (H.out.2.2.1 _).mono ?_
    rintro e w4 ⟨rfl, hb⟩
    have HB := Lib.hid hb; clear hb
    go_wp2_with fail
    refine (H.out.2.2.2.1 _).mono ?_
    rintro e w5 ⟨rfl, rfl⟩
    go_wp2_with fail
    refine (H.out.2.2.2.2.1 _).mono ?_
    rintro e w6 ⟨rfl, rfl⟩
    go_wp2_with fail
    refine (H.out.2.2.2.2.2.1 _).mono ?_
    rintro e w7 ⟨rfl, rfl⟩
    go_wp2_with fail
    go_ret
    exact ⟨rfl, HB.out⟩
  | false =>
    clear hq
    go_enter Tryz.func128, Tryz.ntmps128
    go_wp2_with fail
    refine (H.out.2.2.2.2.2.2 _).mono ?_
    rintro e w1 ⟨rfl, rfl⟩
    go_wp2_with fail
    refine (H.out.1 _).mono ?_
    rintro e w2 ⟨rfl, rfl⟩
    go_wp2_with fail
    refine (H.out.2.1 _).mono ?_
    rintro e w3 ⟨rfl, rfl⟩
    go_wp2_with fail
    refine (H.out.2.2.1 _).mono ?_
    rintro e w4 ⟨rfl, hb⟩
    have HB := Lib.hid hb; clear hb
    go_wp2_with fail
    refine (H.out.2.2.2.1 _).mono ?_
    rintro e w5 ⟨rfl, rfl⟩
    go_wp2_with fail
    refine (H.out.2.2.2.2.1 _).mono ?_
    rintro e w6 ⟨rfl, rfl⟩
    go_wp2_with fail
    refine (H.out.2.2.2.2.2.1 _).mono ?_
    rintro e w7 ⟨rfl, rfl⟩
    go_wp2_with fail
    go_ret
    exact ⟨rfl, HB.out⟩

end Go.Proofs.YtgdlfjofefhdoaaGreatDoor

namespace Go.Proofs.YtgdlfjofefhdoaaGreatDoor
open Go.RowKit Go.Sort Go.Lib Mb

theorem abs_mul_lt {a b : Int} {k : Nat} (h : (dg a).length + (dg b).length ≤ k) : (a * b).natAbs < 10 ^ k := by
  have ha := abs_lt (n := a) (k := (dg a).length) (by have := dg_ne a; cases hx : dg a <;> simp_all) (Nat.le_refl _)
  have hb := abs_lt (n := b) (k := (dg b).length) (by have := dg_ne b; cases hx : dg b <;> simp_all) (Nat.le_refl _)
  rw [Int.natAbs_mul]
  refine Nat.lt_of_lt_of_le (Nat.mul_lt_mul'' ha hb) ?_
  rw [← Nat.pow_add]
  exact Nat.pow_le_pow_right (by decide) h

theorem dg_mul {a b : Int} {k : Nat} (h : (dg a).length + (dg b).length ≤ k) (hk : 1 ≤ k) : (dg (a * b)).length ≤ k := (decDigits_len_le hk).2 (abs_mul_lt h)

theorem dg_itoa (n : Int) : (dg n).length ≤ (itoa n).length := by have := dg_le_itoa n; omega

set_option maxHeartbeats 800000 in
theorem rtimes_short (a b : Int) (w : World) (h : (itoa a).length + (itoa b).length ≤ 18) :
    Calls Tryz.prog 128 #[S a, S b] w fun e w' => e = .returned (S (a * b)) ∧ Below w.heap.size w w' := by
  have d1 := dg_itoa a
  have d2 := dg_itoa b
  have hb := fun w => brief_yes a b w (by omega) (by omega)
  have hm : (a * b).natAbs < 1000000000000000000 := by
    have := abs_mul_lt (a := a) (b := b) (k := 18) (by omega)
    exact this
  have ho := fun w => rof_calls (a * b) w (by omega) (by omega)
  obtain ⟨sa, hsa⟩ : ∃ s : ByteArray, s = ⟨(itoa a).toArray⟩ := ⟨_, rfl⟩
  obtain ⟨sb, hsb⟩ : ∃ s : ByteArray, s = ⟨(itoa b).toArray⟩ := ⟨_, rfl⟩
  have z1 : sa.size = (itoa a).length := by rw [hsa]; simp [ByteArray.size]
  have z2 : sb.size = (itoa b).length := by rw [hsb]; simp [ByteArray.size]
  have eA : S a = .string sa := by rw [hsa]
  have eB : S b = .string sb := by rw [hsb]
  simp only [eA, eB] at hb
  rw [eA, eB]
  have w1 : IntKind.i64.wrap (a * b) = a * b := IntWalk.i64_in _ (by omega)
  have i1 : (sa.size : Int) + sb.size ≤ 18 := by omega
  have b1 : sa.size ≤ 18 := by omega
  have b2 : sb.size ≤ 18 := by omega
  have i2 : decide ((sa.size : Int) + sb.size ≤ 18) = true := decide_eq_true i1
  have i3 : decide (sa.size + sb.size ≤ 18) = true := decide_eq_true (by omega)
  have H := Lib.hid (And.intro hb ho)
  clear hb ho eA eB hsa hsb z1 z2 d1 d2 hm h
  go_enter Tryz.func128, Tryz.ntmps128
  go_wp2_with fail
  refine (H.out.1 _).mono ?_
  rintro e w1 ⟨rfl, rfl⟩
  go_wp2_with fail
  refine (H.out.2 _).mono ?_
  rintro e w2 ⟨rfl, hb⟩
  go_wp2_with fail
  go_ret
  exact ⟨rfl, hb⟩

/-- the product of numbers of at most 900 digits -/
theorem rtimes_calls (a b : Int) (w : World) (la : (dg a).length ≤ 900) (lb : (dg b).length ≤ 900) :
    Calls Tryz.prog 128 #[S a, S b] w fun e w' => e = .returned (S (a * b)) ∧ Below w.heap.size w w' := by
  have hm : (dg (a * b)).length ≤ 2000 := dg_mul (by omega) (by omega)
  by_cases h : (itoa a).length + (itoa b).length ≤ 18
  · exact rtimes_short a b w h
  · by_cases h2 : (dg a).length ≤ 18 ∧ (dg b).length ≤ 18
    · exact rtimes_long a b w la lb a b true (fun w => brief_yes a b w h2.1 h2.2) (fun _ => by omega) hm
    · exact rtimes_long a b w la lb 0 0 false (fun w => brief_no a b w (by omega) (by omega) (by omega)) (fun e => by cases e) hm

theorem dg_add {a b : Int} {k : Nat} (ha : (dg a).length ≤ k) (hb : (dg b).length ≤ k) (hk : 1 ≤ k) : (dg (a + b)).length ≤ k + 1 := by
  have h1 := abs_lt hk ha
  have h2 := abs_lt hk hb
  refine (decDigits_len_le (by omega)).2 ?_
  rw [Nat.pow_succ]
  omega

set_option maxHeartbeats 800000 in
theorem rplus_short (a b : Int) (w : World) (la : (dg a).length ≤ 18) (lb : (dg b).length ≤ 18) :
    Calls Tryz.prog 163 #[S a, S b] w fun e w' => e = .returned (S (a + b)) ∧ Below w.heap.size w w' := by
  have hb := fun w => brief_yes a b w la lb
  have h1 : a.natAbs < 1000000000000000000 := abs_lt (k := 18) (by omega) la
  have h2 : b.natAbs < 1000000000000000000 := abs_lt (k := 18) (by omega) lb
  have ho := fun w => rof_calls (a + b) w (by omega) (by omega)
  have w1 : IntKind.i64.wrap (a + b) = a + b := IntWalk.i64_in _ (by omega)
  have H := Lib.hid (And.intro hb ho)
  clear hb ho h1 h2 la lb
  go_enter Tryz.func163, Tryz.ntmps163
  go_wp2_with fail
  refine (H.out.1 _).mono ?_
  rintro e w1 ⟨rfl, rfl⟩
  go_wp2_with fail
  refine (H.out.2 _).mono ?_
  rintro e w2 ⟨rfl, hb⟩
  go_wp2_with fail
  go_ret
  exact ⟨rfl, hb⟩

theorem plus_same {a b : Int} (h : decide (a < 0) = decide (b < 0)) : sgd (decide (a < 0)) ((a.natAbs : Int) + 1 * b.natAbs).toNat = a + b := by
  unfold sgd
  by_cases h1 : a < 0
  · rw [decide_eq_true h1] at h ⊢
    have h2 := of_decide_eq_true h.symm
    rw [if_pos rfl]; omega
  · rw [decide_eq_false h1] at h ⊢
    have h2 := of_decide_eq_false h.symm
    simp; omega
theorem plus_less {a b : Int} (h : decide (a < 0) ≠ decide (b < 0)) (hl : a.natAbs < b.natAbs) : sgd (decide (b < 0)) ((b.natAbs : Int) + -1 * a.natAbs).toNat = a + b := by
  unfold sgd
  by_cases h1 : a < 0
  · rw [decide_eq_true h1] at h
    have h2 : ¬ b < 0 := fun e => h (decide_eq_true e).symm
    rw [decide_eq_false h2]; simp; omega
  · rw [decide_eq_false h1] at h
    have h2 : b < 0 := Classical.byContradiction fun e => h (decide_eq_false e).symm
    rw [decide_eq_true h2, if_pos rfl]; omega
theorem plus_more {a b : Int} (h : decide (a < 0) ≠ decide (b < 0)) (hl : ¬ a.natAbs < b.natAbs) : sgd (decide (a < 0)) ((a.natAbs : Int) + -1 * b.natAbs).toNat = a + b := by
  unfold sgd
  by_cases h1 : a < 0
  · rw [decide_eq_true h1] at h
    have h2 : ¬ b < 0 := fun e => h (decide_eq_true e).symm
    rw [decide_eq_true h1, if_pos rfl]; omega
  · rw [decide_eq_false h1] at h
    have h2 : b < 0 := Classical.byContradiction fun e => h (decide_eq_false e).symm
    rw [decide_eq_false h1]; simp; omega

set_option maxHeartbeats 1600000 in
theorem rplus_long (a b : Int) (w : World) (la : (dg a).length ≤ 1900) (lb : (dg b).length ≤ 1900) (h18 : 18 < (dg a).length ∨ 18 < (dg b).length) :
    Calls Tryz.prog 163 #[S a, S b] w fun e w' => e = .returned (S (a + b)) ∧ Below w.heap.size w w' := by
  have hb := fun w => brief_no a b w (by omega) (by omega) h18
  have h1 := fun w => size_calls a w (by omega)
  have h2 := fun w => size_calls b w (by omega)
  have h4 := fun w => below_calls a w
  have h5 := fun w => below_calls b w
  have l1 : (decDigits a.natAbs).length ≤ 2000 := by show (dg a).length ≤ 2000; omega
  have l2 : (decDigits b.natAbs).length ≤ 2000 := by show (dg b).length ≤ 2000; omega
  have hlen : ∀ z : Nat, (z : Int) = (a + b).natAbs → (decDigits z).length ≤ 2000 := fun z hz => by
    have := dg_add la lb (by omega)
    have e : z = (a + b).natAbs := by omega
    rw [e]; show (dg (a + b)).length ≤ 2000; omega
  have hless := fun w => less_calls' a.natAbs b.natAbs w l1 l2
  by_cases hs : decide (a < 0) = decide (b < 0)
  · have h3 := fun w => paper_calls a.natAbs b.natAbs true 1 w rfl (fun e => by omega) l1 l2
    have hpl := plus_same hs
    have h6 := fun w => signed_calls ((a.natAbs : Int) + 1 * b.natAbs).toNat (decide (a < 0)) w (hlen _ (by
      by_cases h1 : a < 0
      · rw [decide_eq_true h1] at hs; have := of_decide_eq_true hs.symm; omega
      · rw [decide_eq_false h1] at hs; have := of_decide_eq_false hs.symm; omega))
    rw [hpl] at h6
    obtain ⟨z, hz⟩ : ∃ z, ((a.natAbs : Int) + 1 * b.natAbs).toNat = z := ⟨_, rfl⟩
    rw [hz] at h3 h6
    obtain ⟨pa, hpa⟩ : ∃ p, decide (a < 0) = p := ⟨_, rfl⟩
    rw [← hs] at h5
    rw [hpa] at h4 h5 h6
    have H := Lib.hid (And.intro hb (And.intro h1 (And.intro h2 (And.intro h3 (And.intro h4 (And.intro h5 h6))))))
    clear hb h1 h2 h3 h4 h5 h6 hless hlen hz hpl hpa hs la lb l1 l2 h18
    go_enter Tryz.func163, Tryz.ntmps163
    go_wp2_with fail
    refine (H.out.1 _).mono ?_
    rintro e w1 ⟨rfl, rfl⟩
    go_wp2_with fail
    refine (H.out.2.1 _).mono ?_
    rintro e w2 ⟨rfl, rfl⟩
    go_wp2_with fail
    refine (H.out.2.2.1 _).mono ?_
    rintro e w3 ⟨rfl, rfl⟩
    go_wp2_with fail
    refine (H.out.2.2.2.2.1 _).mono ?_
    rintro e w4 ⟨rfl, rfl⟩
    go_wp2_with fail
    refine (H.out.2.2.2.2.2.1 _).mono ?_
    rintro e w5 ⟨rfl, rfl⟩
    go_wp2_with fail
    refine (H.out.2.2.2.1 _).mono ?_
    rintro e w6 ⟨rfl, hb⟩
    have HB := Lib.hid hb; clear hb
    go_wp2_with fail
    refine (H.out.2.2.2.2.1 _).mono ?_
    rintro e w7 ⟨rfl, rfl⟩
    go_wp2_with fail
    refine (H.out.2.2.2.2.2.2 _).mono ?_
    rintro e w8 ⟨rfl, rfl⟩
    go_wp2_with fail
    go_ret
    exact ⟨rfl, HB.out⟩
  · have hne : (decide (a < 0) == decide (b < 0)) = false := by rw [beq_eq_false_iff_ne]; exact hs
    by_cases hl : a.natAbs < b.natAbs
    · have h3 := fun w => paper_calls b.natAbs a.natAbs false (-1) w rfl (fun _ => by omega) l2 l1
      have hpl := plus_less hs hl
      have h6 := fun w => signed_calls ((b.natAbs : Int) + -1 * a.natAbs).toNat (decide (b < 0)) w (hlen _ (by
        by_cases h1 : a < 0
        · rw [decide_eq_true h1] at hs; have : ¬ b < 0 := fun e => hs (decide_eq_true e).symm
          omega
        · rw [decide_eq_false h1] at hs; have : b < 0 := Classical.byContradiction fun e => hs (decide_eq_false e).symm
          omega))
      obtain ⟨z, hz⟩ : ∃ z, ((b.natAbs : Int) + -1 * a.natAbs).toNat = z := ⟨_, rfl⟩
      rw [hpl] at h6
      rw [hz] at h3 h6
      rw [decide_eq_true hl] at hless
      obtain ⟨pa, hpa⟩ : ∃ p, decide (a < 0) = p := ⟨_, rfl⟩
      obtain ⟨pb, hpb⟩ : ∃ p, decide (b < 0) = p := ⟨_, rfl⟩
      rw [hpa] at h4
      rw [hpb] at h5 h6
      rw [hpa, hpb] at hne
      have H := Lib.hid (And.intro hb (And.intro h1 (And.intro h2 (And.intro h3 (And.intro h4 (And.intro h5 (And.intro h6 hless)))))))
      clear hb h1 h2 h3 h4 h5 h6 hless hlen hz hpl hpa hpb hs hl la lb l1 l2 h18
      go_enter Tryz.func163, Tryz.ntmps163
      go_wp2_with fail
      refine (H.out.1 _).mono ?_
      rintro e w1 ⟨rfl, rfl⟩
      go_wp2_with fail
      refine (H.out.2.1 _).mono ?_
      rintro e w2 ⟨rfl, rfl⟩
      go_wp2_with fail
      refine (H.out.2.2.1 _).mono ?_
      rintro e w3 ⟨rfl, rfl⟩
      go_wp2_with fail
      refine (H.out.2.2.2.2.1 _).mono ?_
      rintro e w4 ⟨rfl, rfl⟩
      go_wp2_with fail
      refine (H.out.2.2.2.2.2.1 _).mono ?_
      rintro e w5 ⟨rfl, rfl⟩
      go_wp2_with fail
      refine (H.out.2.2.2.2.2.2.2 _).mono ?_
      rintro e w6 ⟨rfl, rfl⟩
      go_wp2_with fail
      refine (H.out.2.2.2.1 _).mono ?_
      rintro e w7 ⟨rfl, hb⟩
      have HB := Lib.hid hb; clear hb
      go_wp2_with fail
      refine (H.out.2.2.2.2.2.1 _).mono ?_
      rintro e w8 ⟨rfl, rfl⟩
      go_wp2_with fail
      refine (H.out.2.2.2.2.2.2.1 _).mono ?_
      rintro e w9 ⟨rfl, rfl⟩
      go_wp2_with fail
      go_ret
      exact ⟨rfl, HB.out⟩
    · have h3 := fun w => paper_calls a.natAbs b.natAbs false (-1) w rfl (fun _ => by omega) l1 l2
      have hpl := plus_more hs hl
      have h6 := fun w => signed_calls ((a.natAbs : Int) + -1 * b.natAbs).toNat (decide (a < 0)) w (hlen _ (by
        by_cases h1 : a < 0
        · rw [decide_eq_true h1] at hs; have : ¬ b < 0 := fun e => hs (decide_eq_true e).symm
          omega
        · rw [decide_eq_false h1] at hs; have : b < 0 := Classical.byContradiction fun e => hs (decide_eq_false e).symm
          omega))
      obtain ⟨z, hz⟩ : ∃ z, ((a.natAbs : Int) + -1 * b.natAbs).toNat = z := ⟨_, rfl⟩
      rw [hpl] at h6
      rw [hz] at h3 h6
      rw [decide_eq_false hl] at hless
      obtain ⟨pa, hpa⟩ : ∃ p, decide (a < 0) = p := ⟨_, rfl⟩
      obtain ⟨pb, hpb⟩ : ∃ p, decide (b < 0) = p := ⟨_, rfl⟩
      rw [hpa] at h4 h6
      rw [hpb] at h5
      rw [hpa, hpb] at hne
      have H := Lib.hid (And.intro hb (And.intro h1 (And.intro h2 (And.intro h3 (And.intro h4 (And.intro h5 (And.intro h6 hless)))))))
      clear hb h1 h2 h3 h4 h5 h6 hless hlen hz hpl hpa hpb hs hl la lb l1 l2 h18
      go_enter Tryz.func163, Tryz.ntmps163
      go_wp2_with fail
      refine (H.out.1 _).mono ?_
      rintro e w1 ⟨rfl, rfl⟩
      go_wp2_with fail
      refine (H.out.2.1 _).mono ?_
      rintro e w2 ⟨rfl, rfl⟩
      go_wp2_with fail
      refine (H.out.2.2.1 _).mono ?_
      rintro e w3 ⟨rfl, rfl⟩
      go_wp2_with fail
      refine (H.out.2.2.2.2.1 _).mono ?_
      rintro e w4 ⟨rfl, rfl⟩
      go_wp2_with fail
      refine (H.out.2.2.2.2.2.1 _).mono ?_
      rintro e w5 ⟨rfl, rfl⟩
      go_wp2_with fail
      refine (H.out.2.2.2.2.2.2.2 _).mono ?_
      rintro e w6 ⟨rfl, rfl⟩
      go_wp2_with fail
      refine (H.out.2.2.2.1 _).mono ?_
      rintro e w7 ⟨rfl, hb⟩
      have HB := Lib.hid hb; clear hb
      go_wp2_with fail
      refine (H.out.2.2.2.2.1 _).mono ?_
      rintro e w8 ⟨rfl, rfl⟩
      go_wp2_with fail
      refine (H.out.2.2.2.2.2.2.1 _).mono ?_
      rintro e w9 ⟨rfl, rfl⟩
      go_wp2_with fail
      go_ret
      exact ⟨rfl, HB.out⟩

theorem rplus_calls (a b : Int) (w : World) (la : (dg a).length ≤ 1900) (lb : (dg b).length ≤ 1900) :
    Calls Tryz.prog 163 #[S a, S b] w fun e w' => e = .returned (S (a + b)) ∧ Below w.heap.size w w' := by
  by_cases h2 : (dg a).length ≤ 18 ∧ (dg b).length ≤ 18
  · exact rplus_short a b w h2.1 h2.2
  · exact rplus_long a b w la lb (by omega)

theorem dg_negate (n : Int) : dg (-n) = dg n := by unfold dg; rw [Int.natAbs_neg]

theorem rminus_calls (a b : Int) (w : World) (la : (dg a).length ≤ 1900) (lb : (dg b).length ≤ 1900) :
    Calls Tryz.prog 169 #[S a, S b] w fun e w' => e = .returned (S (a - b)) ∧ Below w.heap.size w w' := by
  have h1 := fun w => turned_calls b w (by omega)
  have h2 := fun w => rplus_calls a (-b) w la (by rw [dg_negate]; exact lb)
  rw [← Int.sub_eq_add_neg] at h2
  have H := Lib.hid (And.intro h1 h2)
  clear h1 h2 la lb
  go_enter Tryz.func169, Tryz.ntmps169
  go_wp2_with fail
  refine (H.out.1 _).mono ?_
  rintro e w1 ⟨rfl, rfl⟩
  go_wp2_with fail
  refine (H.out.2 _).mono ?_
  rintro e w2 ⟨rfl, hb⟩
  go_wp2_with fail
  go_ret
  exact ⟨rfl, hb⟩

theorem S_eq_zero (n : Int) (s : ByteArray) (hs : s = ⟨(itoa n).toArray⟩) : (s.toList == [48]) = decide (n = 0) := by
  rw [hs, tl_bytes]
  have e : itoa 0 = [48] := by rw [Mb.itoa_nonneg (by omega)]; rw [show (0 : Int).natAbs = 0 from rfl, decDigits]; rfl
  by_cases h : n = 0
  · rw [h, e]; rfl
  · rw [decide_eq_false h, beq_eq_false_iff_ne]
    intro h2
    exact h (itoa_inj (h2.trans e.symm))

theorem rorder_calls (a b : Int) (w : World) (la : (dg a).length ≤ 1900) (lb : (dg b).length ≤ 1900) :
    Calls Tryz.prog 146 #[S a, S b] w fun e w' => e = .returned (.int .i64 (cmp3 a b)) ∧ Below w.heap.size w w' := by
  have h1 := fun w => rminus_calls a b w la lb
  have h2 := fun w => below_calls (a - b) w
  obtain ⟨s, hs⟩ : ∃ s : ByteArray, s = ⟨(itoa (a - b)).toArray⟩ := ⟨_, rfl⟩
  have h0 := S_eq_zero (a - b) s hs
  have eS : S (a - b) = .string s := by rw [hs]
  rw [eS] at h2
  simp only [eS] at h1
  clear la lb hs eS
  by_cases hz : a - b = 0
  · rw [decide_eq_true hz] at h0
    have hl : s.toList = [48] := by simpa using h0
    have e : cmp3 a b = 0 := by unfold cmp3; rw [if_neg (by omega), if_neg (by omega)]
    rw [e]
    have H := Lib.hid h1
    clear h1 h2 e hz
    go_enter Tryz.func146, Tryz.ntmps146
    go_wp2_with fail
    refine (H.out _).mono ?_
    rintro e w1 ⟨rfl, hb⟩
    go_wp2_with fail
    go_ret
    exact ⟨rfl, hb⟩
  · rw [decide_eq_false hz] at h0
    have hl : ¬ s.toList = [48] := by simpa using h0
    by_cases hn : a - b < 0
    · rw [decide_eq_true hn] at h2
      have e : cmp3 a b = -1 := by unfold cmp3; rw [if_pos (by omega)]
      rw [e]
      have H := Lib.hid (And.intro h1 h2)
      clear h1 h2 e hz hn
      go_enter Tryz.func146, Tryz.ntmps146
      go_wp2_with fail
      refine (H.out.1 _).mono ?_
      rintro e w1 ⟨rfl, hb⟩
      go_wp2_with fail
      refine (H.out.2 _).mono ?_
      rintro e w2 ⟨rfl, rfl⟩
      go_wp2_with fail
      go_ret
      exact ⟨rfl, hb⟩
    · rw [decide_eq_false hn] at h2
      have e : cmp3 a b = 1 := by unfold cmp3; rw [if_neg (by omega), if_pos (by omega)]
      rw [e]
      have H := Lib.hid (And.intro h1 h2)
      clear h1 h2 e hz hn
      go_enter Tryz.func146, Tryz.ntmps146
      go_wp2_with fail
      refine (H.out.1 _).mono ?_
      rintro e w1 ⟨rfl, hb⟩
      go_wp2_with fail
      refine (H.out.2 _).mono ?_
      rintro e w2 ⟨rfl, rfl⟩
      go_wp2_with fail
      go_ret
      exact ⟨rfl, hb⟩

end Go.Proofs.YtgdlfjofefhdoaaGreatDoor
