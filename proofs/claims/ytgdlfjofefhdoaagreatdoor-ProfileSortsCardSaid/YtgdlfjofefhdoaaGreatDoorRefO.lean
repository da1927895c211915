/- The reference's Order of numbers: slash, Split, crossed, Order. -/
import Derived.Test.YtgdlfjofefhdoaaGreatDoorPapC
import Derived.Test.YtgdlfjofefhdoaaGreatDoorRatCE
namespace Go.Proofs.YtgdlfjofefhdoaaGreatDoor
open Go.RowKit Go.Sort Go.Lib Go.Shelf Mb

attribute [local go_sem] Oper.semAt_some

set_option maxHeartbeats 1600000 in
theorem slash_calls (s : ByteArray) (m : Nat) (hm : m ≤ s.size) (h1 : ∀ j (h : j < s.size), j < m → s[j] ≠ 47) (h2 : ∀ h : m < s.size, s[m] = 47) (hs : s.size ≤ 100000) (w : World) :
    Calls Tryz.prog 191 #[.string s] w fun e w' => e = .returned (.int .i64 (if m < s.size then (m : Int) else -1)) ∧ w' = w := by
  have HH := Lib.hid (And.intro h1 h2); clear h1 h2
  go_enter Tryz.func191, Tryz.ntmps191
  go_wp2
  go_loopg [3] s.size (fun g i wr => ∃ k : Nat, k + g = s.size ∧ i = .int .i64 k ∧ k ≤ m ∧ wr = w)
  case atStart => exact ⟨0, Nat.zero_add _, rfl, Nat.zero_le _, rfl⟩
  case round =>
    obtain ⟨k, hk, rfl, hkm, rfl⟩ := hrel
    by_cases hlt : k < s.size
    · have i1 : ((k : Int) < s.size) := by omega
      have z1 : (0 : Int) ≤ (k : Int) := by omega
      by_cases hkk : k = m
      · subst hkk
        have h47 := HH.out.2 hlt
        have e47 : (s[k].toNat : Int) = 47 := by rw [h47]; rfl
        go_wp2_with fail
        go_ret
        exact ⟨ret_i rfl, rfl⟩
      · have h47 := HH.out.1 k hlt (by omega)
        have e47 : ¬ (s[k].toNat : Int) = 47 := fun e => h47 (by
          apply UInt8.toNat_inj.1; show s[k].toNat = 47; omega)
        have d47 : decide ((s[k].toNat : Int) = 47) = false := decide_eq_false e47
        go_wp2_with fail
        go_roundg (gk - 1)
        case measure => omega
        case rel => exact ⟨k + 1, by omega, by go_num, by omega, rfl⟩
    · go_wp2
      go_ret
      have hms : ¬ m < s.size := by omega
      first
      | exact ⟨ret_i rfl, rfl⟩
      | exact ⟨ret_i (by rw [if_neg hms]), rfl⟩

theorem ext_lo (A B : List UInt8) : (⟨(A ++ 47 :: B).toArray⟩ : ByteArray).extract 0 A.length = ⟨A.toArray⟩ := by
  apply ByteArray.ext
  apply Array.ext'
  rw [Lib.extract_data]
  show ((A ++ 47 :: B).drop 0).take (A.length - 0) = A
  simp
theorem ext_hi (A B : List UInt8) (n : Nat) (hn : n = A.length + 1 + B.length) : (⟨(A ++ 47 :: B).toArray⟩ : ByteArray).extract (A.length + 1) n = ⟨B.toArray⟩ := by
  subst hn
  apply ByteArray.ext
  apply Array.ext'
  rw [Lib.extract_data]
  show ((A ++ 47 :: B).drop (A.length + 1)).take (A.length + 1 + B.length - (A.length + 1)) = B
  rw [List.drop_append, List.drop_eq_nil_of_le (by omega)]
  simp

theorem S_1 : S 1 = .string ⟨#[49]⟩ := by show Value.string ⟨(itoa 1).toArray⟩ = _; rw [itoa_one]

set_option maxHeartbeats 1600000 in
theorem rsplit_calls (p q : Int) (w : World) (hq : 0 < q) (lp : (dg p).length ≤ 1024) (lq : (dg q).length ≤ 1024) :
    Calls Tryz.prog 168 #[R p q] w fun e w' => e = .returned (.tuple #[S p, S q]) ∧ Below w.heap.size w w' := by
  have l1 := itoa_le_dg p
  have l2 := itoa_le_dg q
  obtain ⟨s, hs⟩ : ∃ s : ByteArray, s = ⟨(rtxt p q).toArray⟩ := ⟨_, rfl⟩
  show Calls _ _ #[.string ⟨(rtxt p q).toArray⟩] w _
  rw [← hs]
  by_cases h : q = 1
  · subst h
    have e1 : rtxt p 1 = itoa p := if_pos rfl
    rw [e1] at hs
    have hsz : s.size = (itoa p).length := by rw [hs]; simp [ByteArray.size]
    have hL := slash_calls s s.size (Nat.le_refl _) (fun j hj _ => by
      subst hs
      intro e
      apply no_slash p
      have : (⟨(itoa p).toArray⟩ : ByteArray)[j] = (itoa p)[j]'(by rw [← hsz]; exact hj) := rfl
      rw [this] at e
      rw [← e]
      exact List.getElem_mem _) (fun h => absurd h (Nat.lt_irrefl _)) (by omega) w
    rw [if_neg (Nat.lt_irrefl _)] at hL
    have h1 : S p = .string s := by rw [hs]
    rw [h1, S_1]
    clear hs e1 h1 l1 l2 lp lq hsz
    go_enter Tryz.func168, Tryz.ntmps168
    go_wp2_with fail
    refine hL.mono ?_
    rintro e w1 ⟨rfl, rfl⟩
    clear hL
    go_wp2_with fail
    go_ret2
    exact ⟨rfl, Below.refl _ _⟩
  · have e2 : rtxt p q = itoa p ++ 47 :: itoa q := if_neg h
    rw [e2] at hs
    have hsz : s.size = (itoa p).length + 1 + (itoa q).length := by rw [hs]; show ((itoa p ++ 47 :: itoa q).toArray).size = _; simp only [List.size_toArray, List.length_append, List.length_cons]; omega
    obtain ⟨m, hm⟩ : ∃ m, m = (itoa p).length := ⟨_, rfl⟩
    have hms : m < s.size := by omega
    have hL := slash_calls s m (by omega) (fun j hj hjm => by
      subst hs
      intro e
      apply no_slash p
      have : (⟨(itoa p ++ 47 :: itoa q).toArray⟩ : ByteArray)[j] = (itoa p ++ 47 :: itoa q)[j]'(by simp; omega) := rfl
      rw [this, List.getElem_append_left (by omega)] at e
      rw [← e]
      exact List.getElem_mem _) (fun h => by
      subst hs
      have : (⟨(itoa p ++ 47 :: itoa q).toArray⟩ : ByteArray)[m] = (itoa p ++ 47 :: itoa q)[m]'(by simp; omega) := rfl
      rw [this, List.getElem_append_right (by omega)]
      subst hm; simp) (by omega) w
    rw [if_pos hms] at hL
    have k1 : ∀ w, (Instr.slice 24 (.string s) none (some (.int .i64 (m : Int))) none).run Tryz.prog w = .ok (S p) w := fun w => by
      rw [run_slice_string_h (P := Tryz.prog) (ht := Tryz.underlying24) (kh := .i64) (h := (m : Int)) (h0 := by omega) (h2 := by omega), Int.toNat_natCast, hs, hm, ext_lo]
    have k2 : ∀ w, (Instr.slice 24 (.string s) (some (.int .i64 ((m : Int) + 1))) none none).run Tryz.prog w = .ok (S q) w := fun w => by
      rw [run_slice_string_l (P := Tryz.prog) (ht := Tryz.underlying24) (kl := .i64) (l := (m : Int) + 1) (h0 := by omega) (h1 := by omega), show ((m : Int) + 1).toNat = m + 1 by omega, hsz, hs, hm, ext_hi _ _ _ rfl]
    generalize S p = x at k1 ⊢
    generalize S q = y at k2 ⊢
    have i1 : ¬ ((m : Int) < 0) := by omega
    have hmb : m ≤ 100000 := by omega
    clear hs e2 l1 l2 lp lq hm hsz
    have w1 : IntKind.i64.wrap ((m : Int) + 1) = (m : Int) + 1 := IntWalk.i64_in _ (by omega)
    go_enter Tryz.func168, Tryz.ntmps168
    go_wp2_with fail
    refine hL.mono ?_
    rintro e w1 ⟨rfl, rfl⟩
    clear hL
    go_wp2_with fail
    go_region
    all_goals (go_wp2_with fail; go_ret2; exact ⟨rfl, bel_dn _ 1⟩)

set_option maxHeartbeats 1600000 in
/-- the five products -/
theorem rcrossed_calls (n d m e : Int) (w : World) (hd : 0 < d) (he : 0 < e) (ln : (dg n).length ≤ 900) (ld : (dg d).length ≤ 900) (lm : (dg m).length ≤ 900) (le : (dg e).length ≤ 900) :
    Calls Tryz.prog 145 #[R n d, R m e] w fun r w' => (∃ B, r = .returned (.slice (some ⟨B, 0, none⟩) 5 5) ∧ w'.cell? ⟨B, 0, none⟩ = some (S (n * e)) ∧ w'.cell? ⟨B, 1, none⟩ = some (S (m * d)) ∧ w'.cell? ⟨B, 2, none⟩ = some (S (d * e)) ∧ w'.cell? ⟨B, 3, none⟩ = some (S (n * m)) ∧ w'.cell? ⟨B, 4, none⟩ = some (S (d * m))) ∧ Below w.heap.size w w' := by
  have h1 := fun w => rsplit_calls n d w hd (by omega) (by omega)
  have h2 := fun w => rsplit_calls m e w he (by omega) (by omega)
  have t1 := fun w => rtimes_calls n e w ln le
  have t2 := fun w => rtimes_calls m d w lm ld
  have t3 := fun w => rtimes_calls d e w ld le
  have t4 := fun w => rtimes_calls n m w ln lm
  have t5 := fun w => rtimes_calls d m w ld lm
  generalize hx : R n d = x at h1 ⊢
  generalize hy : R m e = y at h2 ⊢
  obtain ⟨sx, rfl⟩ : ∃ s, x = .string s := ⟨_, hx.symm⟩
  obtain ⟨sy, rfl⟩ : ∃ s, y = .string s := ⟨_, hy.symm⟩
  obtain ⟨a1, e1⟩ : ∃ s, S (n * e) = .string s := ⟨_, rfl⟩
  obtain ⟨a2, e2⟩ : ∃ s, S (m * d) = .string s := ⟨_, rfl⟩
  obtain ⟨a3, e3⟩ : ∃ s, S (d * e) = .string s := ⟨_, rfl⟩
  obtain ⟨a4, e4⟩ : ∃ s, S (n * m) = .string s := ⟨_, rfl⟩
  obtain ⟨a5, e5⟩ : ∃ s, S (d * m) = .string s := ⟨_, rfl⟩
  obtain ⟨xn, f1⟩ : ∃ s, S n = s := ⟨_, rfl⟩
  obtain ⟨xd, f2⟩ : ∃ s, S d = s := ⟨_, rfl⟩
  obtain ⟨xm, f3⟩ : ∃ s, S m = s := ⟨_, rfl⟩
  obtain ⟨xe, f4⟩ : ∃ s, S e = s := ⟨_, rfl⟩
  rw [e1, f1, f4] at t1; rw [e2, f3, f2] at t2; rw [e3, f2, f4] at t3; rw [e4, f1, f3] at t4; rw [e5, f2, f3] at t5
  rw [f1, f2] at h1; rw [f3, f4] at h2
  rw [e1, e2, e3, e4, e5]
  have H := Lib.hid (And.intro h1 (And.intro h2 (And.intro t1 (And.intro t2 (And.intro t3 (And.intro t4 t5))))))
  clear h1 h2 t1 t2 t3 t4 t5 e1 e2 e3 e4 e5 f1 f2 f3 f4 hx hy hd he ln ld lm le
  go_enter Tryz.func145, Tryz.ntmps145
  go_wp2_with fail
  refine (H.out.1 _).mono ?_
  rintro r w1 ⟨rfl, hb1⟩
  go_wp2_with fail
  refine (H.out.2.1 _).mono ?_
  rintro r w2 ⟨rfl, hb2⟩
  have b2 := below_trans hb1 hb2; clear hb1 hb2
  go_wp2_with fail
  refine (H.out.2.2.1 _).mono ?_
  rintro r w3 ⟨rfl, hb3⟩
  have b3 := below_trans b2 hb3; clear b2 hb3
  go_wp2_with fail
  refine (H.out.2.2.2.1 _).mono ?_
  rintro r w4 ⟨rfl, hb4⟩
  have b4 := below_trans b3 hb4; clear b3 hb4
  go_wp2_with fail
  refine (H.out.2.2.2.2.1 _).mono ?_
  rintro r w5 ⟨rfl, hb5⟩
  have b5 := below_trans b4 hb5; clear b4 hb5
  go_wp2_with fail
  refine (H.out.2.2.2.2.2.1 _).mono ?_
  rintro r w6 ⟨rfl, hb6⟩
  have b6 := below_trans b5 hb6; clear b5 hb6
  go_wp2_with fail
  refine (H.out.2.2.2.2.2.2 _).mono ?_
  rintro r w7 ⟨rfl, hb7⟩
  have b7 := below_trans b6 hb7; clear b6 hb7
  go_wp2_with fail
  go_ret
  exact ⟨⟨w7.heap.size, rfl, cell_new _ _ _ _ _ rfl, cell_new _ _ _ _ _ rfl, cell_new _ _ _ _ _ rfl, cell_new _ _ _ _ _ rfl, cell_new _ _ _ _ _ rfl⟩, below_trans b7 (alloc_below _ _)⟩

set_option maxHeartbeats 1600000 in
theorem rorder2_calls (n d m e : Int) (w : World) (hd : 0 < d) (he : 0 < e) (ln : (dg n).length ≤ 900) (ld : (dg d).length ≤ 900) (lm : (dg m).length ≤ 900) (le : (dg e).length ≤ 900) :
    Calls Tryz.prog 104 #[R n d, R m e] w fun r w' => r = .returned (.int .i64 (cmp3 (n * e) (m * d))) ∧ Below w.heap.size w w' := by
  have h1 := rcrossed_calls n d m e w hd he ln ld lm le
  have o1 : ∀ {a b : Int}, (dg a).length ≤ 900 → (dg b).length ≤ 900 → (dg (a * b)).length ≤ 1900 := fun h k => dg_mul (by omega) (by omega)
  have h2 := fun w => rorder_calls (n * e) (m * d) w (o1 (by omega) (by omega)) (o1 (by omega) (by omega))
  generalize hx : R n d = x at h1 ⊢
  generalize hy : R m e = y at h1 ⊢
  obtain ⟨sx, rfl⟩ : ∃ s, x = .string s := ⟨_, hx.symm⟩
  obtain ⟨sy, rfl⟩ : ∃ s, y = .string s := ⟨_, hy.symm⟩
  obtain ⟨a1, e1⟩ : ∃ s, S (n * e) = .string s := ⟨_, rfl⟩
  obtain ⟨a2, e2⟩ : ∃ s, S (m * d) = .string s := ⟨_, rfl⟩
  rw [e1, e2] at h1 h2
  generalize cmp3 (n * e) (m * d) = o at h2 ⊢
  have H := Lib.hid (And.intro h1 h2)
  clear h1 h2 e1 e2 hx hy hd he ln ld lm le
  go_enter Tryz.func104, Tryz.ntmps104
  go_wp2_with fail
  refine H.out.1.mono ?_
  rintro r w1 ⟨⟨B, rfl, c1, c2, -⟩, hb1⟩
  have k1 := cell_regrown c1
  have k2 := cell_regrown c2
  have q1 : ∀ d os, Calls Tryz.prog 146 #[.string a1, .string a2] (grow (redrawn w1 d) os) fun e w'' => e = .returned (.int .i64 o) ∧ ∃ p : Regrown, w'' = grow (redrawn w1 p.d) p.os := fun d os => Calls.regrown_of (H.out.2 _)
  clear c1 c2
  go_wp2_with fail
  refine wp_region_quiet_below follows (by kernel_rfl) ?_
  repeat (quiet_step (with_reducible exact q1 _ _))
  refine wpQuiet_nil ?_
  intro _ hw'
  obtain ⟨⟨dq, osq⟩, hw''⟩ := hw'
  subst hw''
  go_wp2_with fail
  go_ret
  exact ⟨rfl, below_trans hb1 (below_regrown w1 dq osq)⟩

end Go.Proofs.YtgdlfjofefhdoaaGreatDoor
