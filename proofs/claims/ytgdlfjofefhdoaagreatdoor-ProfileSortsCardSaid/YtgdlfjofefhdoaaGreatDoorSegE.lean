/- The reference's far, tol, Times, Beyond, Nearest, Within. -/
import Derived.Test.YtgdlfjofefhdoaaGreatDoorSegD
import Derived.Test.YtgdlfjofefhdoaaGreatDoorProfI
namespace Go.Proofs.YtgdlfjofefhdoaaGreatDoor
open Go.RowKit Go.Sort Go.Lib Go.Shelf Mb

attribute [local go_sem] Oper.semAt_some

theorem cmp3_gt {a b : Int} : 0 < cmp3 a b ↔ b < a := by
  unfold cmp3
  split
  · omega
  · split <;> omega

/-- a distance against a tolerance -/
def farB (t y n d : Int) : Bool := decide (t * t * d < n * (y * y))

theorem beyB_eq {t y n d : Int} (hy : 0 < y) : beyB (mostN t y) (mostD t y) n d = farB t y n d := by
  have hyy : 0 < y * y := Int.mul_pos hy hy
  have hD : 0 < rd (t * t) (y * y) := rd_pos (by omega)
  have hx := r_cross (t * t) (y * y)
  unfold beyB farB mostN mostD
  generalize rn (t * t) (y * y) = N at *
  generalize rd (t * t) (y * y) = D at *
  generalize t * t = a at *
  generalize y * y = b at *
  apply decide_eq_decide.2
  have k1 : N * d * b = D * (a * d) := by
    calc N * d * b = (N * b) * d := by grind
      _ = (a * D) * d := by rw [hx]
      _ = D * (a * d) := by grind
  have k2 : n * D * b = D * (n * b) := by grind
  rw [cmp3_gt]
  constructor
  · intro h
    have h1 := Int.mul_lt_mul_of_pos_right h hyy
    rw [k1, k2] at h1
    exact Int.lt_of_mul_lt_mul_left h1 (Int.le_of_lt hD)
  · intro h
    have h1 := Int.mul_lt_mul_of_pos_left h hD
    rw [← k1, ← k2] at h1
    exact Int.lt_of_mul_lt_mul_right h1 (Int.le_of_lt hyy)

theorem tsq {t : Int} (h0 : 0 ≤ t) (h1 : t ≤ 100000) : 0 ≤ t * t ∧ t * t ≤ 10000000000 := by
  have := Mb.mul_bd (A := 100000) (C := 100000) (a := t) (b := t) (by omega) (by omega)
  have := Int.mul_nonneg h0 h0
  omega

set_option maxHeartbeats 1600000 in
theorem rfar37_calls (n d t : Int) (w : World) (hd : 0 < d) (ln : (dg n).length ≤ 900) (ld : (dg d).length ≤ 900) (h0 : 0 ≤ t) (h1 : t ≤ 100000) :
    Calls Tryz.prog 100 #[R n d, .int .i64 t] w fun e w' => e = .returned (.bool (farB t 1 n d)) ∧ Below w.heap.size w w' := by
  obtain ⟨t0, t1⟩ := tsq h0 h1
  have HW := fun w => rwhole_calls (t * t) w t0 (by omega)
  have l1 : (dg (t * t)).length ≤ 900 := by have := dg_of_lt (n := t * t) (k := 11) (by omega) (by omega); omega
  have l2 : (dg 1).length ≤ 900 := by have := dg_of_lt (n := 1) (k := 1) (by omega) (by omega); omega
  have HO := fun w => rorder2_calls n d (t * t) 1 w hd (by omega) ln ld l1 l2
  rw [R_one, Int.mul_one] at HO
  have hb : farB t 1 n d = decide (0 < cmp3 n (t * t * d)) := by
    unfold farB; apply decide_eq_decide.2; rw [cmp3_gt]; simp
  rw [hb]
  have hcb := cmp3_bd n (t * t * d)
  generalize cmp3 n (t * t * d) = o at HO hcb ⊢
  generalize hx : R n d = x at HO ⊢
  obtain ⟨sx, rfl⟩ : ∃ s, x = .string s := ⟨_, hx.symm⟩
  obtain ⟨st, hst⟩ : ∃ s, S (t * t) = .string s := ⟨_, rfl⟩
  rw [hst] at HW HO
  have H := Lib.hid (And.intro HW HO)
  clear HW HO hst hx hb l1 l2 hd ln ld
  go_enter Tryz.func100, Tryz.ntmps100
  go_wp2_with fail
  refine (H.out.1 _).mono ?_
  rintro r w1 ⟨rfl, hb1⟩
  go_wp2_with fail
  refine (H.out.2 _).mono ?_
  rintro r w2 ⟨rfl, hb2⟩
  go_wp2_with fail
  go_ret
  exact ⟨rfl, below_trans hb1 hb2⟩

theorem rtol_calls (t : Int) (w : World) :
    Calls Tryz.prog 92 #[.int .i64 t] w fun e w' => e = .returned (.bool (tolB t)) ∧ w' = w := by
  by_cases h1 : 0 ≤ t
  · by_cases h2 : t ≤ 100000
    · go_enter Tryz.func92, Tryz.ntmps92
      go_wp2_with fail
      go_ret
      exact ⟨ret_b (by simp [tolB, h1, h2]), rfl⟩
    · go_enter Tryz.func92, Tryz.ntmps92
      go_wp2_with fail
      go_ret
      exact ⟨ret_b (by simp [tolB, h1, h2]), rfl⟩
  · go_enter Tryz.func92, Tryz.ntmps92
    go_wp2_with fail
    go_ret
    exact ⟨ret_b (by simp [tolB]; omega), rfl⟩

set_option maxHeartbeats 1600000 in
/-- four times a distance -/
theorem rtimes4_calls (n d : Int) (w : World) (h : Dst n d) :
    Calls Tryz.prog 141 #[.string ⟨#[52]⟩, R n d] w fun e w' => e = .returned (R (rn (4 * n) d) (rd (4 * n) d)) ∧ Below w.heap.size w w' := by
  have h4 : R 4 1 = .string ⟨#[52]⟩ := by
    rw [R_one]
    show Value.string ⟨(itoa (4 : Nat)).toArray⟩ = _
    rw [Mb.itoa_nonneg (by omega)]
    simp [decDigits]
  rw [← h4]
  have hl := dst_l h
  have hp := h.r.pos
  have l4 : (dg 4).length ≤ 900 := by have := dg_of_lt (n := 4) (k := 1) (by omega) (by omega); omega
  have l2 : (dg 1).length ≤ 900 := by have := dg_of_lt (n := 1) (k := 1) (by omega) (by omega); omega
  have h1 := rcrossed_calls 4 1 n d w (by omega) hp l4 l2 hl.1 hl.2
  rw [show (1 : Int) * d = d by omega] at h1
  have n0 := h.n0
  have n1 := h.n1
  have lm : (dg (4 * n)).length ≤ 900 := by have := dg_of_lt (n := 4 * n) (k := 24) (by omega) (by omega); omega
  have h2 := fun w => rlowest_calls (4 * n) d w (by omega) hp lm hl.2
  generalize hx : R 4 1 = x at h1 ⊢
  generalize hy : R n d = y at h1 ⊢
  obtain ⟨sx, rfl⟩ : ∃ s, x = .string s := ⟨_, hx.symm⟩
  obtain ⟨sy, rfl⟩ : ∃ s, y = .string s := ⟨_, hy.symm⟩
  obtain ⟨a1, e1⟩ : ∃ s, S (4 * n) = .string s := ⟨_, rfl⟩
  obtain ⟨a2, e2⟩ : ∃ s, S d = .string s := ⟨_, rfl⟩
  rw [e1, e2] at h1 h2
  obtain ⟨a3, e3⟩ : ∃ s, R (rn (4 * n) d) (rd (4 * n) d) = .string s := ⟨_, rfl⟩
  rw [e3] at h2 ⊢
  have H := Lib.hid (And.intro h1 h2)
  clear h1 h2 e1 e2 e3 hx hy h4 hl l4 l2 lm h hp n0 n1
  go_enter Tryz.func141, Tryz.ntmps141
  go_wp2_with fail
  refine H.out.1.mono ?_
  rintro r w1 ⟨⟨B, rfl, -, -, c1, c2, -⟩, hb1⟩
  have k1 := cell_regrown c1
  have k2 := cell_regrown c2
  have q1 : ∀ d os, Calls Tryz.prog 127 #[.string a1, .string a2] (grow (redrawn w1 d) os) fun e w'' => e = .returned (.string a3) ∧ ∃ p : Regrown, w'' = grow (redrawn w1 p.d) p.os := fun d os => Calls.regrown_of (H.out.2 _)
  clear c1 c2
  go_wp2_with fail
  refine wp_region_quiet_below follows (by kernel_rfl) ?_
  repeat (quiet_step (with_reducible exact q1 _ _))
  refine wpQuiet_nil ?_
  intro _ hw'
  obtain ⟨⟨dq, osq⟩, hw''⟩ := hw'
  subst hw''
  go_wp2_with fail
  go_ret
  exact ⟨rfl, below_trans hb1 (below_regrown w1 dq osq)⟩

/-- four times a distance against a tolerance -/
theorem far4 {t n d : Int} (hd : 0 < d) : farB t 1 (rn (4 * n) d) (rd (4 * n) d) = farB t 2 n d := by
  have hD : 0 < rd (4 * n) d := rd_pos (by omega)
  have hx := r_cross (4 * n) d
  unfold farB
  generalize rn (4 * n) d = N at *
  generalize rd (4 * n) d = D at *
  generalize t * t = a
  apply decide_eq_decide.2
  rw [show (1 : Int) * 1 = 1 from rfl, show (2 : Int) * 2 = 4 from rfl, Int.mul_one]
  have k1 : a * D * d = D * (a * d) := by grind
  have k2 : N * d = D * (n * 4) := by rw [hx]; grind
  constructor
  · intro h
    have h1 := Int.mul_lt_mul_of_pos_right h hd
    rw [k1, k2] at h1
    exact Int.lt_of_mul_lt_mul_left h1 (Int.le_of_lt hD)
  · intro h
    have h1 := Int.mul_lt_mul_of_pos_left h hD
    rw [← k1, ← k2] at h1
    exact Int.lt_of_mul_lt_mul_right h1 (Int.le_of_lt hd)

/-- a nearest segment against a tolerance -/
def ndB (t y : Int) (b : Option (Int × Int × Nat)) : Bool := match b with | none => false | some (n, d, _) => farB t y n d
theorem btB_eq {t y : Int} (hy : 0 < y) (b : Option (Int × Int × Nat)) : btB (mostN t y) (mostD t y) b = ndB t y b := by
  cases b with
  | none => rfl
  | some b => exact beyB_eq hy

set_option maxRecDepth 100000 in
set_option maxHeartbeats 1600000 in
theorem rbeyond_calls (l : List P2) (a : Option Addr) (cap : Nat) (c : Bool) (p : P2) (t : Int) (w : World) (hT : Sl2 w a l) (he : pErr l c = 0) (hp : flatB p = true) (h0 : 0 ≤ t) (h1 : t ≤ 100000) :
    Calls Tryz.prog 93 #[.slice a l.length cap, .bool c, V p, .int .i64 t] w fun e w' => e = .returned (.bool (ndB t 2 (nrst l c p))) ∧ Below w.heap.size w w' := by
  have hal := alloc_below w (B2 p 23)
  have HN := rnear_calls l a cap c p (w.alloc (B2 p 23)) (hT.to hal) he hp
  obtain ⟨⟨n, d, j⟩, hb⟩ := nrst_some (p := p) he
  have hok := nrst_ok (l := l) (c := c) hp
  rw [hb] at HN hok ⊢
  have hd := hok.1
  have h4 := fun w => rtimes4_calls n d w hd
  have hpos := hd.r.pos
  have n0 := hd.n0
  have n1 := hd.n1
  have hle := rn_le (n := 4 * n) (d := d) (by omega) hpos
  have hrd : 0 < rd (4 * n) d := rd_pos (by omega)
  have hrd2 : rd (4 * n) d ≤ d := by
    have g := gcd_le (n := 4 * n) hpos
    unfold rd; rw [rg_of_pos hpos]
    exact Int.ediv_le_self _ (by omega)
  have d1 := hd.d1
  have hf := fun w => rfar37_calls (rn (4 * n) d) (rd (4 * n) d) t w hrd (by have := dg_of_lt (n := rn (4 * n) d) (k := 24) (by omega) (by omega); omega) (by have := dg_of_lt (n := rd (4 * n) d) (k := 12) (by omega) (by omega); omega) h0 h1
  rw [far4 hpos] at hf
  show Calls _ _ _ _ fun e w' => e = .returned (.bool (farB t 2 n d)) ∧ _
  generalize farB t 2 n d = fb at hf ⊢
  have e1 : bV (some (n, d, j)) = R n d := rfl
  rw [e1] at HN
  obtain ⟨av, hav⟩ : ∃ v, aV (some (n, d, j)) = v := ⟨_, rfl⟩
  rw [hav] at HN
  obtain ⟨sx, hsx⟩ : ∃ s, R n d = .string s := ⟨_, rfl⟩
  rw [hsx] at HN h4
  obtain ⟨sy, hsy⟩ : ∃ s, R (rn (4 * n) d) (rd (4 * n) d) = .string s := ⟨_, rfl⟩
  rw [hsy] at hf h4
  have H := Lib.hid (And.intro hal (And.intro h4 hf))
  clear hT he hp hal h4 hf hav hsx hsy hok hd hpos n0 n1 hle hrd hrd2 d1 hb e1
  go_enter Tryz.func93, Tryz.ntmps93
  go_wp2_with fail
  refine HN.mono ?_
  rintro r w1 ⟨rfl, hb1⟩
  clear HN
  go_wp2_with fail
  refine (H.out.2.1 _).mono ?_
  rintro r w2 ⟨rfl, hb2⟩
  go_wp2_with fail
  refine (H.out.2.2 _).mono ?_
  rintro r w3 ⟨rfl, hb3⟩
  go_wp2_with fail
  go_ret
  exact ⟨rfl, below_trans (below_trans (below_trans H.out.1 hb1) hb2) hb3⟩

end Go.Proofs.YtgdlfjofefhdoaaGreatDoor
