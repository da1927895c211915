/- The reference's long division: divided, Parted, Shared. The reference's integers and quotients: Parted, Shared, Lowest. -/
import Derived.Test.YtgdlfjofefhdoaaGreatDoorPapB
import Derived.Laws.Strings2
import Derived.Test.YtgdlfjofefhdoaaGreatDoorRatCE
namespace Go.Proofs.YtgdlfjofefhdoaaGreatDoor
open Go.RowKit Go.Sort Go.Lib Mb

theorem cat2 (l m : List UInt8) : (⟨l.toArray⟩ : ByteArray) ++ ⟨m.toArray⟩ = ⟨(l ++ m).toArray⟩ := by
  apply ByteArray.ext
  rw [ByteArray.data_append]
  apply Array.ext'
  simp

theorem ext_one (l : List UInt8) (i : Nat) (hi : i < l.length) : (⟨l.toArray⟩ : ByteArray).extract i (i + 1) = ⟨[l[i]].toArray⟩ := by
  apply ByteArray.ext
  apply Array.ext'
  rw [Lib.extract_data]
  show (l.drop i).take (i + 1 - i) = [l[i]]
  rw [show i + 1 - i = 1 by omega, List.drop_eq_getElem_cons hi]
  rfl

theorem dig_snoc {l : List UInt8} {b : UInt8} (h : Dig l) (hb : 48 ≤ b.toNat ∧ b.toNat ≤ 57) : Dig (l ++ [b]) := fun x hx => by
  rcases List.mem_append.1 hx with h1 | h1
  · exact h x h1
  · obtain rfl := List.mem_singleton.1 h1; exact hb

theorem dec_len_mono {u v : Nat} (h : u ≤ v) : (decDigits u).length ≤ (decDigits v).length := by
  have h0 : 1 ≤ (decDigits v).length := List.length_pos_iff.2 (decDigits_ne v)
  exact (decDigits_len_le h0).2 (Nat.lt_of_le_of_lt h ((decDigits_len_le h0).1 (Nat.le_refl _)))

theorem dec_len_snoc (r x : Nat) (hx : x ≤ 9) : (decDigits (r * 10 + x)).length ≤ (decDigits r).length + 1 := by
  have h0 : 1 ≤ (decDigits r).length := List.length_pos_iff.2 (decDigits_ne r)
  have h1 := (decDigits_len_le h0).1 (Nat.le_refl (decDigits r).length)
  refine (decDigits_len_le (by omega)).2 ?_
  rw [Nat.pow_succ]
  omega

set_option maxRecDepth 100000 in
set_option maxHeartbeats 3200000 in
theorem divided_calls' (u v : Nat) (w : World) (hv : 0 < v) (lu : (decDigits u).length ≤ 1000) (lv : (decDigits v).length ≤ 1000) :
    Calls Tryz.prog 182 #[Dd u, Dd v] w fun e w' => e = .returned (.tuple #[Dd (u / v), Dd (u % v)]) ∧ Below w.heap.size w w' := by
  obtain ⟨a, ha⟩ : ∃ la, la = decDigits u := ⟨_, rfl⟩
  obtain ⟨sa, hsa⟩ : ∃ s : ByteArray, s = ⟨a.toArray⟩ := ⟨_, rfl⟩
  obtain ⟨sb, hsb⟩ : ∃ s : ByteArray, s = ⟨(decDigits v).toArray⟩ := ⟨_, rfl⟩
  have za : sa.size = a.length := by rw [hsa]; simp [ByteArray.size]
  have hda : Dig a := by rw [ha]; exact dig_decDigits _
  have hless : ∀ (m : Nat) (sm : ByteArray) w, sm = ⟨(decDigits m).toArray⟩ → (decDigits m).length ≤ 2000 → Calls Tryz.prog 186 #[.string sm, .string sb] w fun e w' => e = .returned (.bool (decide (m < v))) ∧ w = w' := fun m sm w h hl => by
    rw [h, hsb]; exact less_calls' m v w hl (by omega)
  have hpap : ∀ (m : Nat) (sm sr : ByteArray) w, sm = ⟨(decDigits m).toArray⟩ → sr = ⟨(decDigits (m - v)).toArray⟩ → v ≤ m → (decDigits m).length ≤ 2000 → Calls Tryz.prog 185 #[.string sm, .string sb, .bool false] w fun e w' => e = .returned (.string sr) ∧ Below w.heap.size w w' := fun m sm sr w h h2 hle hl => by
    rw [h, h2, hsb]
    have := paper_calls m v false (-1) w rfl (fun _ => hle) hl (by omega)
    rwa [show ((m : Int) + -1 * v).toNat = m - v by omega] at this
  show Calls _ _ #[.string ⟨(decDigits u).toArray⟩, .string ⟨(decDigits v).toArray⟩] w _
  rw [← ha, ← hsb, ← hsa]
  rw [← ha] at lu
  have b1 : sa.size ≤ 1000 := by omega
  have hd0 : decDigits 0 = [48] := by rw [decDigits]; rfl
  have HA := Lib.hid (And.intro ha (And.intro hsa (And.intro hsb (And.intro za (And.intro hda (And.intro hless (And.intro hpap (And.intro lv hd0))))))))
  clear ha hsa hsb za hda hless hpap lu lv hd0
  go_enter Tryz.func182, Tryz.ntmps182
  go_wp2_with fail
  go_loopg [6, 7, 8] sa.size (fun g qv rv iv wr => ∃ (i r : Nat) (q : List UInt8) (sq sr : ByteArray), i + g = sa.size ∧ iv = .int .i64 i ∧ qv = .string sq ∧ sq = ⟨q.toArray⟩ ∧ q.length = i ∧ Dig q ∧ rv = .string sr ∧ sr = ⟨(decDigits r).toArray⟩ ∧ dv (a.take i) = dv q * v + r ∧ r < v ∧ Below w.heap.size w wr)
  case atStart => exact ⟨0, 0, [], _, _, Nat.zero_add _, rfl, rfl, rfl, rfl, (fun _ h => by cases h), rfl, by rw [HA.out.2.2.2.2.2.2.2.2], by simp [dv_nil], hv, Below.refl _ _⟩
  case round =>
    obtain ⟨i, r, q, sq, sr, hi, rfl, rfl, hsq, hql, hqd, rfl, hsr, heq, hrv, hbel⟩ := hrel
    by_cases hlt : i < sa.size
    · have hil : i < a.length := by have := HA.out.2.2.2.1; omega
      obtain ⟨x, hx⟩ : ∃ x, x = a[i] := ⟨_, rfl⟩
      have hxd : 48 ≤ x.toNat ∧ x.toNat ≤ 57 := by rw [hx]; exact HA.out.2.2.2.2.1 _ (List.getElem_mem _)
      have hcat : sr ++ sa.extract i (i + 1) = ⟨(decDigits r ++ [x]).toArray⟩ := by rw [hsr, HA.out.2.1, ext_one a i hil, cat2, hx]
      have hnv : dv (decDigits r ++ [x]) = r * 10 + (x.toNat - 48) := by rw [dv_append, dv_one, dv_decDigits]; simp
      obtain ⟨m0, hm0⟩ : ∃ m0, m0 = r * 10 + (x.toNat - 48) := ⟨_, rfl⟩
      have lrv := dec_len_mono (Nat.le_of_lt hrv)
      have hrl : (decDigits r).length ≤ 1000 := by have := HA.out.2.2.2.2.2.2.2.1; omega
      have hBR := fun w => bare_calls (decDigits r ++ [x]) w (dig_snoc (dig_decDigits _) hxd) (by simp) (by simp; omega)
      rw [hnv, ← hm0] at hBR
      obtain ⟨sx, hsx⟩ : ∃ s : ByteArray, s = sr ++ sa.extract i (i + 1) := ⟨_, rfl⟩
      obtain ⟨s0, hs0⟩ : ∃ s : ByteArray, s = ⟨(decDigits m0).toArray⟩ := ⟨_, rfl⟩
      have hBR' : ∀ w, Calls Tryz.prog 184 #[.string (sr ++ sa.extract i (i + 1))] w fun e w' => e = .returned (.string s0) ∧ w = w' := by
        rw [hcat, hs0]; exact hBR
      have hm10 : m0 < 10 * v := by omega
      have hml : (decDigits m0).length ≤ 1001 := by rw [hm0]; have := dec_len_snoc r (x.toNat - 48) (by omega); omega
      have htk := dvz_take hil
      rw [← hx] at htk
      have srz : sr.size ≤ 1000 := by rw [hsr]; simpa [ByteArray.size] using hrl
      have hex : (sa.extract i (i + 1)).size ≤ 1 := by rw [HA.out.2.1, ext_one a i hil]; simp [ByteArray.size]
      have sqz : sq.size ≤ 1000 := by rw [hsq]; simp [ByteArray.size]; omega
      have H := Lib.hid (And.intro hsq (And.intro hql (And.intro hqd (And.intro heq (And.intro hrv (And.intro hbel (And.intro hBR' (And.intro hs0 (And.intro hm10 (And.intro hml (And.intro htk (And.intro hm0 hxd))))))))))))
      clear hsq hql hqd heq hrv hbel hBR hBR' hs0 hm10 hml htk hm0 hxd hcat hnv hsx lrv hrl hsr hil hx
      have i1 : (i : Int) < sa.size := by omega
      have i2 : (i : Int) + 1 ≤ sa.size := by omega
      have i3 : (0 : Int) ≤ (i : Int) := by omega
      have ksl : ∀ w, (Instr.slice 9 (.string sa) (some (.int .i64 (i : Int))) (some (.int .i64 ((i : Int) + 1))) none).run Tryz.prog w = .ok (.string (sa.extract i (i + 1))) w := fun w => by
        have h := run_slice_string (P := Tryz.prog) w 9 sa .i64 .i64 (i : Int) ((i : Int) + 1) Tryz.underlying9 (by omega) (by omega) (by omega)
        rw [show ((i : Int) + 1).toNat = i + 1 by omega, Int.toNat_natCast] at h
        exact h
      go_wp2_with fail
      refine (H.out.2.2.2.2.2.2.1 _).mono ?_
      rintro e w1 ⟨rfl, rfl⟩
      clear ksl
      go_wp2_with fail
      go_loopg [7, 9] m0 (fun g mv dv' wr' => ∃ (d : Nat) (sm : ByteArray), mv = .string sm ∧ sm = ⟨(decDigits g).toArray⟩ ∧ dv' = .int .u8 (48 + (d : Int)) ∧ d ≤ 9 ∧ g + d * v = m0 ∧ Below wr.heap.size wr wr')
      case atStart => exact ⟨0, s0, rfl, H.out.2.2.2.2.2.2.2.1, by simp, by omega, by simp, Below.refl _ _⟩
      case round =>
        obtain ⟨d, sm, rfl, hsm, rfl, hd9, hgd, hbel2⟩ := hrel
        have hml : (decDigits gk).length ≤ 2000 := by
          have h1 : gk ≤ m0 := by omega
          have h2 := dec_len_mono h1
          have h3 := H.out.2.2.2.2.2.2.2.2.2.1
          omega
        have hL := fun w => HA.out.2.2.2.2.2.1 gk sm w hsm hml
        by_cases hge : v ≤ gk
        · rw [decide_eq_false (show ¬ gk < v by omega)] at hL
          obtain ⟨sr', hsr'⟩ : ∃ s : ByteArray, s = ⟨(decDigits (gk - v)).toArray⟩ := ⟨_, rfl⟩
          have hP := fun w => HA.out.2.2.2.2.2.2.1 gk sm sr' w hsm hsr' hge hml
          have hd8 : d + 1 ≤ 9 := by
            have h1 := H.out.2.2.2.2.2.2.2.2.1
            by_cases h : d + 1 ≤ 9
            · exact h
            · exfalso
              have h2 : 9 * v ≤ d * v := Nat.mul_le_mul_right _ (by omega)
              omega
          have HI := Lib.hid (And.intro hL (And.intro hP (And.intro hsr' (And.intro hgd hbel2))))
          have w1 : IntKind.u8.wrap (48 + (d : Int) + 1) = 48 + (d : Int) + 1 := IntWalk.u8_in _ (by omega)
          clear hL hP hsr' hgd hbel2 hsm
          go_wp2_with fail
          refine (HI.out.1 _).mono ?_
          rintro e w2 ⟨rfl, rfl⟩
          go_wp2_with fail
          refine (HI.out.2.1 _).mono ?_
          rintro e w3 ⟨rfl, hb⟩
          have HB := Lib.hid hb; clear hb
          go_wp2_with fail
          go_roundg (gk - v)
          case measure => omega
          case rel =>
            refine ⟨d + 1, sr', rfl, HI.out.2.2.1, ?_, hd8, ?_, below_trans HI.out.2.2.2.2 HB.out⟩
            · congr 1
            · rw [Nat.add_mul, ← HI.out.2.2.2.1]; omega
        · rw [decide_eq_true (show gk < v by omega)] at hL
          obtain ⟨b, hb⟩ : ∃ b : UInt8, b = UInt8.ofNat (48 + d) := ⟨_, rfl⟩
          have hbv : (b.toNat : Int) = 48 + (d : Int) := by rw [hb, dig_b (by omega)]
          have kc := fun w => conv_one' w (48 + (d : Int)) b hbv
          obtain ⟨hsq, hql, hqd, heq, hrv, hbel, -, -, -, -, htk, hm0, hxd⟩ := H.out
          have hbd : 48 ≤ b.toNat ∧ b.toNat ≤ 57 := by omega
          have hnew : dv (a.take (i + 1)) = dv (q ++ [b]) * v + gk := by
            rw [dv_append, dv_one]
            have e1 : b.toNat - 48 = d := by omega
            rw [e1]
            have e2 : dv (a.take (i + 1)) = dv (a.take i) * 10 + (x.toNat - 48) := by omega
            rw [e2, heq]
            have e3 : (dv q * 10 ^ [b].length + d) * v = dv q * v * 10 + d * v := by
              rw [Nat.add_mul]; congr 1
              show dv q * 10 ^ 1 * v = _
              rw [Nat.pow_one, Nat.mul_right_comm]
            rw [e3]
            omega
          have HI := Lib.hid (And.intro hL (And.intro hsm (And.intro (dig_snoc hqd hbd) (And.intro hnew (And.intro (below_trans hbel hbel2) (And.intro hsq hql))))))
          clear hL hsm hgd hbel2 hb hbv hsq hql hqd heq hbel htk hm0 hxd hbd hnew hml hrv
          have i6 : gk < v := by omega
          go_wp2_with fail
          refine (HI.out.1 _).mono ?_
          rintro e w2 ⟨rfl, rfl⟩
          go_wp2_with fail
          go_roundg (sa.size - i - 1)
          case measure => omega
          case rel =>
            refine ⟨i + 1, gk, q ++ [b], _, sm, by omega, by go_num, rfl, ?_, ?_, HI.out.2.2.1, rfl, HI.out.2.1, HI.out.2.2.2.1, i6, below_trans HI.out.2.2.2.2.1 (alloc_below _ _)⟩
            · rw [HI.out.2.2.2.2.2.1]; exact cat2 q [b]
            · rw [List.length_append, HI.out.2.2.2.2.2.2]; rfl
    · obtain rfl : i = sa.size := by omega
      obtain ⟨ha, hsa, hsb, za, hda, hless, hpap, lv, hd0⟩ := HA.out
      have hu : u = dv q * v + r := by
        rw [List.take_of_length_le (by omega), ha, dv_decDigits] at heq
        exact heq
      have h1 : u / v = dv q := by rw [hu, Nat.add_comm, Nat.add_mul_div_right _ _ hv, Nat.div_eq_of_lt hrv, Nat.zero_add]
      have h2 : u % v = r := by rw [hu, Nat.add_comm, Nat.add_mul_mod_self_right, Nat.mod_eq_of_lt hrv]
      have hne : q ≠ [] := by
        intro e
        rw [e] at hql
        have : 0 < a.length := List.length_pos_iff.2 (by rw [ha]; exact decDigits_ne _)
        simp at hql; omega
      have hBR : ∀ w, Calls Tryz.prog 184 #[.string sq] w fun e w' => e = .returned (Dd (dv q)) ∧ w = w' := by
        rw [hsq]; exact fun w => bare_calls q w hqd hne (by omega)
      rw [← h1] at hBR
      have HI := Lib.hid (And.intro hBR (And.intro hsr (And.intro h2 hbel)))
      clear hBR hsr h1 h2 hbel hu hne hsq hql hqd heq hrv ha hsa hsb za hda hless hpap lv hd0 HA
      go_wp2_with fail
      refine (HI.out.1 _).mono ?_
      rintro e w2 ⟨rfl, rfl⟩
      go_wp2_with fail
      go_ret2
      refine ⟨?_, HI.out.2.2.2⟩
      show Ending.returned (.tuple #[Dd (u / v), .string sr]) = _
      rw [HI.out.2.1, HI.out.2.2.1]

end Go.Proofs.YtgdlfjofefhdoaaGreatDoor

namespace Go.Proofs.YtgdlfjofefhdoaaGreatDoor
open Go.RowKit Go.Sort Go.Lib Mb

theorem ret_S {x y : Int} (h : x = y) : Ending.returned (S x) = .returned (S y) := by rw [h]

theorem len_le_of {a b : Int} (h0 : 0 ≤ a) (h : a ≤ b) : (dg a).length ≤ (dg b).length := dec_len_mono (by omega)

theorem ediv_bd {a b : Int} (h0 : 0 ≤ a) (hb : 0 < b) : 0 ≤ a / b ∧ a / b ≤ a := ⟨Int.ediv_nonneg h0 (by omega), Int.ediv_le_self _ h0⟩

set_option maxHeartbeats 800000 in
theorem parted_short' (a b : Int) (w : World) (h0 : 0 ≤ a) (hb : 0 < b) (la : (dg a).length ≤ 18) (lb : (dg b).length ≤ 18) :
    Calls Tryz.prog 158 #[S a, S b] w fun e w' => e = .returned (.tuple #[S (a / b), S (a % b)]) ∧ Below w.heap.size w w' := by
  have h1 := fun w => brief_yes a b w la lb
  have ha18 : a.natAbs < 1000000000000000000 := abs_lt (k := 18) (by omega) la
  have hq := ediv_bd h0 hb
  have hr0 := Int.emod_nonneg a (show b ≠ 0 by omega)
  have hrb := Int.emod_lt_of_pos a hb
  have hb18 : b.natAbs < 1000000000000000000 := abs_lt (k := 18) (by omega) lb
  have h2 := fun w => rof_pos (a / b) w hq.1 (by omega)
  have h3 := fun w => rof_pos (a % b) w hr0 (by omega)
  have hsub : (a - a % b) / b = a / b := by
    have e := Int.emod_add_mul_ediv a b
    have : a - a % b = b * (a / b) := by omega
    rw [this, Int.mul_ediv_cancel_left _ (by omega)]
  have hsb : 0 ≤ a - a % b := by
    have e := Int.emod_add_mul_ediv a b
    have := Int.mul_nonneg (Int.le_of_lt hb) hq.1
    omega
  obtain ⟨r, hr⟩ : ∃ r, a % b = r := ⟨_, rfl⟩
  obtain ⟨q, hq'⟩ : ∃ q, a / b = q := ⟨_, rfl⟩
  rw [hr] at h3 hr0 hrb hsub hsb ⊢
  rw [hq'] at h2 hq hsub ⊢
  have w1 : a.tmod b = r := by rw [Int.tmod_eq_emod_of_nonneg h0]; exact hr
  have w2 : IntKind.i64.wrap (a - r) = a - r := IntWalk.i64_in _ (by omega)
  have w3 : (a - r).tdiv b = q := by rw [Int.tdiv_eq_ediv_of_nonneg hsb]; exact hsub
  have i1 : ¬ r < 0 := by omega
  have i2 : decide (r < 0) = false := decide_eq_false i1
  have i3 : ¬ b < 0 := by omega
  have i4 : decide (b < 0) = false := decide_eq_false i3
  have i5 : b ≠ 0 := by omega
  have b1 : 0 ≤ q ∧ q ≤ 1000000000000000000 := by omega
  have b2 : r ≤ 1000000000000000000 := by omega
  have H := Lib.hid (And.intro h1 (And.intro h2 h3))
  have hz : (r != 0) = true ∨ (r != 0) = false := by cases (r != 0) <;> simp
  obtain ⟨b3, b4⟩ := b1
  clear h1 h2 h3 hr hq' hsub ha18 hb18 la lb hq hr0 hrb
  rcases hz with hz | hz
  · go_enter Tryz.func158, Tryz.ntmps158
    go_wp2_with fail
    refine (H.out.1 _).mono ?_
    rintro e w1 ⟨rfl, rfl⟩
    go_wp2_with fail
    refine (H.out.2.1 _).mono ?_
    rintro e w2 ⟨rfl, hb1⟩
    go_wp2_with fail
    refine (H.out.2.2 _).mono ?_
    rintro e w3 ⟨rfl, hb2⟩
    have HB := Lib.hid (below_trans hb1 hb2)
    clear hb1 hb2
    go_wp2_with fail
    go_ret2
    exact ⟨rfl, HB.out⟩
  · go_enter Tryz.func158, Tryz.ntmps158
    go_wp2_with fail
    refine (H.out.1 _).mono ?_
    rintro e w1 ⟨rfl, rfl⟩
    go_wp2_with fail
    refine (H.out.2.1 _).mono ?_
    rintro e w2 ⟨rfl, hb1⟩
    go_wp2_with fail
    refine (H.out.2.2 _).mono ?_
    rintro e w3 ⟨rfl, hb2⟩
    have HB := Lib.hid (below_trans hb1 hb2)
    clear hb1 hb2
    go_wp2_with fail
    go_ret2
    exact ⟨rfl, HB.out⟩

theorem toNat_div {a b : Int} (h0 : 0 ≤ a) (hb : 0 < b) : sgd false (a.natAbs / b.natAbs) = a / b := by
  unfold sgd
  obtain ⟨m, rfl⟩ := Int.eq_ofNat_of_zero_le h0
  obtain ⟨n, rfl⟩ := Int.eq_ofNat_of_zero_le (Int.le_of_lt hb)
  simp
theorem toNat_mod {a b : Int} (h0 : 0 ≤ a) (hb : 0 < b) : ((a.natAbs % b.natAbs : Nat) : Int) = a % b := by
  obtain ⟨m, rfl⟩ := Int.eq_ofNat_of_zero_le h0
  obtain ⟨n, rfl⟩ := Int.eq_ofNat_of_zero_le (Int.le_of_lt hb)
  simp

set_option maxHeartbeats 1600000 in
theorem parted_long' (a b : Int) (w : World) (h0 : 0 ≤ a) (hb : 0 < b) (la : (dg a).length ≤ 900) (lb : (dg b).length ≤ 900) (h18 : 18 < (dg a).length ∨ 18 < (dg b).length) :
    Calls Tryz.prog 158 #[S a, S b] w fun e w' => e = .returned (.tuple #[S (a / b), S (a % b)]) ∧ Below w.heap.size w w' := by
  have hqb := ediv_bd h0 hb
  have lq := len_le_of hqb.1 hqb.2
  have hmul : a / b * b = a - a % b := by have e := Int.emod_add_mul_ediv a b; rw [Int.mul_comm]; omega
  have hr0 := Int.emod_nonneg a (show b ≠ 0 by omega)
  have hle : 0 ≤ a / b * b := Int.mul_nonneg hqb.1 (by omega)
  have lm := len_le_of hle (show a / b * b ≤ a by omega)
  have h1 := fun w => brief_no a b w (by omega) (by omega) h18
  have h2 := fun w => size_calls a w (by omega)
  have h3 := fun w => size_calls b w (by omega)
  have h4 := fun w => divided_calls' a.natAbs b.natAbs w (by omega) (by show (dg a).length ≤ 1000; omega) (by show (dg b).length ≤ 1000; omega)
  have h5 := fun w => below_calls a w
  have h6 := fun w => below_calls b w
  have h7 := fun w => signed_calls (a.natAbs / b.natAbs) false w (by
    have : (decDigits (a.natAbs / b.natAbs)).length ≤ (decDigits a.natAbs).length := dec_len_mono (Nat.div_le_self _ _)
    have l : (decDigits a.natAbs).length ≤ 900 := la
    omega)
  rw [toNat_div h0 hb] at h7
  have h8 := fun w => rtimes_calls (a / b) b w (by omega) lb
  have h9 := fun w => rminus_calls a (a / b * b) w (by omega) (by omega)
  rw [show a - a / b * b = a % b by omega] at h9
  rw [decide_eq_false (show ¬ a < 0 by omega)] at h5
  rw [decide_eq_false (show ¬ b < 0 by omega)] at h6
  obtain ⟨sr, hsr⟩ : ∃ s : ByteArray, s = ⟨(decDigits (a.natAbs % b.natAbs)).toArray⟩ := ⟨_, rfl⟩
  have h4' : ∀ w, Calls Tryz.prog 182 #[Dd a.natAbs, Dd b.natAbs] w fun e w' => e = .returned (.tuple #[Dd (a.natAbs / b.natAbs), .string sr]) ∧ Below w.heap.size w w' := by rw [hsr]; exact h4
  obtain ⟨z, hz⟩ : ∃ z, a.natAbs / b.natAbs = z := ⟨_, rfl⟩
  rw [hz] at h4' h7
  have H := Lib.hid (And.intro h1 (And.intro h2 (And.intro h3 (And.intro h4' (And.intro h5 (And.intro h6 (And.intro h7 (And.intro h8 h9))))))))
  have hd : sr.toList = [48] ∨ (sr.toList == [48]) = false := by
    by_cases h : sr.toList = [48]
    · exact .inl h
    · exact .inr (beq_eq_false_iff_ne.2 h)
  clear h1 h2 h3 h4 h4' h5 h6 h7 h8 h9 hsr hz lq lm hqb hmul hr0 hle la lb h18 h0 hb
  rcases hd with hd | hd
  · go_enter Tryz.func158, Tryz.ntmps158
    go_wp2_with fail
    refine (H.out.1 _).mono ?_
    rintro e w1 ⟨rfl, rfl⟩
    go_wp2_with fail
    refine (H.out.2.1 _).mono ?_
    rintro e w2 ⟨rfl, rfl⟩
    go_wp2_with fail
    refine (H.out.2.2.1 _).mono ?_
    rintro e w3 ⟨rfl, rfl⟩
    go_wp2_with fail
    refine (H.out.2.2.2.1 _).mono ?_
    rintro e w4 ⟨rfl, hb1⟩
    have HB1 := Lib.hid hb1; clear hb1
    go_wp2_with fail
    refine (H.out.2.2.2.2.1 _).mono ?_
    rintro e w5 ⟨rfl, rfl⟩
    go_wp2_with fail
    refine (H.out.2.2.2.2.2.1 _).mono ?_
    rintro e w6 ⟨rfl, rfl⟩
    go_wp2_with fail
    refine (H.out.2.2.2.2.2.2.1 _).mono ?_
    rintro e w7 ⟨rfl, rfl⟩
    go_wp2_with fail
    refine (H.out.2.2.2.2.2.2.2.1 _).mono ?_
    rintro e w8 ⟨rfl, hb2⟩
    have HB2 := Lib.hid (below_trans HB1.out hb2); clear hb2
    go_wp2_with fail
    refine (H.out.2.2.2.2.2.2.2.2 _).mono ?_
    rintro e w9 ⟨rfl, hb3⟩
    have HB3 := Lib.hid (below_trans HB2.out hb3); clear hb3
    go_wp2_with fail
    go_ret2
    exact ⟨rfl, HB3.out⟩
  · go_enter Tryz.func158, Tryz.ntmps158
    go_wp2_with fail
    refine (H.out.1 _).mono ?_
    rintro e w1 ⟨rfl, rfl⟩
    go_wp2_with fail
    refine (H.out.2.1 _).mono ?_
    rintro e w2 ⟨rfl, rfl⟩
    go_wp2_with fail
    refine (H.out.2.2.1 _).mono ?_
    rintro e w3 ⟨rfl, rfl⟩
    go_wp2_with fail
    refine (H.out.2.2.2.1 _).mono ?_
    rintro e w4 ⟨rfl, hb1⟩
    have HB1 := Lib.hid hb1; clear hb1
    go_wp2_with fail
    refine (H.out.2.2.2.2.1 _).mono ?_
    rintro e w5 ⟨rfl, rfl⟩
    go_wp2_with fail
    refine (H.out.2.2.2.2.2.1 _).mono ?_
    rintro e w6 ⟨rfl, rfl⟩
    go_wp2_with fail
    refine (H.out.2.2.2.2.2.2.1 _).mono ?_
    rintro e w7 ⟨rfl, rfl⟩
    go_wp2_with fail
    refine (H.out.2.2.2.2.1 _).mono ?_
    rintro e w7 ⟨rfl, rfl⟩
    go_wp2_with fail
    refine (H.out.2.2.2.2.2.1 _).mono ?_
    rintro e w7 ⟨rfl, rfl⟩
    go_wp2_with fail
    refine (H.out.2.2.2.2.2.2.2.1 _).mono ?_
    rintro e w8 ⟨rfl, hb2⟩
    have HB2 := Lib.hid (below_trans HB1.out hb2); clear hb2
    go_wp2_with fail
    refine (H.out.2.2.2.2.2.2.2.2 _).mono ?_
    rintro e w9 ⟨rfl, hb3⟩
    have HB3 := Lib.hid (below_trans HB2.out hb3); clear hb3
    go_wp2_with fail
    go_ret2
    exact ⟨rfl, HB3.out⟩

theorem rparted_calls (a b : Int) (w : World) (h0 : 0 ≤ a) (hb : 0 < b) (la : (dg a).length ≤ 900) (lb : (dg b).length ≤ 900) :
    Calls Tryz.prog 158 #[S a, S b] w fun e w' => e = .returned (.tuple #[S (a / b), S (a % b)]) ∧ Below w.heap.size w w' := by
  by_cases h : (dg a).length ≤ 18 ∧ (dg b).length ≤ 18
  · exact parted_short' a b w h0 hb h.1 h.2
  · exact parted_long' a b w h0 hb la lb (by omega)

set_option maxRecDepth 100000 in
set_option maxHeartbeats 3200000 in
theorem rshared_calls (a b : Int) (w : World) (h0 : 0 ≤ a) (hb : 0 ≤ b) (la : (dg a).length ≤ 900) (lb : (dg b).length ≤ 900) :
    Calls Tryz.prog 156 #[S a, S b] w fun e w' => e = .returned (S (Int.gcd a b)) ∧ Below w.heap.size w w' := by
  have h1 := fun w => size_calls a w (by omega)
  have h2 := fun w => size_calls b w (by omega)
  have h3 := fun w => signed_calls a.natAbs false w (by have l : (decDigits a.natAbs).length ≤ 900 := la; omega)
  have h4 := fun w => signed_calls b.natAbs false w (by have l : (decDigits b.natAbs).length ≤ 900 := lb; omega)
  rw [show sgd false a.natAbs = a by simp [sgd]; omega] at h3
  rw [show sgd false b.natAbs = b by simp [sgd]; omega] at h4
  have H := Lib.hid (And.intro h1 (And.intro h2 (And.intro h3 h4)))
  have HL := Lib.hid (And.intro la lb)
  clear h1 h2 h3 h4 la lb
  go_enter Tryz.func156, Tryz.ntmps156
  go_wp2_with fail
  refine (H.out.1 _).mono ?_
  rintro e w1 ⟨rfl, rfl⟩
  go_wp2_with fail
  refine (H.out.2.2.1 _).mono ?_
  rintro e w2 ⟨rfl, rfl⟩
  go_wp2_with fail
  refine (H.out.2.1 _).mono ?_
  rintro e w3 ⟨rfl, rfl⟩
  go_wp2_with fail
  refine (H.out.2.2.2 _).mono ?_
  rintro e w4 ⟨rfl, rfl⟩
  clear H
  go_wp2_with fail
  go_loopg [0, 1] b.toNat (fun g p q wr => ∃ (x y : Int) (sy : ByteArray), p = S x ∧ q = .string sy ∧ sy = ⟨(itoa y).toArray⟩ ∧ 0 ≤ x ∧ 0 ≤ y ∧ y.toNat = g ∧ (dg x).length ≤ 900 ∧ (dg y).length ≤ 900 ∧ Int.gcd x y = Int.gcd a b ∧ Below w.heap.size w wr)
  case atStart => exact ⟨a, b, _, rfl, rfl, rfl, h0, hb, rfl, HL.out.1, HL.out.2, rfl, Below.refl _ _⟩
  case round =>
    obtain ⟨x, y, sy, rfl, rfl, hsy, hx0, hy0, hyg, lx, ly, hgc, hbel⟩ := hrel
    have hz := S_eq_zero y sy hsy
    by_cases hy : y = 0
    · rw [decide_eq_true hy] at hz
      have hl : sy.toList = [48] := by simpa using hz
      have hf : x = Int.gcd a b := by rw [← hgc, hy]; simp; omega
      have HF := Lib.hid (And.intro hf hbel)
      clear hsy hyg lx ly hgc hbel hz hf hy hy0
      go_wp2_with fail
      go_ret
      exact ⟨ret_S HF.out.1, HF.out.2⟩
    · rw [decide_eq_false hy] at hz
      have hl : ¬ sy.toList = [48] := by simpa using hz
      have hypos : 0 < y := by omega
      have eS : S y = .string sy := by rw [hsy]
      by_cases hs : (dg x).length ≤ 18 ∧ (dg y).length ≤ 18
      · have hB := fun w => brief_yes x y w hs.1 hs.2
        simp only [eS] at hB
        have hx18 : x.natAbs < 1000000000000000000 := abs_lt (k := 18) (by omega) hs.1
        have hy18 : y.natAbs < 1000000000000000000 := abs_lt (k := 18) (by omega) hs.2
        have HF := Lib.hid (And.intro hB (And.intro hgc hbel))
        clear hB hgc hbel hsy hyg eS lx ly hs
        go_wp2_with fail
        refine (HF.out.1 _).mono ?_
        rintro e w5 ⟨rfl, rfl⟩
        go_wp2_with fail
        go_loopg [5, 6] y.toNat (fun g p q wr' => ∃ i j : Int, p = .int .i64 i ∧ q = .int .i64 j ∧ 0 ≤ i ∧ i < 1000000000000000000 ∧ 0 ≤ j ∧ j < 1000000000000000000 ∧ j.toNat = g ∧ Int.gcd i j = Int.gcd x y ∧ Below wr.heap.size wr wr')
        case atStart => exact ⟨x, y, rfl, rfl, hx0, by omega, hy0, by omega, rfl, rfl, Below.refl _ _⟩
        case round =>
          obtain ⟨i, j, rfl, rfl, i0, i1, j0, j1, hj, hgcd, hbel⟩ := hrel
          have HI := Lib.hid (And.intro hj (And.intro hgcd hbel)); clear hj hgcd hbel
          by_cases hj0 : 0 < j
          · have hnz : (j != 0) = true := by simp; omega
            have hnz2 : j ≠ 0 := by omega
            have hm1 := Int.emod_nonneg i (show j ≠ 0 by omega)
            have hm2 := Int.emod_lt_of_pos i hj0
            go_wp2_with fail
            go_quiet (fail)
            go_wp2_with fail
            go_roundg (i % j).toNat
            case measure => have := HI.out.1; omega
            case rel => exact ⟨j, i % j, rfl, rfl, by omega, by omega, hm1, by omega, rfl, (gcd_step i0 hj0).trans HI.out.2.1, below_trans HI.out.2.2 (bel_dn _ _)⟩
          · have hj2 : j = 0 := by omega
            have hf : i = Int.gcd a b := by
              have h1 := HI.out.2.1
              rw [HF.out.2.1, hj2] at h1
              have h4 : Int.gcd i 0 = i.natAbs := by simp
              omega
            have ho := fun w => rof_pos i w i0 (by omega)
            have HK := Lib.hid (And.intro hf ho)
            clear hf ho hj2
            go_wp2_with fail
            refine (HK.out.2 _).mono ?_
            rintro e w6 ⟨rfl, hb6⟩
            go_wp2_with fail
            go_ret
            exact ⟨ret_S HK.out.1, below_trans (below_trans HF.out.2.2 HI.out.2.2) hb6⟩
      · have hB := fun w => brief_no x y w (by omega) (by omega) (by omega)
        simp only [eS] at hB
        have hP := fun w => rparted_calls x y w hx0 hypos lx ly
        simp only [eS] at hP
        have hm1 := Int.emod_nonneg x (show y ≠ 0 by omega)
        have hm2 := Int.emod_lt_of_pos x hypos
        have lm := len_le_of hm1 (Int.le_of_lt hm2)
        obtain ⟨m, hm⟩ : ∃ m, x % y = m := ⟨_, rfl⟩
        rw [hm] at hm1 hm2 lm hP
        have HF := Lib.hid (And.intro hB (And.intro hP (And.intro hgc (And.intro hbel (And.intro hsy (And.intro hyg (And.intro lx (And.intro ly (And.intro lm hm)))))))))
        clear hB hP hgc hbel hsy hyg eS lx ly hs lm hm
        go_wp2_with fail
        refine (HF.out.1 _).mono ?_
        rintro e w5 ⟨rfl, rfl⟩
        go_wp2_with fail
        refine (HF.out.2.1 _).mono ?_
        rintro e w6 ⟨rfl, hb6⟩
        go_wp2_with fail
        go_roundg m.toNat
        case measure => have := HF.out.2.2.2.2.2.1; omega
        case rel =>
          obtain ⟨hB, hP, hgc, hbel, hsy, hyg, lx, ly, lm, hm⟩ := HF.out
          exact ⟨y, m, _, by rw [hsy], rfl, rfl, hy0, hm1, rfl, ly, by omega, by rw [← hm]; exact (gcd_step hx0 hypos).trans hgc, below_trans hbel hb6⟩

theorem S_eq_one (n : Int) (s : ByteArray) (hs : s = ⟨(itoa n).toArray⟩) : (s.toList == [49]) = decide (n = 1) := by
  rw [hs, tl_bytes]
  by_cases h : n = 1
  · rw [h, itoa_one]; rfl
  · rw [decide_eq_false h, itoa_ne_one h]

set_option maxHeartbeats 800000 in
theorem rlowest_calls (n d : Int) (w : World) (h0 : 0 ≤ n) (hd : 0 < d) (ln : (dg n).length ≤ 900) (ld : (dg d).length ≤ 900) :
    Calls Tryz.prog 127 #[S n, S d] w fun e w' => e = .returned (R (rn n d) (rd n d)) ∧ Below w.heap.size w w' := by
  have e1 : rn n d = n / (Int.gcd n d : Int) := by unfold rn; rw [rg_of_pos hd]
  have e2 : rd n d = d / (Int.gcd n d : Int) := by unfold rd; rw [rg_of_pos hd]
  have g := gcd_le (n := n) hd
  have lg : (dg (Int.gcd n d : Int)).length ≤ 900 := by have := len_le_of (Int.le_of_lt g.1) g.2; omega
  have h1 := fun w => rshared_calls n d w h0 (Int.le_of_lt hd) ln ld
  have h2 := fun w => below_calls d w
  rw [decide_eq_false (show ¬ d < 0 by omega)] at h2
  have h3 := fun w => rparted_calls n (Int.gcd n d) w h0 g.1 ln lg
  have h4 := fun w => rparted_calls d (Int.gcd n d) w (Int.le_of_lt hd) g.1 ld lg
  rw [← e1] at h3
  rw [← e2] at h4
  have l1 : (itoa (rn n d)).length ≤ 1000 := by
    have h5 := ediv_bd h0 g.1
    have := len_le_of h5.1 h5.2
    rw [e1]; have := itoa_le_dg (n / (Int.gcd n d : Int)); omega
  have l2 : (itoa (rd n d)).length ≤ 1000 := by
    have h5 := ediv_bd (Int.le_of_lt hd) g.1
    have := len_le_of h5.1 h5.2
    rw [e2]; have := itoa_le_dg (d / (Int.gcd n d : Int)); omega
  obtain ⟨p, hp⟩ : ∃ p, rn n d = p := ⟨_, rfl⟩
  obtain ⟨q, hq⟩ : ∃ p, rd n d = p := ⟨_, rfl⟩
  obtain ⟨z, hz⟩ : ∃ p, (Int.gcd n d : Int) = p := ⟨_, rfl⟩
  rw [hp] at h3 l1 ⊢
  rw [hq] at h4 l2 ⊢
  rw [hz] at h1 h3 h4
  obtain ⟨r1, hr1⟩ : ∃ p, n % z = p := ⟨_, rfl⟩
  obtain ⟨r2, hr2⟩ : ∃ p, d % z = p := ⟨_, rfl⟩
  rw [hr1] at h3
  rw [hr2] at h4
  obtain ⟨sp, hsp⟩ : ∃ s : ByteArray, s = ⟨(itoa p).toArray⟩ := ⟨_, rfl⟩
  obtain ⟨sq, hsq⟩ : ∃ s : ByteArray, s = ⟨(itoa q).toArray⟩ := ⟨_, rfl⟩
  have ep : S p = .string sp := by rw [hsp]
  have eq : S q = .string sq := by rw [hsq]
  rw [ep] at h3
  rw [eq] at h4
  have z1 : sp.size ≤ 1000 := by rw [hsp]; simpa [ByteArray.size] using l1
  have z2 : sq.size ≤ 1000 := by rw [hsq]; simpa [ByteArray.size] using l2
  have hone := S_eq_one q sq hsq
  have hR : R p q = .string (if q = 1 then sp else sp ++ ⟨#[47]⟩ ++ sq) := by
    unfold R rtxt
    by_cases h : q = 1
    · rw [if_pos h, if_pos h, hsp]
    · rw [if_neg h, if_neg h, hsp, hsq]
      congr 1
      have := cat2 (itoa p) [47]
      have h5 := cat2 (itoa p ++ [47]) (itoa q)
      rw [this, h5]
      simp
  rw [hR]
  have H := Lib.hid (And.intro h1 (And.intro h2 (And.intro h3 h4)))
  clear h1 h2 h3 h4 hp hq hz hr1 hr2 hsp hsq ep eq l1 l2 lg e1 e2 g hR ln ld
  by_cases h1 : q = 1
  · rw [decide_eq_true h1] at hone
    have hl : sq.toList = [49] := by simpa using hone
    rw [if_pos h1]
    clear h1
    go_enter Tryz.func127, Tryz.ntmps127
    go_wp2_with fail
    refine (H.out.1 _).mono ?_
    rintro e w1 ⟨rfl, hb1⟩
    go_wp2_with fail
    refine (H.out.2.1 _).mono ?_
    rintro e w2 ⟨rfl, rfl⟩
    have HB1 := Lib.hid hb1; clear hb1
    go_wp2_with fail
    refine (H.out.2.2.1 _).mono ?_
    rintro e w3 ⟨rfl, hb2⟩
    have HB2 := Lib.hid (below_trans HB1.out hb2); clear hb2
    go_wp2_with fail
    refine (H.out.2.2.2 _).mono ?_
    rintro e w4 ⟨rfl, hb3⟩
    have HB3 := Lib.hid (below_trans HB2.out hb3); clear hb3
    go_wp2_with fail
    go_ret
    exact ⟨rfl, HB3.out⟩
  · rw [decide_eq_false h1] at hone
    have hl : ¬ sq.toList = [49] := by simpa using hone
    rw [if_neg h1]
    clear h1
    go_enter Tryz.func127, Tryz.ntmps127
    go_wp2_with fail
    refine (H.out.1 _).mono ?_
    rintro e w1 ⟨rfl, hb1⟩
    go_wp2_with fail
    refine (H.out.2.1 _).mono ?_
    rintro e w2 ⟨rfl, rfl⟩
    have HB1 := Lib.hid hb1; clear hb1
    go_wp2_with fail
    refine (H.out.2.2.1 _).mono ?_
    rintro e w3 ⟨rfl, hb2⟩
    have HB2 := Lib.hid (below_trans HB1.out hb2); clear hb2
    go_wp2_with fail
    refine (H.out.2.2.2 _).mono ?_
    rintro e w4 ⟨rfl, hb3⟩
    have HB3 := Lib.hid (below_trans HB2.out hb3); clear hb3
    go_wp2_with fail
    go_ret
    exact ⟨rfl, HB3.out⟩

end Go.Proofs.YtgdlfjofefhdoaaGreatDoor
