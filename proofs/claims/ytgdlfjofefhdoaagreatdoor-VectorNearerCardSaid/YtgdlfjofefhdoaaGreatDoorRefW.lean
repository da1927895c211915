/- The reference's texts of whole numbers: Of. -/
import Derived.Test.YtgdlfjofefhdoaaGreatDoorRefP
namespace Go.Proofs.YtgdlfjofefhdoaaGreatDoor
open Go.RowKit Go.Sort Go.Lib Mb

theorem conv_one' (w : World) (x : Int) (b : UInt8) (h : (b.toNat : Int) = x) : (convert 177 9 (.slice (some ⟨w.heap.size, 0, none⟩) 1 1)).run Tryz.prog (w.alloc (.cells #[.int .u8 x] 5)) = .ok (.string ⟨#[b]⟩) (w.alloc (.cells #[.int .u8 x] 5)) := by
  subst h; exact conv_one w b

theorem dig_b {d : Nat} (h : d < 10) : ((UInt8.ofNat (48 + d)).toNat : Int) = 48 + (d : Int) := by rw [toNat_digit h]; simp

theorem dec_snoc {g : Nat} (h : 9 < g) : decDigits g = decDigits (g / 10) ++ [UInt8.ofNat (48 + g % 10)] := by
  rw [decDigits, dif_neg (by omega)]
theorem dec_one {g : Nat} (h : ¬ 9 < g) : decDigits g = [UInt8.ofNat (48 + g)] := by
  rw [decDigits, dif_pos (by omega)]
theorem cat_bytes (b : UInt8) (s : List UInt8) : (⟨#[b]⟩ : ByteArray) ++ ⟨s.toArray⟩ = ⟨(b :: s).toArray⟩ := by
  apply ByteArray.ext
  rw [ByteArray.data_append]
  apply Array.ext'
  simp

set_option maxRecDepth 100000 in
set_option maxHeartbeats 1600000 in
theorem rof_nonneg (n : Nat) (w : World) (h : (n : Int) ≤ 9223372036854775807) :
    Calls Tryz.prog 83 #[.int .i64 n] w fun e w' => e = .returned (Dd n) ∧ Below w.heap.size w w' := by
  have i1 : IntKind.i64.wrap (-(n : Int)) = -(n : Int) := IntWalk.i64_in _ (by omega)
  have i0 : ((n : Int) == -(n : Int) && (n : Int) != 0) = false := by
    by_cases h0 : (n : Int) = 0
    · rw [h0]; rfl
    · rw [show ((n : Int) == -(n : Int)) = false by rw [beq_eq_false_iff_ne]; omega]; rfl
  have i2 : ¬ (n : Int) < 0 := by omega
  obtain ⟨bq, hbq⟩ : ∃ bq, ((n : Int) == -(n : Int)) = bq := ⟨_, rfl⟩
  have i3 : bq = true → (n : Int) = 0 := by intro e; rw [e] at hbq; have := eq_of_beq hbq; omega
  have key : ∀ (A : Act → World → Prop), True := fun _ => trivial
  cases bq with
  | true =>
    obtain rfl : n = 0 := by have := i3 rfl; omega
    clear i3 key
    go_enter Tryz.func83, Tryz.ntmps83
    have kc := fun w => conv_one' w 48 48 rfl
    go_wp2_with fail
    refine wp_loop_rounds 1 ?_
    rw [rounds_succ]
    go_wp2_with fail
    go_ret
    exact ⟨ret_s (by rw [dec_one (by omega)]; exact cat_bytes 48 []), alloc_below _ _⟩
  | false =>
    clear i3 key i0
    go_enter Tryz.func83, Tryz.ntmps83
    go_wp2_with fail
    have HN := Lib.hid ((decDigits_len_le (u := n) (k := 19) (by omega)).2 (by omega))
    go_loopg [0, 3] n (fun g v t wr => ∃ (s : List UInt8) (sb : ByteArray), v = .int .i64 g ∧ t = .string sb ∧ sb = ⟨s.toArray⟩ ∧ g ≤ n ∧ decDigits n = decDigits g ++ s ∧ Below w.heap.size w wr)
    case atStart => exact ⟨[], _, rfl, rfl, rfl, Nat.le_refl _, by simp, Below.refl _ _⟩
    case round =>
      obtain ⟨s, sb, rfl, rfl, hsb, hgn, hs, hbel⟩ := hrel
      have j5 : sb.size ≤ 19 := by
        have h1 := HN.out
        rw [hs, List.length_append] at h1
        have h2 : sb.size = s.length := by rw [hsb]; simp [ByteArray.size]
        omega
      have H := Lib.hid (And.intro hs (And.intro hbel hsb)); clear hs hbel hsb
      by_cases hk : 9 < gk
      · have j1 : (9 : Int) < (gk : Int) := by omega
        have j2 : ((gk : Int)).tmod 10 = (gk : Int) % 10 := by rw [Int.tmod_eq_emod_of_nonneg (by omega)]
        have j4 : ((gk : Int)).tdiv 10 = (gk : Int) / 10 := by rw [Int.tdiv_eq_ediv_of_nonneg (by omega)]
        obtain ⟨b, hb⟩ : ∃ b : UInt8, b = UInt8.ofNat (48 + gk % 10) := ⟨_, rfl⟩
        have hbv : (b.toNat : Int) = 48 + (gk : Int) % 10 := by rw [hb, dig_b (by omega)]; simp
        have kc := fun w => conv_one' w (48 + (gk : Int) % 10) b hbv
        have HD := Lib.hid (And.intro (dec_snoc hk) hb)
        clear hk hb hbv
        go_wp2_with fail
        go_roundg (gk / 10)
        case measure => omega
        case rel =>
          refine ⟨b :: s, _, by go_num, rfl, by rw [H.out.2.2]; exact cat_bytes b s, by omega, ?_, below_trans H.out.2.1 (alloc_below _ _)⟩
          rw [H.out.1, HD.out.1, ← HD.out.2, List.append_assoc]; rfl
      · have j1 : ¬ (9 : Int) < (gk : Int) := by omega
        have j6 : (gk : Int) < 10 := by omega
        obtain ⟨b, hb⟩ : ∃ b : UInt8, b = UInt8.ofNat (48 + gk) := ⟨_, rfl⟩
        have hbv : (b.toNat : Int) = 48 + (gk : Int) := by rw [hb, dig_b (by omega)]
        have kc := fun w => conv_one' w (48 + (gk : Int)) b hbv
        have HD := Lib.hid (And.intro (dec_one hk) hb)
        clear hk hb hbv
        go_wp2_with fail
        go_ret
        refine ⟨ret_s ?_, below_trans H.out.2.1 (alloc_below _ _)⟩
        rw [H.out.2.2, cat_bytes, H.out.1, HD.out.1, ← HD.out.2]; rfl

theorem S_nat {n : Int} (h : 0 ≤ n) : S n = Dd n.toNat := by
  show Value.string ⟨(itoa n).toArray⟩ = _
  rw [Mb.itoa_nonneg h, show n.natAbs = n.toNat by omega]

theorem rof_pos (n : Int) (w : World) (h0 : 0 ≤ n) (h : n ≤ 9223372036854775807) :
    Calls Tryz.prog 83 #[.int .i64 n] w fun e w' => e = .returned (S n) ∧ Below w.heap.size w w' := by
  rw [S_nat h0]
  obtain ⟨m, rfl⟩ := Int.eq_ofNat_of_zero_le h0
  exact rof_nonneg m w h

theorem rwhole_calls (n : Int) (w : World) (h0 : 0 ≤ n) (h : n ≤ 9223372036854775807) :
    Calls Tryz.prog 29 #[.int .i64 n] w fun e w' => e = .returned (S n) ∧ Below w.heap.size w w' := by
  have H := rof_pos n w h0 h
  clear h0 h
  go_enter Tryz.func29, Tryz.ntmps29
  go_wp2_with fail
  refine H.mono ?_
  rintro e w1 ⟨rfl, hb1⟩
  clear H
  go_wp2_with fail
  go_ret
  exact ⟨rfl, hb1⟩

end Go.Proofs.YtgdlfjofefhdoaaGreatDoor
