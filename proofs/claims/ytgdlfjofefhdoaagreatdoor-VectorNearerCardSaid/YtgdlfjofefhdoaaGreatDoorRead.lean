/- whole.read: the words of a canonical text. -/
import Derived.Test.YtgdlfjofefhdoaaGreatDoorWide
import Derived.Laws.NewBlocks
import Derived.Deep.RegionHeld3
namespace Go.Proofs.YtgdlfjofefhdoaaGreatDoor
open Go.RowKit Go.Sort Go.Lib Mb

theorem zero_wc : Tryz.zeroCells193 = wc false 0 (fun _ => 0) := by kernel_rfl

theorem zero_set (l : Bool) : Tryz.zeroCells193.setIfInBounds 0 (.bool l) = wc l 0 (fun _ => 0) := by
  rw [zero_wc]
  refine ext_wc (by rw [Array.size_setIfInBounds, wc_size]) ?_ ?_ ?_
  · rw [Array.getElem?_setIfInBounds_self_of_lt (by rw [wc_size]; omega)]
  · rw [Array.getElem?_setIfInBounds_ne (by omega), wc_1]
  · intro j hj
    rw [Array.getElem?_setIfInBounds_ne (by omega), wc_w _ _ _ j hj]

theorem wide_new (w : World) (l : Bool) (n : Nat) (f : Nat → Int) : Wide (w.alloc (.cells (wc l n f) 193)) w.heap.size l n f := by
  unfold Wide World.alloc
  simp

theorem itoa_head (n : Int) (h : 0 < (⟨(itoa n).toArray⟩ : ByteArray).size) : ((((⟨(itoa n).toArray⟩ : ByteArray)[0]'h).toNat : Int) == 45) = decide (n < 0) := by
  have h' : 0 < (itoa n).length := h
  show (((itoa n)[0].toNat : Int) == 45) = decide (n < 0)
  by_cases hn : n < 0
  · have : (itoa n)[0] = 45 := by
      have e := itoa_neg hn
      have : (itoa n)[0]? = some 45 := by rw [e]; rfl
      rw [List.getElem?_eq_getElem h'] at this; exact Option.some.inj this
    rw [this]; simp [hn]
  · have e := Mb.itoa_nonneg (n := n) (by omega)
    have hm : (itoa n)[0] ∈ decDigits n.natAbs := by rw [← e]; exact List.getElem_mem h'
    have := dig_decDigits _ _ hm
    rw [decide_eq_false hn, beq_eq_false_iff_ne]; omega

theorem atoi_dig {l : List UInt8} (h : Dig l) (hn : l ≠ []) : Lib.atoi l = some (dv l : Int) := by
  have hd := decFrom_dvf l 0 h
  have h2 : Lib.decNat l = some (dv l) := by unfold Lib.decNat; rw [if_neg (by simp [hn]), hd]; rfl
  cases l with
  | nil => exact absurd rfl hn
  | cons b r =>
    have hb := h b (by simp)
    have e45 : (b == 45) = false := by rw [beq_eq_false_iff_ne]; intro e; subst e; simp at hb
    have e43 : (b == 43) = false := by rw [beq_eq_false_iff_ne]; intro e; subst e; simp at hb
    show (if b == 45 then _ else if b == 43 then _ else (Lib.decNat (b :: r)).map fun (m : Nat) => (m : Int)) = _
    rw [e45, e43, h2]; rfl

set_option maxRecDepth 100000 in
set_option maxHeartbeats 800000 in
theorem read_calls (n : Int) (w : World) (h : (dg n).length ≤ 1024) :
    Calls Tryz.prog 123 #[S n] w fun e w' => ∃ b m f, e = .returned (.pointer (some ⟨b, 0, none⟩)) ∧ w.heap.size ≤ b ∧ Mag f m ∧ val f m = n.natAbs ∧ Wide w' b (decide (n < 0)) m f ∧ Below w.heap.size w w' := by
  have hpos : 0 < (itoa n).length := by have := dg_le_itoa n; have h1 := dg_ne n; cases hx : dg n <;> simp_all; omega
  have hb0 := itoa_head n hpos
  go_enter Tryz.func123, Tryz.ntmps123
  go_wp2_with fail
  rw [zero_set]
  obtain ⟨w1, hw1⟩ : ∃ w1, w1 = w.alloc (.cells (wc (decide (n < 0)) 0 (fun _ => 0)) 193) := ⟨_, rfl⟩
  rw [← hw1]
  have hW : Wide w1 w.heap.size (decide (n < 0)) 0 (fun _ => 0) := by rw [hw1]; exact wide_new _ _ _ _
  have hB : Below w.heap.size w w1 := by rw [hw1]; exact alloc_below _ _
  clear hw1
  refine (trimPrefix_calls _ _).mono ?_
  rintro e w' ⟨rfl, rfl⟩
  clear hb0
  have hdig := dg_dig n
  go_wp2_with fail
  go_loopg [3] (dg n).length (fun g s wr => ∃ k f, s = .string ⟨((dg n).take g).toArray⟩ ∧ Rd (dg n) g k f ∧ Wide wr w.heap.size (decide (n < 0)) k f ∧ Below w.heap.size w wr)
  case atStart => exact ⟨0, fun _ => 0, by rw [List.take_length], Rd.start _, hW, hB⟩
  case round =>
    obtain ⟨k, f, rfl, hr, hw, hbel⟩ := hrel
    have hlen := hr.len
    by_cases hg : gk = 0
    · subst hg
      rw [List.take_zero]
      go_wp2_with fail
      refine (trimmed_calls _ _ _ _ _ hw ⟨by omega, hr.wd, hr.z⟩).mono ?_
      rintro e w2 ⟨rfl, ⟨m, hm, hv, hW2⟩, hgb⟩
      have hfin : val f m = n.natAbs := by
        rw [hv, hr.done, show (dv (dg n)) = n.natAbs from dv_decDigits _]
      have HF := Lib.hid hfin; clear hfin hv
      go_wp2_with fail
      go_ret
      exact ⟨_, m, f, rfl, Nat.le_refl _, hm, HF.out, hW2, below_gb hbel hgb hbel.size (Nat.le_refl _)⟩
    · obtain ⟨r, hrr⟩ : ∃ r, r = (dg n).take gk := ⟨_, rfl⟩
      obtain ⟨p, hp⟩ : ∃ p, p = gk - 9 := ⟨_, rfl⟩
      have hrl : r.length = gk := by rw [hrr, List.length_take]; omega
      have hrd : Dig r := by rw [hrr]; exact dig_take hdig _
      have hmax : max 0 ((gk : Int) - 9) = (p : Int) := by omega
      have hpg : p < gk := by omega
      have hk : k < 232 := by omega
      have hpl : gk - p ≤ 9 := by omega
      rw [← hrr]
      have hx : ((⟨r.toArray⟩ : ByteArray).extract p gk).data.toList = r.drop p := by
        rw [Lib.extract_data]
        exact List.take_of_length_le (by rw [List.length_drop]; show r.length - p ≤ _; omega)
      have hxs : ((⟨r.toArray⟩ : ByteArray).extract p gk).size ≤ 18 := by
        have : ((⟨r.toArray⟩ : ByteArray).extract p gk).size = ((⟨r.toArray⟩ : ByteArray).extract p gk).data.toList.length := by simp [ByteArray.size]
        rw [this, hx, List.length_drop, hrl]; omega
      have hch : Lib.atoi ((⟨r.toArray⟩ : ByteArray).extract p gk).data.toList = some (dv (r.drop p) : Int) := by
        rw [hx]; exact atoi_dig (dig_drop hrd p) (by rw [Ne, List.drop_eq_nil_iff, hrl]; omega)
      clear hx
      have i1 : (0 : Int) ≤ p := by omega
      have i2 : (p : Int) ≤ gk := by omega
      have i3 : (k : Int) < 232 := by omega
      have i4 : (0 : Int) ≤ k := by omega
      have HR := Lib.hid hrr; clear hrr
      have HP := Lib.hid hp; clear hp
      have HC := Lib.hid hch; clear hch
      have c1 := hw.c1
      have fr1 := hw.free 1
      have ck := hw.cw k hk
      have frk := hw.free (2 + k)
      go_wp2_with fail
      go_region_held3 (fun w' => w'.cell? ⟨w.heap.size, 1, none⟩ = some (.int .i64 k))
        (first | exact hw.drew.c1 | exact (hw.drew.to hb).c1 | exact ((hw.drew.to hb).setW k hk _).c1)
        (first | (go_at_call 151; refine (atoi_calls _ _ _ hxs HC.out).mono ?_; rintro e w' ⟨rfl, hb⟩; have s1 := (hw.drew.to hb).cw k hk; have s2 := (hw.drew.to hb).free (2 + k)))
      have t1 := ((hw.drew.to hb).setW k hk (dv (r.drop p))).c1
      have t2 := ((hw.drew.to hb).setW k hk (dv (r.drop p))).free 1
      go_wp2_with fail
      go_roundg p
      case measure => omega
      case rel =>
        have hR := HR.out
        have hP := HP.out
        refine ⟨k + 1, upd f k (dv (r.drop p)), ?_, ?_, ?_, ?_⟩
        · congr 1
          apply ByteArray.ext
          apply Array.ext'
          rw [Lib.extract_data, List.drop_zero, Nat.sub_zero]
          show r.take p = (dg n).take p
          rw [hR, List.take_take]; congr 1; omega
        · rw [hR, hP]; exact hr.step hdig (by omega)
        · exact ((hw.drew.to hb).setW k hk _).setN (k + 1)
        · refine Below.setCell (Below.setCell (hbel.trans ?_) (Nat.le_refl _) _) (Nat.le_refl _) _
          exact (below_trans ((Below.refl _ _).drew) hb).mono hbel.size

end Go.Proofs.YtgdlfjofefhdoaaGreatDoor
