/- Package whole: integers with a sign: text, limited, plus. Package whole: Mul and Add of integers of any size and sign. Package whole: Quo of integers of any size, the second one positive, where the division goes up. Package whole: Gcd of integers of any size. -/
import Derived.Test.YtgdlfjofefhdoaaGreatDoorTxtA
import Derived.Test.YtgdlfjofefhdoaaGreatDoorDivA
import Derived.Laws.Rows
import Derived.Deep.WholeRow
import Derived.Test.YtgdlfjofefhdoaaGreatDoorRatAB
import Derived.BigRegion
import Derived.BigQuiet
namespace Go.Proofs.YtgdlfjofefhdoaaGreatDoor
open Go.RowKit Go.Sort Go.Lib Mb

/-- a value with a sign -/
def sv (l : Bool) (v : Int) : Int := if l then -v else v

theorem text0_calls (b : Nat) (l : Bool) (f : Nat → Int) (w : World) (hW : Wide w b l 0 f) :
    Calls Tryz.prog 154 #[.pointer (some ⟨b, 0, none⟩)] w fun e w' => e = .returned (S 0) ∧ Below w.heap.size w w' := by
  have c1 := hW.c1
  rw [S_zero']
  go_enter Tryz.func154, Tryz.ntmps154
  go_wp2_with fail
  go_ret
  exact ⟨rfl, Below.refl _ _⟩

theorem texts_calls (b n : Nat) (l : Bool) (f : Nat → Int) (w : World) (hg : Good w) (hW : Wide w b l n f) (hm : Mag f n) :
    Calls Tryz.prog 154 #[.pointer (some ⟨b, 0, none⟩)] w fun e w' => e = .returned (S (sv l (val f n))) ∧ Below w.heap.size w w' := by
  cases l with
  | false => exact text_calls b n f w hg hW hm
  | true =>
    cases n with
    | zero => exact text0_calls b true f w hW
    | succ k => exact textn_calls b k f w hg hW hm

theorem limiteds_calls (b n : Nat) (l : Bool) (f : Nat → Int) (w : World) (hg : Good w) (hW : Wide w b l n f) (hm : Mag f n) (hd : (dg (sv l (val f n))).length ≤ 1024) :
    Calls Tryz.prog 125 #[.pointer (some ⟨b, 0, none⟩)] w fun e w' => e = .returned (.tuple #[S (sv l (val f n)), .int .i64 0]) ∧ Below w.heap.size w w' := by
  have H := texts_calls b n l f w hg hW hm
  obtain ⟨v, hv⟩ : ∃ v, sv l (val f n) = v := ⟨_, rfl⟩
  rw [hv] at H hd ⊢
  clear hv hW hm
  go_enter Tryz.func125, Tryz.ntmps125
  go_wp2_with fail
  refine H.mono ?_
  rintro e w1 ⟨rfl, hb1⟩
  clear H
  go_wp2_with fail
  refine (check_calls v _ hd).mono ?_
  rintro e w2 ⟨rfl, hb2⟩
  go_wp2_with fail
  go_ret2
  exact ⟨rfl, below_trans hb1 hb2⟩

/-- carry that takes away -/
theorem carrym_calls (bx by' : Nat) (lx ly : Bool) (xn yn : Nat) (x0 y : Nat → Int) (w : World) (hX : Wide w bx lx xn x0) (hY : Wide w by' ly yn y) (hne : bx ≠ by') (hx : Mag x0 xn) (hy : Mag y yn) (hle : val y yn ≤ val x0 xn) :
    Calls Tryz.prog 153 #[.pointer (some ⟨bx, 0, none⟩), .pointer (some ⟨by', 0, none⟩), .int .i64 (-1), .int .i64 0] w fun e w' => e = .returned (.tuple #[]) ∧
      ((∃ m f, Mag f m ∧ val f m = val x0 xn - val y yn ∧ Wide w' bx lx m f) ∧ w.grownBy w' (some bx)) := by
  have es : sh x0 0 = x0 := by funext i; show x0 (0 + i) = x0 i; rw [Nat.zero_add]
  have hv : val (sh x0 0) (232 - 0) + -1 * val y yn = val x0 xn - val y yn := by
    rw [es, Nat.sub_zero, hx.ext hx.le]; omega
  refine (carry_calls bx by' lx ly xn yn x0 y (-1) 0 w hX hY hne hx hy ⟨by decide, by decide⟩ (by have := hy.le; omega) (by rw [hv]; omega) ?_).mono ?_
  · rw [hv]
    have h1 := hx.bd.2
    have h2 := pow_mono hx.le
    have h3 := hy.bd.1
    rw [Nat.sub_zero]; omega
  · rintro e w' ⟨he, ⟨m, f, h1, h2, h3⟩, h4⟩
    exact ⟨he, ⟨m, f, h1, by rw [h2]; simp; omega, h3⟩, h4⟩

theorem wc_one (l : Bool) (n : Nat) (f : Nat → Int) : (wc l n f).all (·.oneCell') = true := by
  rw [Array.all_eq_true_iff_forall_mem]
  intro v hv
  simp only [wc, Array.mem_append] at hv
  rcases hv with hv | hv
  · simp at hv
    rcases hv with rfl | rfl <;> rfl
  · simp only [Array.mem_ofFn] at hv
    obtain ⟨i, rfl⟩ := hv
    rfl

theorem storeCells_row {P : Program} (w : World) (g : Nat) (t ty : TypeId) (old cells : Array Value) (hg : w.heap[g]? = some (.cells old t (0, 0))) (hi : (P.info? ty).map (·.size) = some cells.size)
    (ho : old.size = cells.size) (h1 : cells.all (·.oneCell') = true) : (storeCells ⟨g, 0, none⟩ cells.toList 0).run P w = .ok () (w.setRow g cells) := by
  have := run_storeVar_row (P := P) w g t ty old cells hg hi ho h1
  cases hq : P.info? ty with
  | none => simp [hq] at hi
  | some i =>
    have hs : cells.size = i.size := by simp [hq] at hi; omega
    simpa [storeVar, sizeOf, typeInfo, hq, Value.cells, hs] using this

theorem sizeW : (Tryz.prog.info? 193).map (·.size) = some 234 := by kernel_rfl

set_option maxRecDepth 100000 in
set_option maxHeartbeats 3200000 in
theorem pluss_calls (bx by' : Nat) (lx ly : Bool) (xn yn : Nat) (x0 y : Nat → Int) (w : World) (hX : Wide w bx lx xn x0) (hY : Wide w by' ly yn y) (hne : bx ≠ by') (hx : Mag x0 xn) (hy : Mag y yn) (h : val x0 xn + val y yn < B ^ 232) :
    Calls Tryz.prog 155 #[.pointer (some ⟨bx, 0, none⟩), .pointer (some ⟨by', 0, none⟩)] w fun e w' => e = .returned (.tuple #[]) ∧
      (∃ l m f, Mag f m ∧ sv l (val f m) = sv lx (val x0 xn) + sv ly (val y yn) ∧ Wide w' bx l m f) ∧ w.grownBy w' (some bx) := by
  have c1 := hX.c0
  have c2 := hY.c0
  by_cases hl : lx = ly
  · subst hl
    have H : ∀ q, Calls Tryz.prog 153 #[.pointer (some ⟨bx, 0, none⟩), .pointer (some ⟨by', 0, none⟩), .int .i64 1, .int .i64 0] (w.drewN q) fun e w' => e = .returned (.tuple #[]) ∧
        ((∃ l m f, Mag f m ∧ sv l (val f m) = sv lx (val x0 xn) + sv lx (val y yn) ∧ Wide w' bx l m f) ∧ w.grownBy w' (some bx)) := fun q =>
      (carryp_calls bx by' lx lx xn yn x0 y 1 0 _ (hX.drewN q) (hY.drewN q) hne hx hy ⟨by decide, by decide⟩ (by have := hy.le; omega) (by simpa using h)).mono fun e w' ⟨he, ⟨m, f, h1, h2, h3⟩, h4⟩ => ⟨he, ⟨lx, m, f, h1, by rw [h2]; cases lx <;> simp [sv] <;> omega, h3⟩, gb_trans (gb_dn w q _) h4⟩
    clear hX hY hx hy h
    have hb : (lx == lx) = true := by simp
    go_enter Tryz.func155, Tryz.ntmps155
    go_wp2_with fail
    go_quiet (fail)
    go_wp2_with fail
    refine (H nq).mono ?_
    rintro e w1 ⟨rfl, h1⟩
    have H1 := Lib.hid h1; clear h1 H
    go_wp2_with fail
    refine bodyPost_ret (results_none rfl _ _ _) rfl ?_
    exact ⟨rfl, H1.out⟩
  · have hb : (lx == ly) = false := by simpa using hl
    have hly : ly = !lx := by cases lx <;> cases ly <;> simp_all
    have HH := Lib.hid (And.intro hX (And.intro hY (And.intro hx (And.intro hy h))))
    have HB := fun q => beyond_calls bx by' lx ly xn yn x0 y (w.drewN q) (hX.drewN q) (hY.drewN q) hx hy
    clear hX hY hx hy h hl
    go_enter Tryz.func155, Tryz.ntmps155
    go_wp2_with fail
    go_quiet (fail)
    go_wp2_with fail
    refine (HB nq).mono ?_
    rintro e w1 ⟨⟨c, rfl, hc⟩, hb1⟩
    have hb1' : Below w.heap.size w w1 := below_trans (bel_dn w nq) hb1
    clear HB hb1 c1 c2
    have hX1 := HH.out.1.to hb1'
    have hY1 := HH.out.2.1.to hb1'
    by_cases hc0 : 0 ≤ c
    · have H := carrym_calls bx by' lx ly xn yn x0 y w1 hX1 hY1 hne HH.out.2.2.1 HH.out.2.2.2.1 (hc.1 hc0)
      have HB1 := Lib.hid hb1'
      clear hX1 hY1 hb1' hc
      go_wp2_with fail
      refine H.mono ?_
      rintro e w2 ⟨rfl, h1⟩
      have H1 := Lib.hid h1; clear h1 H
      go_wp2_with fail
      refine bodyPost_ret (results_none rfl _ _ _) rfl ?_
      obtain ⟨⟨m, f, h1, h2, h3⟩, h4⟩ := H1.out
      exact ⟨rfl, ⟨lx, m, f, h1, by rw [h2, hly]; cases lx <;> simp [sv] <;> omega, h3⟩, gb_trans (gb_below HB1.out) h4⟩
    · have hlt : val x0 xn < val y yn := by
        rcases Int.lt_or_le (val x0 xn) (val y yn) with h | h
        · exact h
        · exact absurd (hc.2 h) hc0
      have HB1 := Lib.hid (And.intro hlt hb1')
      clear hlt hb1' hc
      go_wp2_with fail
      obtain ⟨cs, hcs⟩ : ∃ cs, cs = wc (!lx) yn y := ⟨_, rfl⟩
      have hcsz : cs.size = 234 := by rw [hcs, wc_size]
      have hg1 : w1.heap[by']? = some (.cells cs 193 (0, 0)) := by rw [hcs, ← hly]; exact hY1
      have hc1 : cs.all (·.oneCell') = true := by rw [hcs]; exact wc_one _ _ _
      have hst := run_storeCells_new (P := Tryz.prog) w1 193 Tryz.zeroCells193 cs (by rw [hcsz]; exact sizeW) (by rw [hcsz, zero_wc, wc_size]) hc1
      refine wp_load_row 193 _ rfl by' rfl 193 cs (0, 0) _ hg1 Tryz.underlying193 rfl (by rw [hcsz]; exact sizeW) ?_
      have HC := Lib.hid (And.intro hcs hg1); clear hcs hg1 hc1
      go_wp2_with fail
      clear hst
      obtain ⟨z, hz⟩ : ∃ z, z = w1.heap.size := ⟨_, rfl⟩
      obtain ⟨w2, hw2⟩ : ∃ w2, w2 = w1.alloc (.cells cs 193) := ⟨_, rfl⟩
      rw [← hw2, ← hz]
      have hb2 : Below w1.heap.size w1 w2 := by rw [hw2]; exact alloc_below _ _
      have hZ2 : Wide w2 z (!lx) yn y := by rw [hw2, hz, HC.out.1]; exact wide_new _ _ _ _
      have hX2 := hX1.to hb2
      have hzx : z ≠ bx := by have := hX1.lt; omega
      have H := carrym_calls z bx (!lx) lx yn xn y x0 w2 hZ2 hX2 hzx HH.out.2.2.2.1 HH.out.2.2.1 (by have := HB1.out.1; omega)
      have HB2 := Lib.hid (And.intro hX2 (And.intro hzx (And.intro hz hb2)))
      clear hw2 hZ2 hX2 hb2 hX1 hY1 hzx hz
      refine H.mono ?_
      rintro e w3 ⟨rfl, ⟨m, f, hm, hv, hW3⟩, hg3⟩
      clear H
      have hX3 := HB2.out.1.grown hg3 (by simp; exact fun e => HB2.out.2.1 e.symm)
      obtain ⟨c3, hc3⟩ : ∃ cs, cs = wc (!lx) m f := ⟨_, rfl⟩
      have hc3s : c3.size = 234 := by rw [hc3, wc_size]
      have hgz : w3.heap[z]? = some (.cells c3 193 (0, 0)) := by rw [hc3]; exact hW3
      have hst := storeCells_row (P := Tryz.prog) w3 bx 193 193 _ c3 hX3 (by rw [hc3s]; exact sizeW) (by rw [hc3s, wc_size]) (by rw [hc3]; exact wc_one _ _ _)
      have HD := Lib.hid (And.intro hm (And.intro hv (And.intro hX3 (And.intro hg3 hc3)))); clear hm hv hW3 hX3 hg3 hc3
      go_wp2_with fail
      refine wp_load_row 193 _ rfl z rfl 193 c3 (0, 0) _ hgz Tryz.underlying193 rfl (by rw [hc3s]; exact sizeW) ?_
      go_wp2_with fail
      clear hst hgz
      go_end0
      obtain ⟨hm, hv, hX3, hg3, hc3⟩ := HD.out
      obtain ⟨hX2, hzx, hz, hb2⟩ := HB2.out
      obtain ⟨hlt, hb1⟩ := HB1.out
      have hWn : Wide (w3.setRow bx c3) bx (!lx) m f := by
        unfold Wide
        rw [setRow_heap w3 bx _ _ _ _ hX3, hc3]
      have hgr : w3.grownBy (w3.setRow bx c3) (some bx) := ⟨rfl, rfl, rfl, by simp, fun k _ hk => setRow_other _ _ _ _ (fun e => hk (by rw [e]))⟩
      have hz1 : Below w1.heap.size w1 w3 := below_gb hb2 hg3 hb2.size (by rw [hz]; exact Nat.le_refl _)
      exact ⟨rfl, ⟨!lx, m, f, hm, by rw [hv, hly]; cases lx <;> simp [sv] <;> omega, hWn⟩, gb_trans (gb_trans (gb_below hb1) (gb_below hz1)) hgr⟩

end Go.Proofs.YtgdlfjofefhdoaaGreatDoor

namespace Go.Proofs.YtgdlfjofefhdoaaGreatDoor
open Go.RowKit Go.Sort Go.Lib Mb

theorem dg_room_k {a : Int} (k q : Nat) (hk : 1 ≤ k) (hm : k ≤ 9 * q) (h : (dg a).length ≤ k) : (a.natAbs : Int) < B ^ q := by
  have h1 : a.natAbs < 10 ^ k := (decDigits_len_le hk).1 h
  have h2 : (10 : Nat) ^ k ≤ 10 ^ (9 * q) := Nat.pow_le_pow_right (by decide) hm
  have h3 : B ^ q = ((10 ^ (9 * q) : Nat) : Int) := by
    rw [Nat.pow_mul]
    have : B = ((10 ^ 9 : Nat) : Int) := by decide
    rw [this]
    exact (Int.natCast_pow _ _).symm
  rw [h3]
  exact Int.ofNat_lt.2 (Nat.lt_of_lt_of_le h1 h2)
theorem dg_room {a : Int} (h : (dg a).length ≤ 1024) : (a.natAbs : Int) < B ^ 114 := dg_room_k 1024 114 (by decide) (by decide) h

theorem sv_of (a : Int) : sv (decide (a < 0)) (a.natAbs : Int) = a := by
  unfold sv
  by_cases h : a < 0
  · rw [decide_eq_true h]; simp; omega
  · rw [decide_eq_false h]; simp; omega

theorem sv_mul (l m : Bool) (u v : Int) : sv (l != m) (u * v) = sv l u * sv m v := by
  cases l <;> cases m <;> simp [sv, Int.neg_mul, Int.mul_neg]

theorem sv_abs {l : Bool} {v s : Int} (hv : 0 ≤ v) (h : sv l v = s) : v = (s.natAbs : Int) := by
  cases l <;> simp [sv] at h <;> omega

set_option maxHeartbeats 1600000 in
theorem muls_calls (a b : Int) (w : World) (hg : Good w) (hda : (dg a).length ≤ 1024) (hdb : (dg b).length ≤ 1024) (hd : (dg (a * b)).length ≤ 1024) :
    Calls Tryz.prog 73 #[S a, S b] w fun e w' => e = .returned (.tuple #[S (a * b), .int .i64 0]) ∧ Below w.heap.size w w' := by
  by_cases hsh : (itoa a).length ≤ 9 ∧ (itoa b).length ≤ 9
  · exact mul_short a b w hg hsh.1 hsh.2
  · have HH := Lib.hid (And.intro hg (And.intro (dg_room hda) (And.intro (dg_room hdb) hd))); clear hg hd
    go_enter Tryz.func73, Tryz.ntmps73
    go_wp2_with fail
    refine (all_calls [a, b] _ _ _ (txts2 w a b _) (by simp [hda, hdb]) (by simp)).mono ?_
    rintro e w1 ⟨rfl, hb1⟩
    go_wp2_with fail
    refine (small_no a b _ (by omega)).mono ?_
    rintro e w2 ⟨rfl, hb2⟩
    have H2 := Lib.hid (below_trans (below_trans (alloc_below w _) hb1) hb2); clear hb1 hb2
    go_wp2_with fail
    refine (read_calls a _ hda).mono ?_
    rintro e w3 ⟨b1, m1, f1, rfl, _, hm1, hv1, hw1, hb3⟩
    have H3 := Lib.hid (And.intro hm1 (And.intro hv1 (And.intro hw1 (below_trans H2.out hb3)))); clear hm1 hv1 hw1 hb3
    go_wp2_with fail
    refine (read_calls b _ hdb).mono ?_
    rintro e w4 ⟨b2, m2, f2, rfl, _, hm2, hv2, hw2, hb4⟩
    have H4 := Lib.hid (And.intro hm2 (And.intro hv2 (And.intro hw2 (And.intro (H3.out.2.2.1.to hb4) (below_trans H3.out.2.2.2 hb4))))); clear hm2 hv2 hw2 hb4
    have hp1 : m1 ≤ 114 := mag_words H3.out.1 (by rw [H3.out.2.1]; exact HH.out.2.1)
    have hp2 : m2 ≤ 114 := mag_words H4.out.1 (by rw [H4.out.2.1]; exact HH.out.2.2.1)
    go_wp2_with fail
    refine (times_calls b1 b2 _ _ m1 m2 f1 f2 _ H4.out.2.2.2.1 H4.out.2.2.1 H3.out.1 H4.out.1 (by omega)).mono ?_
    rintro e w5 ⟨b3, m3, f3, rfl, _, hm3, hv3, hw3, hb5⟩
    have hs : sv (decide (a < 0) != decide (b < 0)) (val f3 m3) = a * b := by
      rw [hv3, H3.out.2.1, H4.out.2.1, sv_mul, sv_of, sv_of]
    have H5 := Lib.hid (And.intro hm3 (And.intro hs (And.intro hw3 (below_trans H4.out.2.2.2.2 hb5)))); clear hm3 hv3 hw3 hb5 hp1 hp2 hs
    have HL := limiteds_calls b3 m3 _ f3 w5 (HH.out.1.to H5.out.2.2.2) H5.out.2.2.1 H5.out.1 (by rw [H5.out.2.1]; exact HH.out.2.2.2)
    rw [H5.out.2.1] at HL
    go_wp2_with fail
    refine HL.mono ?_
    rintro e w6 ⟨rfl, hb6⟩
    clear HL
    go_wp2_with fail
    go_ret2
    exact ⟨rfl, below_trans H5.out.2.2.2 hb6⟩

theorem room2 {a b : Int} (ha : (a.natAbs : Int) < B ^ 114) (hb : (b.natAbs : Int) < B ^ 114) : (a.natAbs : Int) + b.natAbs < B ^ 232 := by
  have h1 : B ^ 114 * B ≤ B ^ 232 := by rw [← pow_succ']; exact pow_mono (by decide)
  have h2 := pow_pos' 114
  have h3 : B ^ 114 * 2 ≤ B ^ 114 * B := Int.mul_le_mul_of_nonneg_left (by decide) (by omega)
  omega

set_option maxRecDepth 100000 in
set_option maxHeartbeats 1600000 in
theorem sums_calls (a b : Int) (blk : Nat) (w : World) (hg : Good w) (hT : Txts w blk [a, b]) (hda : (dg a).length ≤ 1024) (hdb : (dg b).length ≤ 1024) (hd : (dg (a + b)).length ≤ 1024) :
    Calls Tryz.prog 126 #[.slice (some ⟨blk, 0, none⟩) 2 2] w fun e w' => e = .returned (.tuple #[S (a + b), .int .i64 0]) ∧ Below w.heap.size w w' := by
  have t0 := hT.2 0 (by simp)
  have t1 := hT.2 1 (by simp)
  simp only [List.getElem_cons_zero, List.getElem_cons_succ] at t0 t1
  have HH := Lib.hid (And.intro hg (And.intro t0 (And.intro t1 (room2 (dg_room hda) (dg_room hdb))))); clear hg t0 t1 hT
  go_enter Tryz.func126, Tryz.ntmps126
  go_wp2_with fail
  rw [zero_wc]
  obtain ⟨w1, hw1⟩ : ∃ w1, w1 = w.alloc (.cells (wc false 0 (fun _ => 0)) 193) := ⟨_, rfl⟩
  rw [← hw1]
  have hW : Wide w1 w.heap.size false 0 (fun _ => 0) := by rw [hw1]; exact wide_new _ _ _ _
  have hB : Below w.heap.size w w1 := by rw [hw1]; exact alloc_below _ _
  clear hw1
  obtain ⟨x, hx⟩ : ∃ x, x = w.heap.size := ⟨_, rfl⟩
  rw [← hx] at hW ⊢
  have HX := Lib.hid hx; clear hx
  go_loopg [11] 2 (fun g v wr => ∃ (i m : Nat) (l : Bool) (f : Nat → Int), i + g = 2 ∧ v = .int .i64 i ∧ Mag f m ∧ sv l (val f m) = (if i = 0 then 0 else if i = 1 then a else a + b) ∧ Wide wr x l m f ∧ Below w.heap.size w wr)
  case atStart => exact ⟨0, 0, false, fun _ => 0, rfl, rfl, Mag.zero, rfl, hW, hB⟩
  case round =>
    clear hW hB
    obtain ⟨i, m, l, f, hi, rfl, hm, hv, hW, hbel⟩ := hrel
    match i, hi with
    | 0, hi =>
      have t0 := cellT HH.out.2.1 hbel
      have H0 := Lib.hid (And.intro hm (And.intro hv (And.intro hW hbel))); clear hm hv hW hbel
      go_wp2_with fail
      refine (read_calls a _ hda).mono ?_
      rintro e w2 ⟨b1, m1, f1, rfl, hnew, hm1, hv1, hw1, hb2⟩
      have hne : x ≠ b1 := by have := H0.out.2.2.1.lt; omega
      have hz : val f m = 0 := by have := sv_abs H0.out.1.bd.1 H0.out.2.1; simpa using this
      have H := pluss_calls x b1 l _ m m1 f f1 w2 (H0.out.2.2.1.to hb2) hw1 hne H0.out.1 hm1 (by rw [hz, hv1]; have := HH.out.2.2.2; omega)
      rw [H0.out.2.1, hv1, sv_of] at H
      have H2 := Lib.hid (below_trans H0.out.2.2.2 hb2); clear hw1 hm1 hv1 hb2 t0 hnew hne hz
      go_wp2_with fail
      refine H.mono ?_
      rintro e w3 ⟨rfl, h3, hg3⟩
      have H3 := Lib.hid (And.intro h3 hg3); clear H h3 hg3
      go_wp2_with fail
      go_roundg 1
      case measure => omega
      case rel =>
        obtain ⟨⟨l', m', f', h1, h2, h3⟩, h4⟩ := H3.out
        exact ⟨1, m', l', f', rfl, rfl, h1, by rw [h2]; simp, h3, below_gb H2.out h4 H2.out.size (by rw [HX.out]; exact Nat.le_refl _)⟩
    | 1, hi =>
      have t1 := cellT HH.out.2.2.1 hbel
      have H0 := Lib.hid (And.intro hm (And.intro hv (And.intro hW hbel))); clear hm hv hW hbel
      go_wp2_with fail
      refine (read_calls b _ hdb).mono ?_
      rintro e w2 ⟨b1, m1, f1, rfl, hnew, hm1, hv1, hw1, hb2⟩
      have hne : x ≠ b1 := by have := H0.out.2.2.1.lt; omega
      have hv0 : sv l (val f m) = a := by rw [H0.out.2.1]; simp
      have hz : val f m = (a.natAbs : Int) := sv_abs H0.out.1.bd.1 hv0
      have H := pluss_calls x b1 l _ m m1 f f1 w2 (H0.out.2.2.1.to hb2) hw1 hne H0.out.1 hm1 (by rw [hz, hv1]; have := HH.out.2.2.2; omega)
      rw [hv0, hv1, sv_of] at H
      have H2 := Lib.hid (below_trans H0.out.2.2.2 hb2); clear hw1 hm1 hv1 hb2 t1 hnew hne hv0 hz
      go_wp2_with fail
      refine H.mono ?_
      rintro e w3 ⟨rfl, h3, hg3⟩
      have H3 := Lib.hid (And.intro h3 hg3); clear H h3 hg3
      go_wp2_with fail
      go_roundg 0
      case measure => omega
      case rel =>
        obtain ⟨⟨l', m', f', h1, h2, h3⟩, h4⟩ := H3.out
        exact ⟨2, m', l', f', rfl, rfl, h1, by rw [h2]; simp, h3, below_gb H2.out h4 H2.out.size (by rw [HX.out]; exact Nat.le_refl _)⟩
    | 2, hi =>
      have hv' : sv l (val f m) = a + b := by rw [hv]; simp
      have HL := limiteds_calls x m l f wr (HH.out.1.to hbel) hW hm (by rw [hv']; exact hd)
      rw [hv'] at HL
      have H0 := Lib.hid hbel; clear hm hv hW hbel hv'
      go_wp2_with fail
      refine HL.mono ?_
      rintro e w6 ⟨rfl, hb6⟩
      clear HL
      go_wp2_with fail
      go_ret2
      exact ⟨rfl, below_trans H0.out hb6⟩
    | i + 3, hi => omega

set_option maxHeartbeats 1600000 in
theorem adds_calls (a b : Int) (w : World) (hg : Good w) (hda : (dg a).length ≤ 1024) (hdb : (dg b).length ≤ 1024) (hd : (dg (a + b)).length ≤ 1024) :
    Calls Tryz.prog 74 #[S a, S b] w fun e w' => e = .returned (.tuple #[S (a + b), .int .i64 0]) ∧ Below w.heap.size w w' := by
  by_cases hsh : (itoa a).length ≤ 9 ∧ (itoa b).length ≤ 9
  · exact add_short a b w hg hsh.1 hsh.2
  · have HH := Lib.hid hg; clear hg
    go_enter Tryz.func74, Tryz.ntmps74
    go_wp2_with fail
    refine (all_calls [a, b] _ _ _ (txts2 w a b _) (by simp [hda, hdb]) (by simp)).mono ?_
    rintro e w1 ⟨rfl, hb1⟩
    go_wp2_with fail
    refine (small_no a b _ (by omega)).mono ?_
    rintro e w2 ⟨rfl, hb2⟩
    have H2 := Lib.hid (below_trans (below_trans (alloc_below w _) hb1) hb2); clear hb1 hb2
    go_wp2_with fail
    refine (sums_calls a b _ _ ((HH.out.to H2.out).alloc _) (txts2 w2 a b _) hda hdb hd).mono ?_
    rintro e w3 ⟨rfl, hb3⟩
    go_wp2_with fail
    go_ret2
    exact ⟨rfl, below_trans H2.out (below_trans (alloc_below _ _) hb3)⟩

end Go.Proofs.YtgdlfjofefhdoaaGreatDoor

namespace Go.Proofs.YtgdlfjofefhdoaaGreatDoor
open Go.RowKit Go.Sort Go.Lib Mb

theorem sv_div {a b : Int} (hb : 0 < b) (h : b ∣ a) (l : Bool) (hl : l = decide (a < 0)) : sv l ((a.natAbs : Int) / b) = a / b := by
  obtain ⟨q, rfl⟩ := h
  have e : ((b * q).natAbs : Int) = b * (q.natAbs : Int) := by
    rw [Int.natAbs_mul]; push_cast; rw [show (b.natAbs : Int) = b by omega]
  rw [e, Int.mul_ediv_cancel_left _ (by omega), Int.mul_ediv_cancel_left _ (by omega), hl]
  unfold sv
  by_cases hq : q < 0
  · have : b * q < 0 := Int.mul_neg_of_pos_of_neg hb hq
    rw [decide_eq_true this]; simp; omega
  · have : ¬ b * q < 0 := by have := Int.mul_nonneg (Int.le_of_lt hb) (show 0 ≤ q by omega); omega
    rw [decide_eq_false this]; simp; omega

set_option maxRecDepth 100000 in
set_option maxHeartbeats 3200000 in
theorem parteds_calls (a b : Int) (w : World) (hg : Good w) (hda : (dg a).length ≤ 1024) (hdb : (dg b).length ≤ 1024) (hb : 0 < b) (hab : b ∣ a) (hno : 9 < (itoa a).length ∨ 9 < (itoa b).length) :
    Calls Tryz.prog 200 #[S a, S b] w fun e w' => e = .returned (.tuple #[S (a / b), S 0, .int .i64 0]) ∧ Below w.heap.size w w' := by
  have hne : (itoa b == [48]) = false := itoa_zero (by omega)
  have HH := Lib.hid (And.intro hg (And.intro (dg_room hda) (And.intro (dg_room hdb) hab))); clear hg hab
  go_enter Tryz.func200, Tryz.ntmps200
  go_wp2_with fail
  refine (all_calls [a, b] _ _ _ (txts2 w a b _) (by simp [hda, hdb]) (by simp)).mono ?_
  rintro e w1 ⟨rfl, hb1⟩
  go_wp2_with fail
  refine (small_no a b _ hno).mono ?_
  rintro e w2 ⟨rfl, hb2⟩
  have H2 := Lib.hid (below_trans (below_trans (alloc_below w _) hb1) hb2); clear hb1 hb2
  go_wp2_with fail
  refine (read_calls a _ hda).mono ?_
  rintro e w3 ⟨b1, m1, f1, rfl, hn1, hm1, hv1, hw1, hb3⟩
  have H3 := Lib.hid (And.intro hm1 (And.intro hv1 (And.intro hw1 (And.intro (below_trans H2.out hb3) hn1)))); clear hm1 hv1 hw1 hb3 hn1
  go_wp2_with fail
  refine (read_calls b _ hdb).mono ?_
  rintro e w4 ⟨b2, m2, f2, rfl, hn2, hm2, hv2, hw2, hb4⟩
  have hm20 : m2 ≠ 0 := by
    intro e
    have := (Mag.eq_zero hm2).2 e
    omega
  obtain ⟨m, rfl⟩ : ∃ m, m2 = m + 1 := ⟨m2 - 1, by omega⟩
  have hp2 : m + 1 ≤ 114 := mag_words hm2 (by rw [hv2]; exact HH.out.2.2.1)
  have hw1' := H3.out.2.2.1.to hb4
  have hbv : (b.natAbs : Int) = b := by omega
  rw [hbv] at hv2
  rw [decide_eq_false (show ¬ b < 0 by omega)] at hw2
  have HD := divided_calls b1 b2 m1 m _ _ f1 f2 w4 hw1' hw2 H3.out.1 hm2 (by omega)
  rw [hv2, H3.out.2.1] at HD
  have H4 := Lib.hid (And.intro hm2 (And.intro hw2 (And.intro hw1' (And.intro (below_trans H3.out.2.2.2.1 hb4) (And.intro hn2 hp2))))); clear hm2 hw2 hv2 hb4 hw1' hn2 hm20 hp2
  go_wp2_with fail
  refine HD.mono ?_
  rintro e w5 ⟨bq, br, mq, mr, q, r, rfl, ⟨hq1, hq2, hq3⟩, ⟨hr1, hr2, hr3⟩, ⟨hn3, hn4, hne1⟩, hb5⟩
  clear HD
  have hdz : (a.natAbs : Int) % b = 0 := by
    have h1 := Int.dvd_natAbs.2 HH.out.2.2.2
    exact Int.emod_eq_zero_of_dvd h1
  rw [hdz] at hr2
  have hmr : mr = 0 := (Mag.eq_zero hr1).1 hr2
  subst hmr
  have hx5 := H4.out.2.2.1.to hb5
  have hy5 := H4.out.2.1.to hb5
  have k1 := hx5.c0
  have k2 := hy5.c0
  have k3 := hq3.c0
  have k4 := hr3.c0
  have k5 := hq3.free 0
  have k6 := hr3.free 0
  obtain ⟨la, hla⟩ : ∃ la, decide (a < 0) = la := ⟨_, rfl⟩
  rw [hla] at k1 hx5
  have H5 := Lib.hid (And.intro hq1 (And.intro hq2 (And.intro hq3 (And.intro hr1 (And.intro hr3 (And.intro hx5 (And.intro hy5 (And.intro (below_trans H4.out.2.2.2.1 hb5) hla))))))))
  clear hq1 hq2 hq3 hr1 hr3 hx5 hy5 hb5 hdz hr2 hla
  go_wp2_with fail
  go_region
  obtain ⟨w6, hw6⟩ : ∃ w6, w6 = ((w5.setCell ⟨bq, 0, none⟩ (.bool la)).setCell ⟨br, 0, none⟩ (.bool la)).drew := ⟨_, rfl⟩
  rw [← hw6]
  have hb6 : Below w.heap.size w w6 := by
    rw [hw6]
    obtain ⟨hq1, hq2, hq3, hr1, hr3, hx5, hy5, hb5, hla⟩ := H5.out
    have h1 := hb5.size
    have h2 := H4.out.2.2.2.1.size
    exact ((hb5.setCell (p := ⟨bq, 0, none⟩) (by show w.heap.size ≤ bq; omega) _).setCell (p := ⟨br, 0, none⟩) (by show w.heap.size ≤ br; omega) _).drew
  have hq6 : Wide w6 bq la mq q := by
    rw [hw6]
    exact (((H5.out.2.2.1.setL la).grown (gb_set _ br 0 _) (by simp; exact hne1))).drew
  have hr6 : Wide w6 br la 0 r := by
    rw [hw6]
    exact ((H5.out.2.2.2.2.1.grown (gb_set _ bq 0 _) (by simp; exact fun e => hne1 e.symm)).setL la).drew
  have k7 := hr6.c1
  have hval : sv la (val q mq) = a / b := by
    rw [H5.out.2.1]
    exact sv_div hb HH.out.2.2.2 la H5.out.2.2.2.2.2.2.2.2.symm
  have H6 := Lib.hid (And.intro hq6 (And.intro hr6 (And.intro hb6 hval)))
  clear hw6 k1 k2 k3 k4 k5 k6 hq6 hr6 hb6 hval
  go_wp2_with fail
  go_quiet (fail)
  go_wp2_with fail
  have hb7 : Below w.heap.size w (w6.drewN nq) := below_trans H6.out.2.2.1 (bel_dn _ _)
  have HT := texts_calls bq mq la q (w6.drewN nq) (HH.out.1.to hb7) (H6.out.1.drewN _) H5.out.1
  rw [H6.out.2.2.2] at HT
  refine HT.mono ?_
  rintro e w7 ⟨rfl, hb8⟩
  have H7 := Lib.hid (And.intro (below_trans hb7 hb8) ((H6.out.2.1.drewN nq).to hb8)); clear HT hb7 hb8 k7
  go_wp2_with fail
  refine (text0_calls br la r w7 H7.out.2).mono ?_
  rintro e w8 ⟨rfl, hb9⟩
  go_wp2_with fail
  go_ret3
  exact ⟨rfl, below_trans H7.out.1 hb9⟩

set_option maxRecDepth 100000 in
set_option maxHeartbeats 800000 in
/-- short numbers, the first one negative, the division going up -/
theorem partedm_short (a b : Int) (w : World) (hg : Good w) (ha : (itoa a).length ≤ 9) (hb : (itoa b).length ≤ 9) (h0 : a < 0) (h1 : 0 < b) (hab : b ∣ a) :
    Calls Tryz.prog 200 #[S a, S b] w fun e w' => e = .returned (.tuple #[S (a / b), S 0, .int .i64 0]) ∧ Below w.heap.size w w' := by
  have ba := itoa_bd ha (by omega)
  have bb := itoa_bd hb (by omega)
  have hda : (dg a).length ≤ 1024 := by have := dg_le_itoa a; omega
  have hdb : (dg b).length ≤ 1024 := by have := dg_le_itoa b; omega
  have hz := itoa_zero (n := b) (by omega)
  have hq : a.tdiv b = a / b := by
    obtain ⟨q, rfl⟩ := hab
    rw [Int.mul_tdiv_cancel_left _ (by omega), Int.mul_ediv_cancel_left _ (by omega)]
  have hr : a.tmod b = 0 := Int.tmod_eq_zero_of_dvd hab
  have hqb : -1000000000 < a / b ∧ a / b ≤ 0 := by
    obtain ⟨q, rfl⟩ := hab
    rw [Int.mul_ediv_cancel_left _ (by omega)]
    have e1 : q < 0 := by
      rcases Int.lt_or_le q 0 with h | h
      · exact h
      · have := Int.mul_nonneg (Int.le_of_lt h1) h; omega
    have e2 : b * q ≤ 1 * q := Int.mul_le_mul_of_nonpos_right (by omega) (by omega)
    omega
  obtain ⟨q, hqq⟩ : ∃ q, a / b = q := ⟨_, rfl⟩
  rw [hqq] at hq hqb ⊢
  have i1 : IntKind.i64.wrap q = q := IntWalk.i64_in _ (by omega)
  have i2 : b ≠ 0 := by omega
  have i3 : (b == 0) = false := by rw [beq_eq_false_iff_ne]; exact i2
  clear hqq hab
  go_enter Tryz.func200, Tryz.ntmps200
  go_wp2_with fail
  refine (all_calls [a, b] _ _ _ (txts2 w a b _) (by simp [hda, hdb]) (by simp)).mono ?_
  rintro e w1 ⟨rfl, hb1⟩
  go_wp2_with fail
  refine (small_yes a b _ ha hb).mono ?_
  rintro e w2 ⟨rfl, hb2⟩
  have hbb := below_trans (below_trans (alloc_below w _) hb1) hb2
  go_wp2_with fail
  go_quiet (fail)
  go_wp2_with fail
  refine (of_calls _ _ (hg.to (below_trans hbb (bel_dn _ _))) (by omega) (by omega)).mono ?_
  rintro e w3 ⟨rfl, hb3⟩
  go_wp2_with fail
  refine (of_calls _ _ ((hg.to (below_trans hbb (bel_dn _ _))).to hb3) (by omega) (by omega)).mono ?_
  rintro e w4 ⟨rfl, hb4⟩
  go_wp2_with fail
  go_ret3
  exact ⟨rfl, below_trans (below_trans (below_trans hbb (bel_dn _ _)) hb3) hb4⟩

theorem parted_calls (a b : Int) (w : World) (hg : Good w) (hda : (dg a).length ≤ 1024) (hdb : (dg b).length ≤ 1024) (hb : 0 < b) (hab : b ∣ a) :
    Calls Tryz.prog 200 #[S a, S b] w fun e w' => e = .returned (.tuple #[S (a / b), S 0, .int .i64 0]) ∧ Below w.heap.size w w' := by
  by_cases hsh : (itoa a).length ≤ 9 ∧ (itoa b).length ≤ 9
  · by_cases h0 : 0 ≤ a
    · have := parted_short a b w hg hsh.1 hsh.2 h0 hb
      rwa [Int.emod_eq_zero_of_dvd hab] at this
    · exact partedm_short a b w hg hsh.1 hsh.2 (by omega) hb hab
  · exact parteds_calls a b w hg hda hdb hb hab (by omega)

theorem dg_quo_k {a b : Int} (k : Nat) (hk : 1 ≤ k) (h : (dg a).length ≤ k) (hb : 0 < b) (hab : b ∣ a) : (dg (a / b)).length ≤ k := by
  have h1 : a.natAbs < 10 ^ k := (decDigits_len_le hk).1 h
  refine (decDigits_len_le hk).2 (Nat.lt_of_le_of_lt ?_ h1)
  obtain ⟨q, rfl⟩ := hab
  rw [Int.mul_ediv_cancel_left _ (by omega), Int.natAbs_mul]
  exact Nat.le_mul_of_pos_left _ (by omega)
theorem dg_quo {a b : Int} (h : (dg a).length ≤ 1024) (hb : 0 < b) (hab : b ∣ a) : (dg (a / b)).length ≤ 1024 := dg_quo_k 1024 (by decide) h hb hab

theorem quos_calls (a b : Int) (w : World) (hg : Good w) (hda : (dg a).length ≤ 1024) (hdb : (dg b).length ≤ 1024) (hb : 0 < b) (hab : b ∣ a) :
    Calls Tryz.prog 174 #[S a, S b] w fun e w' => e = .returned (.tuple #[S (a / b), .int .i64 0]) ∧ Below w.heap.size w w' := by
  have hdq := dg_quo hda hb hab
  go_enter Tryz.func174, Tryz.ntmps174
  go_wp2_with fail
  refine (parted_calls a b w hg hda hdb hb hab).mono ?_
  rintro e w1 ⟨rfl, hb1⟩
  go_wp2_with fail
  refine (check_calls (a / b) _ hdq).mono ?_
  rintro e w2 ⟨rfl, hb2⟩
  go_wp2_with fail
  go_ret2
  exact ⟨rfl, below_trans hb1 hb2⟩

end Go.Proofs.YtgdlfjofefhdoaaGreatDoor

namespace Go.Proofs.YtgdlfjofefhdoaaGreatDoor
open Go.RowKit Go.Sort Go.Lib Mb

set_option maxRecDepth 100000 in
set_option maxHeartbeats 3200000 in
theorem gcds_calls (a b : Int) (w : World) (hg : Good w) (hda : (dg a).length ≤ 1024) (hdb : (dg b).length ≤ 1024) :
    Calls Tryz.prog 164 #[S a, S b] w fun e w' => e = .returned (.tuple #[S (Int.gcd a b), .int .i64 0]) ∧ Below w.heap.size w w' := by
  have HH := Lib.hid (And.intro hg (And.intro (dg_room hda) (dg_room hdb))); clear hg
  go_enter Tryz.func164, Tryz.ntmps164
  go_wp2_with fail
  refine (all_calls [a, b] _ _ _ (txts2 w a b _) (by simp [hda, hdb]) (by simp)).mono ?_
  rintro e w1 ⟨rfl, hb1⟩
  have H1 := Lib.hid (below_trans (alloc_below w _) hb1); clear hb1
  go_wp2_with fail
  refine (read_calls a _ hda).mono ?_
  rintro e w2 ⟨b1, m1, f1, rfl, hn1, hm1, hv1, hw1, hb2⟩
  have H2 := Lib.hid (And.intro hm1 (And.intro hv1 (And.intro hw1 (And.intro (below_trans H1.out hb2) (show w.heap.size ≤ b1 by have := H1.out.size; omega))))); clear hm1 hv1 hw1 hb2 hn1
  go_wp2_with fail
  refine (read_calls b _ hdb).mono ?_
  rintro e w3 ⟨b2, m2, f2, rfl, hn2, hm2, hv2, hw2, hb3⟩
  have H3 := Lib.hid (And.intro hm2 (And.intro hv2 (And.intro hw2 (And.intro (below_trans H2.out.2.2.2.1 hb3) (And.intro (show w.heap.size ≤ b2 by have := H2.out.2.2.2.1.size; omega) (H2.out.2.2.1.to hb3)))))); clear hm2 hv2 hw2 hb3 hn2
  go_wp2_with fail
  go_loopg [7, 8] (val f2 m2).toNat (fun g p q wr => ∃ (x y mx my : Nat) (fx fy : Nat → Int) (lx ly : Bool), p = .pointer (some ⟨x, 0, none⟩) ∧ q = .pointer (some ⟨y, 0, none⟩) ∧ Mag fx mx ∧ Mag fy my ∧ Wide wr x lx mx fx ∧ Wide wr y ly my fy ∧ Int.gcd (val fx mx) (val fy my) = Int.gcd a b ∧ (val fy my).toNat = g ∧ my ≤ 114 ∧ Below w.heap.size w wr ∧ w.heap.size ≤ x ∧ w.heap.size ≤ y)
  case atStart =>
    refine ⟨b1, b2, m1, m2, f1, f2, _, _, rfl, rfl, H2.out.1, H3.out.1, H3.out.2.2.2.2.2, H3.out.2.2.1, ?_, rfl, mag_words H3.out.1 (by rw [H3.out.2.1]; exact HH.out.2.2), H3.out.2.2.2.1, H2.out.2.2.2.2, H3.out.2.2.2.2.1⟩
    rw [H2.out.2.1, H3.out.2.1]
    simp [Int.gcd]
  case round =>
    obtain ⟨x, y, mx, my, fx, fy, lx, ly, rfl, rfl, hmx, hmy, hWx, hWy, hgcd, hms, hyn, hbel, hnx, hny⟩ := hrel
    have cx1 := hWx.c1
    have cy1 := hWy.c1
    cases my with
    | zero =>
      have fx0 := hWx.free 0
      have cx0 := hWx.c0
      have hv : val fx mx = (Int.gcd a b : Int) := by
        have h0 : val fy 0 = 0 := rfl
        rw [h0, Int.gcd_zero_right] at hgcd
        have := hmx.bd.1
        omega
      have HT := texts_calls x mx false fx (wr.setCell ⟨x, 0, none⟩ (.bool false)) (HH.out.1.to (hbel.setCell (p := ⟨x, 0, none⟩) hnx _)) (hWx.setL false) hmx
      rw [show sv false (val fx mx) = val fx mx from rfl, hv] at HT
      have HB := Lib.hid (hbel.setCell (p := ⟨x, 0, none⟩) hnx (.bool false))
      clear hmx hmy hWx hWy hgcd hms hbel hnx hny hv
      go_wp2_with fail
      refine HT.mono ?_
      rintro e w8 ⟨rfl, hb9⟩
      go_wp2_with fail
      go_ret2
      exact ⟨rfl, below_trans HB.out hb9⟩
    | succ m =>
      have i0 : (0 : Int) < ((m + 1 : Nat) : Int) := by omega
      by_cases hx1 : mx ≤ 1
      · by_cases hy1 : m + 1 ≤ 1
        · have hm0 : m = 0 := by omega
          subst hm0
          have hbx := hmx.wd 0
          have hby := hmy.wd 0
          have cx2 : wr.cell? ⟨x, 2, none⟩ = some (.int .i64 (fx 0)) := hWx.cw 0 (by omega)
          have cy2 : wr.cell? ⟨y, 2, none⟩ = some (.int .i64 (fy 0)) := hWy.cw 0 (by omega)
          have hvx : val fx mx = fx 0 := by rw [← hmx.ext hx1]; simp [val]
          have hvy : val fy 1 = fy 0 := by simp [val]
          obtain ⟨u, hu⟩ : ∃ u, fx 0 = u := ⟨_, rfl⟩
          obtain ⟨v, hv⟩ : ∃ v, fy 0 = v := ⟨_, rfl⟩
          rw [hu] at cx2 hbx hvx
          rw [hv] at cy2 hby hvy
          rw [hvx, hvy] at hgcd
          have hmx1 : (mx : Int) ≤ 1 := by omega
          have HI := Lib.hid (And.intro hgcd hbel)
          clear hu hv hvx hvy hgcd hbel hmx hmy hWx hWy hms hnx hny hyn hx1 hy1
          go_wp2_with fail
          go_quiet (fail)
          go_wp2_with fail
          clear cx1 cy1 cx2 cy2 hmx1
          have hB : B = 1000000000 := rfl
          have hB' := Lib.hid hB; clear hB
          have hbx' : 0 ≤ u ∧ u < 1000000000 := hbx
          have hby' : 0 ≤ v ∧ v < 1000000000 := hby
          clear hbx hby
          go_loopg [9, 10] v.toNat (fun g p q wr' => ∃ i j : Int, p = .int .i64 i ∧ q = .int .i64 j ∧ 0 ≤ i ∧ i < 1000000000 ∧ 0 ≤ j ∧ j < 1000000000 ∧ j.toNat = g ∧ Int.gcd i j = Int.gcd u v ∧ Below w.heap.size w wr')
          case atStart => exact ⟨u, v, rfl, rfl, hbx'.1, hbx'.2, hby'.1, hby'.2, rfl, rfl, below_trans HI.out.2 (bel_dn _ _)⟩
          case round =>
            obtain ⟨i, j, rfl, rfl, i0, i1, j0, j1, hj, hgcd, hbel⟩ := hrel
            have H := Lib.hid (And.intro hj (And.intro hgcd hbel)); clear hj hgcd hbel
            by_cases hz : j = 0
            · subst hz
              go_wp2_with fail
              refine (of_calls _ _ (HH.out.1.to H.out.2.2) (by omega) (by omega)).mono ?_
              rintro e w4 ⟨rfl, hb4⟩
              go_wp2_with fail
              go_ret2
              refine ⟨?_, below_trans H.out.2.2 hb4⟩
              have h2 := H.out.2.1
              have h3 := HI.out.1
              have e1 : i = (Int.gcd a b : Int) := by
                have h4 : Int.gcd i 0 = i.natAbs := by simp
                omega
              rw [e1]; rfl
            · have hnz : (j != 0) = true := by simpa using hz
              have hpos : 0 < j := by omega
              have hm1 := Int.emod_nonneg i hz
              have hm2 := Int.emod_lt_of_pos i hpos
              clear hz
              go_wp2_with fail
              go_quiet (fail)
              go_wp2_with fail
              go_roundg (i % j).toNat
              case measure => have := H.out.1; omega
              case rel => exact ⟨j, i % j, rfl, rfl, by omega, by omega, hm1, by omega, rfl, (gcd_step i0 hpos).trans H.out.2.1, below_trans H.out.2.2 (bel_dn _ _)⟩
        · have j1 : (mx : Int) ≤ 1 := by omega
          have j2 : ¬ ((m + 1 : Nat) : Int) ≤ 1 := by omega
          have HD := divided_calls x y mx m lx ly fx fy wr hWx hWy hmx hmy (by omega)
          have hY0 := hmy.low
          have hp0 := pow_pos' m
          have HI := Lib.hid (And.intro hgcd (And.intro hbel (And.intro hyn (And.intro hny (And.intro hWy (And.intro hmy (And.intro hmx (And.intro hY0 (And.intro hp0 hms)))))))))
          clear hgcd hbel hyn hny hWy hWx hmy hmx hY0 hp0 hms hnx
          go_wp2_with fail
          refine HD.mono ?_
          rintro e w5 ⟨bq, br, mq, mr, q, r, rfl, ⟨hq1, hq2, hq3⟩, ⟨hr1, hr2, hr3⟩, ⟨hn3, hn4, hne1⟩, hb5⟩
          clear HD cx1 cy1
          have H5 := Lib.hid (And.intro hr1 (And.intro hr2 (And.intro hr3 (And.intro hn4 hb5)))); clear hr1 hr2 hr3 hn4 hb5 hq1 hq2 hq3 hn3 hne1
          go_wp2_with fail
          obtain ⟨hgcd, hbel, hyn, hny, hWy, hmy, hmx, hY0, hp0, hms⟩ := HI.out
          obtain ⟨hr1, hr2, hr3, hn4, hb5⟩ := H5.out
          have hr0 : val r mr < val fy (m + 1) := by rw [hr2]; exact Int.emod_lt_of_pos _ (by omega)
          go_roundg (val r mr).toNat
          case measure => have := hr1.bd.1; omega
          case rel =>
            exact ⟨y, br, m + 1, mr, fy, r, ly, false, rfl, rfl, hmy, hr1, hWy.to hb5, hr3, by rw [hr2, gcd_step hmx.bd.1 (by omega)]; exact hgcd, rfl, mag_words hr1 (by have := hmy.bd.2; have := pow_mono hyn; omega), below_trans hbel hb5, hny, by have := hbel.size; omega⟩
      · have j1 : ¬ (mx : Int) ≤ 1 := by omega
        have HD := divided_calls x y mx m lx ly fx fy wr hWx hWy hmx hmy (by omega)
        have hY0 := hmy.low
        have hp0 := pow_pos' m
        have HI := Lib.hid (And.intro hgcd (And.intro hbel (And.intro hyn (And.intro hny (And.intro hWy (And.intro hmy (And.intro hmx (And.intro hY0 (And.intro hp0 hms)))))))))
        clear hgcd hbel hyn hny hWy hWx hmy hmx hY0 hp0 hms hnx
        go_wp2_with fail
        refine HD.mono ?_
        rintro e w5 ⟨bq, br, mq, mr, q, r, rfl, ⟨hq1, hq2, hq3⟩, ⟨hr1, hr2, hr3⟩, ⟨hn3, hn4, hne1⟩, hb5⟩
        clear HD cx1 cy1
        have H5 := Lib.hid (And.intro hr1 (And.intro hr2 (And.intro hr3 (And.intro hn4 hb5)))); clear hr1 hr2 hr3 hn4 hb5 hq1 hq2 hq3 hn3 hne1
        go_wp2_with fail
        obtain ⟨hgcd, hbel, hyn, hny, hWy, hmy, hmx, hY0, hp0, hms⟩ := HI.out
        obtain ⟨hr1, hr2, hr3, hn4, hb5⟩ := H5.out
        have hr0 : val r mr < val fy (m + 1) := by rw [hr2]; exact Int.emod_lt_of_pos _ (by omega)
        go_roundg (val r mr).toNat
        case measure => have := hr1.bd.1; omega
        case rel =>
          exact ⟨y, br, m + 1, mr, fy, r, ly, false, rfl, rfl, hmy, hr1, hWy.to hb5, hr3, by rw [hr2, gcd_step hmx.bd.1 (by omega)]; exact hgcd, rfl, mag_words hr1 (by have := hmy.bd.2; have := pow_mono hyn; omega), below_trans hbel hb5, hny, by have := hbel.size; omega⟩

end Go.Proofs.YtgdlfjofefhdoaaGreatDoor
