/- Package whole: integers with a sign: text, limited, plus. -/
import Derived.Test.YtgdlfjofefhdoaaGreatDoorTextS
import Derived.Test.YtgdlfjofefhdoaaGreatDoorDivH
import Derived.Laws.Rows
import Derived.Deep.WholeRow
namespace Go.Proofs.YtgdlfjofefhdoaaGreatDoor
open Go.RowKit Go.Sort Go.Lib Mb

/-- a value with a sign -/
def sv (l : Bool) (v : Int) : Int := if l then -v else v

theorem text0_calls (b : Nat) (l : Bool) (f : Nat → Int) (w : World) (hW : Wide w b l 0 f) :
    Calls Tryz.prog 154 #[.pointer (some ⟨b, 0, none⟩)] w fun e w' => e = .returned (S 0) ∧ Below w.heap.size w w' := by
  have c1 := hW.c1
  rw [S_zero']
  go_enter Tryz.func154, Tryz.ntmps154
  go_wp2_with fail
  go_ret
  exact ⟨rfl, Below.refl _ _⟩

theorem texts_calls (b n : Nat) (l : Bool) (f : Nat → Int) (w : World) (hg : Good w) (hW : Wide w b l n f) (hm : Mag f n) :
    Calls Tryz.prog 154 #[.pointer (some ⟨b, 0, none⟩)] w fun e w' => e = .returned (S (sv l (val f n))) ∧ Below w.heap.size w w' := by
  cases l with
  | false => exact text_calls b n f w hg hW hm
  | true =>
    cases n with
    | zero => exact text0_calls b true f w hW
    | succ k => exact textn_calls b k f w hg hW hm

theorem limiteds_calls (b n : Nat) (l : Bool) (f : Nat → Int) (w : World) (hg : Good w) (hW : Wide w b l n f) (hm : Mag f n) (hd : (dg (sv l (val f n))).length ≤ 1024) :
    Calls Tryz.prog 125 #[.pointer (some ⟨b, 0, none⟩)] w fun e w' => e = .returned (.tuple #[S (sv l (val f n)), .int .i64 0]) ∧ Below w.heap.size w w' := by
  have H := texts_calls b n l f w hg hW hm
  obtain ⟨v, hv⟩ : ∃ v, sv l (val f n) = v := ⟨_, rfl⟩
  rw [hv] at H hd ⊢
  clear hv hW hm
  go_enter Tryz.func125, Tryz.ntmps125
  go_wp2_with fail
  refine H.mono ?_
  rintro e w1 ⟨rfl, hb1⟩
  clear H
  go_wp2_with fail
  refine (check_calls v _ hd).mono ?_
  rintro e w2 ⟨rfl, hb2⟩
  go_wp2_with fail
  go_ret2
  exact ⟨rfl, below_trans hb1 hb2⟩

/-- carry that takes away -/
theorem carrym_calls (bx by' : Nat) (lx ly : Bool) (xn yn : Nat) (x0 y : Nat → Int) (w : World) (hX : Wide w bx lx xn x0) (hY : Wide w by' ly yn y) (hne : bx ≠ by') (hx : Mag x0 xn) (hy : Mag y yn) (hle : val y yn ≤ val x0 xn) :
    Calls Tryz.prog 153 #[.pointer (some ⟨bx, 0, none⟩), .pointer (some ⟨by', 0, none⟩), .int .i64 (-1), .int .i64 0] w fun e w' => e = .returned (.tuple #[]) ∧
      ((∃ m f, Mag f m ∧ val f m = val x0 xn - val y yn ∧ Wide w' bx lx m f) ∧ w.grownBy w' (some bx)) := by
  have es : sh x0 0 = x0 := by funext i; show x0 (0 + i) = x0 i; rw [Nat.zero_add]
  have hv : val (sh x0 0) (232 - 0) + -1 * val y yn = val x0 xn - val y yn := by
    rw [es, Nat.sub_zero, hx.ext hx.le]; omega
  refine (carry_calls bx by' lx ly xn yn x0 y (-1) 0 w hX hY hne hx hy ⟨by decide, by decide⟩ (by have := hy.le; omega) (by rw [hv]; omega) ?_).mono ?_
  · rw [hv]
    have h1 := hx.bd.2
    have h2 := pow_mono hx.le
    have h3 := hy.bd.1
    rw [Nat.sub_zero]; omega
  · rintro e w' ⟨he, ⟨m, f, h1, h2, h3⟩, h4⟩
    exact ⟨he, ⟨m, f, h1, by rw [h2]; simp; omega, h3⟩, h4⟩

theorem wc_one (l : Bool) (n : Nat) (f : Nat → Int) : (wc l n f).all (·.oneCell') = true := by
  rw [Array.all_eq_true_iff_forall_mem]
  intro v hv
  simp only [wc, Array.mem_append] at hv
  rcases hv with hv | hv
  · simp at hv
    rcases hv with rfl | rfl <;> rfl
  · simp only [Array.mem_ofFn] at hv
    obtain ⟨i, rfl⟩ := hv
    rfl

theorem storeCells_row {P : Program} (w : World) (g : Nat) (t ty : TypeId) (old cells : Array Value) (hg : w.heap[g]? = some (.cells old t (0, 0))) (hi : (P.info? ty).map (·.size) = some cells.size)
    (ho : old.size = cells.size) (h1 : cells.all (·.oneCell') = true) : (storeCells ⟨g, 0, none⟩ cells.toList 0).run P w = .ok () (w.setRow g cells) := by
  have := run_storeVar_row (P := P) w g t ty old cells hg hi ho h1
  cases hq : P.info? ty with
  | none => simp [hq] at hi
  | some i =>
    have hs : cells.size = i.size := by simp [hq] at hi; omega
    simpa [storeVar, sizeOf, typeInfo, hq, Value.cells, hs] using this

theorem sizeW : (Tryz.prog.info? 193).map (·.size) = some 234 := by kernel_rfl

set_option maxRecDepth 100000 in
set_option maxHeartbeats 3200000 in
theorem pluss_calls (bx by' : Nat) (lx ly : Bool) (xn yn : Nat) (x0 y : Nat → Int) (w : World) (hX : Wide w bx lx xn x0) (hY : Wide w by' ly yn y) (hne : bx ≠ by') (hx : Mag x0 xn) (hy : Mag y yn) (h : val x0 xn + val y yn < B ^ 232) :
    Calls Tryz.prog 155 #[.pointer (some ⟨bx, 0, none⟩), .pointer (some ⟨by', 0, none⟩)] w fun e w' => e = .returned (.tuple #[]) ∧
      (∃ l m f, Mag f m ∧ sv l (val f m) = sv lx (val x0 xn) + sv ly (val y yn) ∧ Wide w' bx l m f) ∧ w.grownBy w' (some bx) := by
  have c1 := hX.c0
  have c2 := hY.c0
  by_cases hl : lx = ly
  · subst hl
    have H : ∀ q, Calls Tryz.prog 153 #[.pointer (some ⟨bx, 0, none⟩), .pointer (some ⟨by', 0, none⟩), .int .i64 1, .int .i64 0] (w.drewN q) fun e w' => e = .returned (.tuple #[]) ∧
        ((∃ l m f, Mag f m ∧ sv l (val f m) = sv lx (val x0 xn) + sv lx (val y yn) ∧ Wide w' bx l m f) ∧ w.grownBy w' (some bx)) := fun q =>
      (carryp_calls bx by' lx lx xn yn x0 y 1 0 _ (hX.drewN q) (hY.drewN q) hne hx hy ⟨by decide, by decide⟩ (by have := hy.le; omega) (by simpa using h)).mono fun e w' ⟨he, ⟨m, f, h1, h2, h3⟩, h4⟩ => ⟨he, ⟨lx, m, f, h1, by rw [h2]; cases lx <;> simp [sv] <;> omega, h3⟩, gb_trans (gb_dn w q _) h4⟩
    clear hX hY hx hy h
    have hb : (lx == lx) = true := by simp
    go_enter Tryz.func155, Tryz.ntmps155
    go_wp2_with fail
    go_quiet (fail)
    go_wp2_with fail
    refine (H nq).mono ?_
    rintro e w1 ⟨rfl, h1⟩
    have H1 := Lib.hid h1; clear h1 H
    go_wp2_with fail
    refine bodyPost_ret (results_none rfl _ _ _) rfl ?_
    exact ⟨rfl, H1.out⟩
  · have hb : (lx == ly) = false := by simpa using hl
    have hly : ly = !lx := by cases lx <;> cases ly <;> simp_all
    have HH := Lib.hid (And.intro hX (And.intro hY (And.intro hx (And.intro hy h))))
    have HB := fun q => beyond_calls bx by' lx ly xn yn x0 y (w.drewN q) (hX.drewN q) (hY.drewN q) hx hy
    clear hX hY hx hy h hl
    go_enter Tryz.func155, Tryz.ntmps155
    go_wp2_with fail
    go_quiet (fail)
    go_wp2_with fail
    refine (HB nq).mono ?_
    rintro e w1 ⟨⟨c, rfl, hc⟩, hb1⟩
    have hb1' : Below w.heap.size w w1 := below_trans (bel_dn w nq) hb1
    clear HB hb1 c1 c2
    have hX1 := HH.out.1.to hb1'
    have hY1 := HH.out.2.1.to hb1'
    by_cases hc0 : 0 ≤ c
    · have H := carrym_calls bx by' lx ly xn yn x0 y w1 hX1 hY1 hne HH.out.2.2.1 HH.out.2.2.2.1 (hc.1 hc0)
      have HB1 := Lib.hid hb1'
      clear hX1 hY1 hb1' hc
      go_wp2_with fail
      refine H.mono ?_
      rintro e w2 ⟨rfl, h1⟩
      have H1 := Lib.hid h1; clear h1 H
      go_wp2_with fail
      refine bodyPost_ret (results_none rfl _ _ _) rfl ?_
      obtain ⟨⟨m, f, h1, h2, h3⟩, h4⟩ := H1.out
      exact ⟨rfl, ⟨lx, m, f, h1, by rw [h2, hly]; cases lx <;> simp [sv] <;> omega, h3⟩, gb_trans (gb_below HB1.out) h4⟩
    · have hlt : val x0 xn < val y yn := by
        rcases Int.lt_or_le (val x0 xn) (val y yn) with h | h
        · exact h
        · exact absurd (hc.2 h) hc0
      have HB1 := Lib.hid (And.intro hlt hb1')
      clear hlt hb1' hc
      go_wp2_with fail
      obtain ⟨cs, hcs⟩ : ∃ cs, cs = wc (!lx) yn y := ⟨_, rfl⟩
      have hcsz : cs.size = 234 := by rw [hcs, wc_size]
      have hg1 : w1.heap[by']? = some (.cells cs 193 (0, 0)) := by rw [hcs, ← hly]; exact hY1
      have hc1 : cs.all (·.oneCell') = true := by rw [hcs]; exact wc_one _ _ _
      have hst := run_storeCells_new (P := Tryz.prog) w1 193 Tryz.zeroCells193 cs (by rw [hcsz]; exact sizeW) (by rw [hcsz, zero_wc, wc_size]) hc1
      refine wp_load_row 193 _ rfl by' rfl 193 cs (0, 0) _ hg1 Tryz.underlying193 rfl (by rw [hcsz]; exact sizeW) ?_
      have HC := Lib.hid (And.intro hcs hg1); clear hcs hg1 hc1
      go_wp2_with fail
      clear hst
      obtain ⟨z, hz⟩ : ∃ z, z = w1.heap.size := ⟨_, rfl⟩
      obtain ⟨w2, hw2⟩ : ∃ w2, w2 = w1.alloc (.cells cs 193) := ⟨_, rfl⟩
      rw [← hw2, ← hz]
      have hb2 : Below w1.heap.size w1 w2 := by rw [hw2]; exact alloc_below _ _
      have hZ2 : Wide w2 z (!lx) yn y := by rw [hw2, hz, HC.out.1]; exact wide_new _ _ _ _
      have hX2 := hX1.to hb2
      have hzx : z ≠ bx := by have := hX1.lt; omega
      have H := carrym_calls z bx (!lx) lx yn xn y x0 w2 hZ2 hX2 hzx HH.out.2.2.2.1 HH.out.2.2.1 (by have := HB1.out.1; omega)
      have HB2 := Lib.hid (And.intro hX2 (And.intro hzx (And.intro hz hb2)))
      clear hw2 hZ2 hX2 hb2 hX1 hY1 hzx hz
      refine H.mono ?_
      rintro e w3 ⟨rfl, ⟨m, f, hm, hv, hW3⟩, hg3⟩
      clear H
      have hX3 := HB2.out.1.grown hg3 (by simp; exact fun e => HB2.out.2.1 e.symm)
      obtain ⟨c3, hc3⟩ : ∃ cs, cs = wc (!lx) m f := ⟨_, rfl⟩
      have hc3s : c3.size = 234 := by rw [hc3, wc_size]
      have hgz : w3.heap[z]? = some (.cells c3 193 (0, 0)) := by rw [hc3]; exact hW3
      have hst := storeCells_row (P := Tryz.prog) w3 bx 193 193 _ c3 hX3 (by rw [hc3s]; exact sizeW) (by rw [hc3s, wc_size]) (by rw [hc3]; exact wc_one _ _ _)
      have HD := Lib.hid (And.intro hm (And.intro hv (And.intro hX3 (And.intro hg3 hc3)))); clear hm hv hW3 hX3 hg3 hc3
      go_wp2_with fail
      refine wp_load_row 193 _ rfl z rfl 193 c3 (0, 0) _ hgz Tryz.underlying193 rfl (by rw [hc3s]; exact sizeW) ?_
      go_wp2_with fail
      clear hst hgz
      go_end0
      obtain ⟨hm, hv, hX3, hg3, hc3⟩ := HD.out
      obtain ⟨hX2, hzx, hz, hb2⟩ := HB2.out
      obtain ⟨hlt, hb1⟩ := HB1.out
      have hWn : Wide (w3.setRow bx c3) bx (!lx) m f := by
        unfold Wide
        rw [setRow_heap w3 bx _ _ _ _ hX3, hc3]
      have hgr : w3.grownBy (w3.setRow bx c3) (some bx) := ⟨rfl, rfl, rfl, by simp, fun k _ hk => setRow_other _ _ _ _ (fun e => hk (by rw [e]))⟩
      have hz1 : Below w1.heap.size w1 w3 := below_gb hb2 hg3 hb2.size (by rw [hz]; exact Nat.le_refl _)
      exact ⟨rfl, ⟨!lx, m, f, hm, by rw [hv, hly]; cases lx <;> simp [sv] <;> omega, hWn⟩, gb_trans (gb_trans (gb_below hb1) (gb_below hz1)) hgr⟩

end Go.Proofs.YtgdlfjofefhdoaaGreatDoor
