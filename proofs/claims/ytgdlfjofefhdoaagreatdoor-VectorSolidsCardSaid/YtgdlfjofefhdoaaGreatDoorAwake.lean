/- The examples of the chapter: metrolablaw07.awake answers true. -/
import Derived.Test.YtgdlfjofefhdoaaGreatDoorVecSp
import Derived.ChangeKeysEq
namespace Go.Proofs.YtgdlfjofefhdoaaGreatDoor
open Go.RowKit Go.Sort Go.Lib Mb

theorem at_calls (x y : Int) (w : World) :
    Calls Tryz.prog 27 #[.int .i64 x, .int .i64 y] w fun e w' => e = .returned (V ⟨x, y⟩) ∧ Below w.heap.size w w' := by
  go_enter Tryz.func27, Tryz.ntmps27
  go_wp2_with fail
  exact bodyPost_ret (v := V ⟨x, y⟩) (by simp [results, Tryz.results27, go_sem]) rfl ⟨rfl, alloc_below _ _⟩

theorem spot_calls (x y z : Int) (w : World) :
    Calls Tryz.prog 63 #[.int .i64 x, .int .i64 y, .int .i64 z] w fun e w' => e = .returned (V3 ⟨x, y, z⟩) ∧ Below w.heap.size w w' := by
  go_enter Tryz.func63, Tryz.ntmps63
  go_wp2_with fail
  exact bodyPost_ret (v := V3 ⟨x, y, z⟩) (by simp [results, Tryz.results63, go_sem]) rfl ⟨rfl, alloc_below _ _⟩

theorem pl_one : PlOps ⟨1, 1, 1⟩ := by
  have l1 := itoa_le (n := 1) (k := 9) (by omega) (by omega) (by omega)
  have l0 := itoa_le (n := 0) (k := 9) (by omega) (by omega) (by omega)
  have l2 := itoa_le (n := 2) (k := 9) (by omega) (by omega) (by omega)
  refine ⟨fun k hk w hg => ?_, fun k hk w hg => ?_, fun k hk => ?_⟩
  · match k, hk with
    | 0, _ => exact mul_short 1 1 w hg l1 l1
    | 1, _ => exact mul_short 1 1 w hg l1 l1
    | 2, _ => exact mul_short 1 1 w hg l1 l1
  · match k, hk with
    | 0, _ => exact add_short 0 1 w hg l0 l1
    | 1, _ => exact add_short 1 1 w hg l1 l1
    | 2, _ => exact add_short 2 1 w hg l2 l1
  · match k, hk with
    | 0, _ => exact ⟨by decide, by decide⟩
    | 1, _ => exact ⟨by decide, by decide⟩
    | 2, _ => exact ⟨by decide, by decide⟩

theorem itoa_lit {n : Nat} {l : List UInt8} (h : decDigits n = l) : itoa (n : Int) = l := by rw [Mb.itoa_nonneg (by omega)]; exact h
theorem q_144 : Q 12 25 = .string ⟨#[49, 52, 52, 47, 50, 53]⟩ := by
  have e1 : rn (12 * 12) 25 = (144 : Nat) := by decide
  have e2 : rd (12 * 12) 25 = (25 : Nat) := by decide
  show Value.string ⟨(rtxt _ _).toArray⟩ = _
  rw [e1, e2]
  unfold rtxt
  rw [if_neg (by decide), itoa_lit (l := [49, 52, 52]) (by simp [decDigits]), itoa_lit (l := [50, 53]) (by simp [decDigits])]
  rfl
theorem q_3 : Q (-1) 3 = .string ⟨#[49, 47, 51]⟩ := by
  have e1 : rn (-1 * -1) 3 = (1 : Nat) := by decide
  have e2 : rd (-1 * -1) 3 = (3 : Nat) := by decide
  show Value.string ⟨(rtxt _ _).toArray⟩ = _
  rw [e1, e2]
  unfold rtxt
  rw [if_neg (by decide), itoa_lit (l := [49]) (by simp [decDigits]), itoa_lit (l := [51]) (by simp [decDigits])]
  rfl
theorem s_16 : S 16 = .string ⟨#[49, 54]⟩ := by
  show Value.string ⟨(itoa (16 : Nat)).toArray⟩ = _
  rw [itoa_lit (l := [49, 54]) (by simp [decDigits])]

theorem eqInts3 (d : Nat) (w : World) (a b c x y z : Int) : (Op.equalIn (d + 2) 35 (.agg #[.int .i64 a, .int .i64 b, .int .i64 c]) (.agg #[.int .i64 x, .int .i64 y, .int .i64 z])).run Tryz.prog w = .ok (a == x && (b == y && c == z)) w := by
  obtain ⟨i0, hi⟩ : ∃ i, Tryz.prog.info? 3 = some i := by
    cases h : Tryz.prog.info? 3 with
    | some i => exact ⟨i, rfl⟩
    | none => exact absurd (show (Tryz.prog.info? 3).isSome = true by kernel_rfl) (by rw [h]; decide)
  have hc : Tryz.prog.cellsOf 3 = 1 := by kernel_rfl
  rw [run_equalIn_array w (d + 1) _ _ Tryz.underlying35 hi, hc, show List.range 3 = [0, 1, 2] from rfl]
  cases h1 : (a == x) <;> cases h2 : (b == y) <;> cases h3 : (c == z) <;> (simp only [beq_iff_eq, beq_eq_false_iff_ne, ne_eq] at h1 h2 h3; simp [Op.eqItems, go_sem, h1, h2, h3])

theorem ex1 (w : World) : Calls Tryz.prog 62 #[V ⟨0, 0⟩, V ⟨4, 0⟩, V ⟨0, 3⟩] w fun e w' => e = .returned (.tuple #[.int .i64 12, .int .i64 0]) ∧ Below w.heap.size w w' := Cross_ok ⟨0, 0⟩ ⟨4, 0⟩ ⟨0, 3⟩ w (by decide) (by decide) (by decide)
theorem ex2 (w : World) : Calls Tryz.prog 26 #[V ⟨4, 0⟩, V ⟨1, 3⟩] w fun e w' => e = .returned (.tuple #[.int .i64 4, .int .i64 0]) ∧ Below w.heap.size w w' := Dot_ok ⟨4, 0⟩ ⟨1, 3⟩ w (by decide) (by decide)
theorem ex3 (w : World) : Calls Tryz.prog 18 #[V3 ⟨0, 0, 0⟩, V3 ⟨1, 0, 0⟩, V3 ⟨0, 2, 0⟩, V3 ⟨0, 0, 3⟩] w fun e w' => e = .returned (.tuple #[.int .i64 6, .int .i64 0]) ∧ Below w.heap.size w w' := Volume_ok ⟨0, 0, 0⟩ ⟨1, 0, 0⟩ ⟨0, 2, 0⟩ ⟨0, 0, 3⟩ w (by decide) (by decide) (by decide) (by decide)
theorem ex4 (w : World) : Calls Tryz.prog 16 #[V3 ⟨0, 0, 0⟩, V3 ⟨1, 0, 0⟩, V3 ⟨0, 2, 0⟩] w fun e w' => e = .returned (.tuple #[V3 ⟨0, 0, 2⟩, .int .i64 0]) ∧ Below w.heap.size w w' := Normal_ok ⟨0, 0, 0⟩ ⟨1, 0, 0⟩ ⟨0, 2, 0⟩ w (by decide) (by decide) (by decide)
theorem ex5 (w : World) (hg : Good w) : Calls Tryz.prog 11 #[V ⟨0, 0⟩, V ⟨4, 0⟩, V ⟨0, 3⟩] w fun e w' => e = .returned (.tuple #[.string ⟨#[49, 52, 52, 47, 50, 53]⟩, .int .i64 0]) ∧ Below w.heap.size w w' := by
  rw [← q_144]
  exact ToLine_ok ⟨0, 0⟩ ⟨4, 0⟩ ⟨0, 3⟩ w hg (by decide) (by decide) (by decide) (by simp) (sqOps_short (n := 12) (d := 25) (by omega) (by omega) (by omega))
theorem ex6 (w : World) (hg : Good w) : Calls Tryz.prog 13 #[V ⟨9, 0⟩, V ⟨0, 0⟩, V ⟨5, 0⟩] w fun e w' => e = .returned (.tuple #[.string ⟨#[49, 54]⟩, .int .i64 0]) ∧ Below w.heap.size w w' := by
  rw [← s_16]
  exact ToSegment_b ⟨9, 0⟩ ⟨0, 0⟩ ⟨5, 0⟩ w hg (by decide) (by decide) (by decide) (by decide) (by decide)
theorem ex7 (w : World) (hg : Good w) : Calls Tryz.prog 22 #[V3 ⟨0, 0, 0⟩, V3 ⟨1, 0, 0⟩, V3 ⟨0, 1, 0⟩, V3 ⟨0, 0, 1⟩] w fun e w' => e = .returned (.tuple #[.string ⟨#[49, 47, 51]⟩, .int .i64 0]) ∧ Below w.heap.size w w' := by
  have e1 : six ⟨1, 0, 0⟩ ⟨0, 1, 0⟩ ⟨0, 0, 1⟩ ⟨0, 0, 0⟩ = -1 := by decide
  have e2 : tot 3 (nrm ⟨1, 0, 0⟩ ⟨0, 1, 0⟩ ⟨0, 0, 1⟩) = 3 := by decide
  have h := ToPlane_ok ⟨0, 0, 0⟩ ⟨1, 0, 0⟩ ⟨0, 1, 0⟩ ⟨0, 0, 1⟩ w hg (by decide) (by decide) (by decide) (by decide) (by decide) pl_one (by rw [e1, e2]; exact sqOps_short (n := -1) (d := 3) (by omega) (by omega) (by omega))
  rw [e1, e2, q_3] at h
  exact h

set_option maxHeartbeats 4000000 in
set_option maxRecDepth 8000 in
theorem awake_calls (w : World) (hg : Good w) :
    Calls Tryz.prog 15 #[] w fun e w' => e = .returned (.bool true) ∧ Below w.heap.size w w' := by
  have H := Below.refl w.heap.size w
  have HG := Lib.hid hg; clear hg
  go_enter Tryz.func15, Tryz.ntmps15
  go_wp2_with fail
  refine (at_calls 0 0 _).mono ?_
  rintro e w' ⟨rfl, hb⟩
  replace H := below_trans H hb; clear hb
  go_wp2_with fail
  refine (at_calls 4 0 _).mono ?_
  rintro e w' ⟨rfl, hb⟩
  replace H := below_trans H hb; clear hb
  go_wp2_with fail
  refine (at_calls 0 3 _).mono ?_
  rintro e w' ⟨rfl, hb⟩
  replace H := below_trans H hb; clear hb
  go_wp2_with fail
  refine (ex1 _).mono ?_
  rintro e w' ⟨rfl, hb⟩
  replace H := below_trans H hb; clear hb
  go_wp2_with fail
  refine (at_calls 4 0 _).mono ?_
  rintro e w' ⟨rfl, hb⟩
  replace H := below_trans H hb; clear hb
  go_wp2_with fail
  refine (at_calls 1 3 _).mono ?_
  rintro e w' ⟨rfl, hb⟩
  replace H := below_trans H hb; clear hb
  go_wp2_with fail
  refine (ex2 _).mono ?_
  rintro e w' ⟨rfl, hb⟩
  replace H := below_trans H hb; clear hb
  go_wp2_with fail
  refine (spot_calls 0 0 0 _).mono ?_
  rintro e w' ⟨rfl, hb⟩
  replace H := below_trans H hb; clear hb
  go_wp2_with fail
  refine (spot_calls 1 0 0 _).mono ?_
  rintro e w' ⟨rfl, hb⟩
  replace H := below_trans H hb; clear hb
  go_wp2_with fail
  refine (spot_calls 0 2 0 _).mono ?_
  rintro e w' ⟨rfl, hb⟩
  replace H := below_trans H hb; clear hb
  go_wp2_with fail
  refine (spot_calls 0 0 3 _).mono ?_
  rintro e w' ⟨rfl, hb⟩
  replace H := below_trans H hb; clear hb
  go_wp2_with fail
  refine (ex3 _).mono ?_
  rintro e w' ⟨rfl, hb⟩
  replace H := below_trans H hb; clear hb
  go_wp2_with fail
  refine (spot_calls 0 0 0 _).mono ?_
  rintro e w' ⟨rfl, hb⟩
  replace H := below_trans H hb; clear hb
  go_wp2_with fail
  refine (spot_calls 1 0 0 _).mono ?_
  rintro e w' ⟨rfl, hb⟩
  replace H := below_trans H hb; clear hb
  go_wp2_with fail
  refine (spot_calls 0 2 0 _).mono ?_
  rintro e w' ⟨rfl, hb⟩
  replace H := below_trans H hb; clear hb
  go_wp2_with fail
  refine (ex4 _).mono ?_
  rintro e v ⟨rfl, hb⟩
  have HB := bx3_new v ⟨0, 0, 2⟩ 35
  replace H := below_trans (below_trans H hb) (alloc_below v (B3 ⟨0, 0, 2⟩ 35)); clear hb
  go_wp2_with fail
  refine (at_calls 0 0 _).mono ?_
  rintro e w' ⟨rfl, hb⟩
  replace HB := HB.to hb
  replace H := below_trans H hb; clear hb
  go_wp2_with fail
  refine (at_calls 4 0 _).mono ?_
  rintro e w' ⟨rfl, hb⟩
  replace HB := HB.to hb
  replace H := below_trans H hb; clear hb
  go_wp2_with fail
  refine (at_calls 0 3 _).mono ?_
  rintro e w' ⟨rfl, hb⟩
  replace HB := HB.to hb
  replace H := below_trans H hb; clear hb
  go_wp2_with fail
  refine (ex5 _ (HG.out.to H)).mono ?_
  rintro e w' ⟨rfl, hb⟩
  replace HB := HB.to hb
  replace H := below_trans H hb; clear hb
  go_wp2_with fail
  refine (at_calls 9 0 _).mono ?_
  rintro e w' ⟨rfl, hb⟩
  replace HB := HB.to hb
  replace H := below_trans H hb; clear hb
  go_wp2_with fail
  refine (at_calls 0 0 _).mono ?_
  rintro e w' ⟨rfl, hb⟩
  replace HB := HB.to hb
  replace H := below_trans H hb; clear hb
  go_wp2_with fail
  refine (at_calls 5 0 _).mono ?_
  rintro e w' ⟨rfl, hb⟩
  replace HB := HB.to hb
  replace H := below_trans H hb; clear hb
  go_wp2_with fail
  refine (ex6 _ (HG.out.to H)).mono ?_
  rintro e w' ⟨rfl, hb⟩
  replace HB := HB.to hb
  replace H := below_trans H hb; clear hb
  go_wp2_with fail
  refine (spot_calls 0 0 0 _).mono ?_
  rintro e w' ⟨rfl, hb⟩
  replace HB := HB.to hb
  replace H := below_trans H hb; clear hb
  go_wp2_with fail
  refine (spot_calls 1 0 0 _).mono ?_
  rintro e w' ⟨rfl, hb⟩
  replace HB := HB.to hb
  replace H := below_trans H hb; clear hb
  go_wp2_with fail
  refine (spot_calls 0 1 0 _).mono ?_
  rintro e w' ⟨rfl, hb⟩
  replace HB := HB.to hb
  replace H := below_trans H hb; clear hb
  go_wp2_with fail
  refine (spot_calls 0 0 1 _).mono ?_
  rintro e w' ⟨rfl, hb⟩
  replace HB := HB.to hb
  replace H := below_trans H hb; clear hb
  go_wp2_with fail
  refine (ex7 _ (HG.out.to H)).mono ?_
  rintro e w' ⟨rfl, hb⟩
  replace HB := HB.to hb
  replace H := below_trans H hb; clear hb
  obtain ⟨d1, d2, d3⟩ := HB
  have heq := fun w => eqInts3 9998 w 0 0 2 0 0 2
  simp only [Nat.reduceAdd, BEq.rfl, Bool.and_self] at heq
  go_wp2_with fail
  go_ret
  exact ⟨rfl, H⟩

end Go.Proofs.YtgdlfjofefhdoaaGreatDoor
