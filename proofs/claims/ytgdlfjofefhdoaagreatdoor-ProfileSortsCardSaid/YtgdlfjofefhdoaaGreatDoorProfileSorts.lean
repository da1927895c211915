/- Proved here: the law ProfileSorts answers true at every polyline, closed or not, every list of points of the plane and every tolerance, in every world in which the listed package-level variables hold what the program's text lays; nothing else is asked. -/
import Derived.Test.YtgdlfjofefhdoaaGreatDoorStart
import Derived.Test.YtgdlfjofefhdoaaGreatDoorFacts
import Derived.Test.YtgdlfjofefhdoaaGreatDoorLineA
import Derived.Test.YtgdlfjofefhdoaaGreatDoorScal
import Derived.Test.YtgdlfjofefhdoaaGreatDoorSortsW
import Derived.Test.YtgdlfjofefhdoaaGreatDoorCards
import Derived.Test.YtgdlfjofefhdoaaGreatDoorTie
import Derived.SevenTiedAt
namespace Go.Proofs.YtgdlfjofefhdoaaGreatDoor
open Go.ChangeShapes Go.WideShapes Go.ChangeAt Go.RowKit Go.WideElems Mb

set_option maxRecDepth 100000 in
theorem profileSorts_lifted (os : Os) (started : os.Started) (H : Type) (enc : TypeId × Value → H) :
    ReturnsInHanded {} Tryz.checked os 9 .any (fun w args => (Rows.profileSortsSpec.pre enc Tryz.prog Tryz.f9 [] false w args ∧ laidMetH Tryz.prog laid7 w) ∧ sizedMet enc Tryz.prog Tryz.f9 (OpenSpec.ofChange Rows.profileSortsSpec) false w args)
      (Rows.profileSortsSpec.post enc Tryz.prog Tryz.f9 false true false false) := by
  refine returns_shaped (C := Tryz.checked) (X := fun w _ => laidMetH Tryz.prog laid7 w) (fun _ _ _ hh h => h.of_heap hh) own started (by kernel_rfl) Tryz.func9
    (ChangeSpec.witness_shaped (enc := enc) (C := Tryz.checked) (os := os) (X := fun w _ => laidMetH Tryz.prog laid7 w) false (World.laidAll Tryz.prog os laid7) #[.agg #[.slice none 0 0, .bool false], .slice none 0 0, .int .i64 0] 8 (World.laidAll_os _ _ _)
      (World.shaped_of_ZipB (by kernel_rfl) (by kernel_rfl)) (by kernel_rfl) (by kernel_rfl) (by kernel_rfl)
      (by rw [MakeChecks.laidMetH_plain _ _ _ (by kernel_rfl)]; exact laidMet_laidAll _ (by kernel_rfl) (by kernel_rfl))) ?_
  intro W base args ds gs before hval0 hW _ hL hS
  have hval : ∀ (j : Nat) t v, Tryz.f9.params[j]? = some t → args[j]? = some v → Value.okWide Tryz.prog W .any base t v := hval0
  have hW' := hW
  obtain ⟨p, q, hA0, hV, rfl, hfz, hnd⟩ := hW
  have hA : DataW.TrodAll enc Tryz.prog W 0 (fun _ => true) true Tryz.f9.params.toList args.toList ds p := hA0
  rw [Tryz.params9] at hA hval
  obtain ⟨v0, vs0, d0, ds0, p0, q0, hargs, rfl, rfl, h0, r0⟩ := trodAll_cons hA
  obtain ⟨v1, vs1, d1, ds1, p1, q1, rfl, rfl, rfl, h1, r1⟩ := trodAll_cons r0
  obtain ⟨v2, vs2, d2, ds2, p2, q2, rfl, rfl, rfl, h2, r2⟩ := trodAll_cons r1
  obtain ⟨rfl, rfl, rfl⟩ := trodAll_nil r2
  obtain rfl : args = #[v0, v1, v2] := by cases args; simp_all
  obtain ⟨rfl, rfl⟩ := trodVars_none hV
  obtain ⟨a, l, cap, c, e0, hs0, hn0⟩ := line_of (hval 0 60 v0 rfl rfl) h0
  subst e0
  have lt0 : ∀ x ∈ p0, x.block < W.heap.size := by obtain ⟨m, hm⟩ := h0; exact DataW.trod_lt m _ _ _ hm
  obtain ⟨b, pts, cup, e1, hs1, hn1⟩ := list2_of (hval 1 54 v1 rfl rfl) h1
  subst e1
  have lt1 : ∀ x ∈ p1, x.block < W.heap.size := by obtain ⟨m, hm⟩ := h1; exact DataW.trod_lt m _ _ _ hm
  obtain ⟨tz, e2, hz2⟩ := i64_of (hval 2 3 v2 rfl rfl)
  subst e2
  have lt2 : ∀ x ∈ p2, x.block < W.heap.size := by obtain ⟨m, hm⟩ := h2; exact DataW.trod_lt m _ _ _ hm
  have hg := good_of hL hS
  clear hA0 hval0
  refine (sorts_calls l pts a b cap cup c tz W hg hs0 hs1 hn0 hn1).mono fun e W' ⟨he, bel⟩ => ?_
  subst he
  exact ⟨_, rfl, _, _, _, [], _, [], hW', trodAll_mk1 (shut_bool Tryz.underlying4 _), (trodAll_cons_mk (Below.trod laidOut (by kernel_rfl) (of_decide_eq_true (by kernel_rfl)) h0 bel lt0) (trodAll_cons_mk (Below.trod laidOut (by kernel_rfl) (of_decide_eq_true (by kernel_rfl)) h1 bel lt1) (trodAll_cons_mk (Below.trod laidOut (by kernel_rfl) (of_decide_eq_true (by kernel_rfl)) h2 bel lt2) trodAll_mk0))), rfl, bel.frame _, fun h => by cases h⟩

theorem profileSorts_k10 : (Rows.profileSortsRow.inPlace == Tryz.prog.inPlace 9) = true := by kernel_rfl
theorem profileSorts_k11 : (Rows.profileSortsRow.unfollowed == Tryz.prog.unfollowed 9) = true := by kernel_rfl
theorem profileSorts_k12 : (Rows.profileSortsRow.recurses == Tryz.prog.recurses 9) = true := by kernel_rfl
theorem profileSorts_k13 : (Rows.profileSortsRow.named == Tryz.prog.varsNamed 9) = true := by kernel_rfl

theorem profileSorts_joined : joinedFacts Tryz.prog 9 Tryz.f9 Rows.profileSortsSpec Rows.profileSortsRow = true :=
  joined_of (by kernel_rfl) laidOut p_mapsRowed (by kernel_rfl) (by kernel_rfl) rfl p_stops rfl p_knobs profileSorts_k10 profileSorts_k11 profileSorts_k12 profileSorts_k13
    (by kernel_rfl) (by kernel_rfl) (by kernel_rfl) (by kernel_rfl) (by kernel_rfl) rfl (by kernel_rfl) (by kernel_rfl) (by kernel_rfl) p_keys rfl p_heard p_enter p_lifts p_make rfl (by kernel_rfl) (by kernel_rfl) (by kernel_rfl)

theorem profileSorts_over : Rows.ProfileSortsSaid :=
  OpenClaim.holds_of_wide (p := Tryz.pinned) 9 Tryz.f9 rfl rfl rfl rfl rfl rfl rfl ⟨rfl, rfl, rfl, rfl, rfl⟩ rfl rfl rfl rfl rfl (by kernel_rfl) Tryz.func9 profileSorts_joined
    (of_decide_eq_true (by kernel_rfl)) (by unfold Func.isWrapper; first | (rw [if_pos (by decide +kernel)]; kernel_rfl) | (rw [if_neg (by decide +kernel)]; exact ⟨rfl, rfl⟩))
    (fun os started H enc _ => profileSorts_lifted os started H enc)

theorem profileSorts_goes : false = Rows.profileSortsRow.goesBy Tryz.prog := by kernel_rfl

theorem profileSorts_holds : Rows.ProfileSortsCardSaid :=
  Claim7.holds_tied_plain_at .later [] [.data, .data, .data, .data, .sentinel, .sentinel, .pinned] true Rows.profileSortsCard.stood.harness true
    profileSorts_over (fun _ h => by cases h) (by kernel_rfl) (fun _ h => by cases h) profileSorts_row_tie rfl ⟨rfl, rfl⟩ p_main rfl
    (fun f fn hf hfn => by
      obtain rfl : f = 9 := Option.some.inj ((show Tryz.prog.funcNamed "metrolab/metrolablaw37.ProfileSorts" = some 9 by kernel_rfl).symm.trans hf) |>.symm
      obtain rfl : fn = Tryz.f9 := (Option.some.inj (Tryz.func9.symm.trans hfn)).symm
      exact ⟨p_looks, fun j t ht => by
        rw [Tryz.params9] at ht
        have hm : t ∈ [60, 54, 3] := by simpa using Array.mem_of_getElem? ht
        have hall : ([60, 54, 3].all fun u => !Tryz.prog.wantsStandIn u) = true := by kernel_rfl
        exact (show Tryz.prog.wantsStandIn t = false by simpa using List.all_eq_true.1 hall t hm)⟩)
    profileSorts_goes
#print axioms profileSorts_holds

end Go.Proofs.YtgdlfjofefhdoaaGreatDoor
