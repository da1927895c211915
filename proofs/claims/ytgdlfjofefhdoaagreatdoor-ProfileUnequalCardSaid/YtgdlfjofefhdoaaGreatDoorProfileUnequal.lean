/- Proved here: the law ProfileUnequal answers true at every two lists of points of the plane and every two tolerances, in every world in which the listed package-level variables hold what the program's text lays; nothing else is asked. -/
import Derived.Test.YtgdlfjofefhdoaaGreatDoorStart
import Derived.Test.YtgdlfjofefhdoaaGreatDoorFacts
import Derived.Test.YtgdlfjofefhdoaaGreatDoorLists
import Derived.Test.YtgdlfjofefhdoaaGreatDoorUneqW
import Derived.Test.YtgdlfjofefhdoaaGreatDoorCards
import Derived.Test.YtgdlfjofefhdoaaGreatDoorTie
import Derived.SevenTiedAt
namespace Go.Proofs.YtgdlfjofefhdoaaGreatDoor
open Go.ChangeShapes Go.WideShapes Go.ChangeAt Go.RowKit Go.WideElems Mb

set_option maxRecDepth 100000 in
theorem profileUnequal_lifted (os : Os) (started : os.Started) (H : Type) (enc : TypeId × Value → H) :
    ReturnsInHanded {} Tryz.checked os 8 .any (fun w args => (Rows.profileUnequalSpec.pre enc Tryz.prog Tryz.f8 [] false w args ∧ laidMetH Tryz.prog laid7 w) ∧ sizedMet enc Tryz.prog Tryz.f8 (OpenSpec.ofChange Rows.profileUnequalSpec) false w args)
      (Rows.profileUnequalSpec.post enc Tryz.prog Tryz.f8 false true false false) := by
  refine returns_shaped (C := Tryz.checked) (X := fun w _ => laidMetH Tryz.prog laid7 w) (fun _ _ _ hh h => h.of_heap hh) own started (by kernel_rfl) Tryz.func8
    (ChangeSpec.witness_shaped (enc := enc) (C := Tryz.checked) (os := os) (X := fun w _ => laidMetH Tryz.prog laid7 w) false (World.laidAll Tryz.prog os laid7) #[.slice none 0 0, .slice none 0 0, .agg #[.int .i64 0, .int .i64 0]] 8 (World.laidAll_os _ _ _)
      (World.shaped_of_ZipB (by kernel_rfl) (by kernel_rfl)) (by kernel_rfl) (by kernel_rfl) (by kernel_rfl)
      (by rw [MakeChecks.laidMetH_plain _ _ _ (by kernel_rfl)]; exact laidMet_laidAll _ (by kernel_rfl) (by kernel_rfl))) ?_
  intro W base args ds gs before hval0 hW _ hL hS
  have hval : ∀ (j : Nat) t v, Tryz.f8.params[j]? = some t → args[j]? = some v → Value.okWide Tryz.prog W .any base t v := hval0
  have hW' := hW
  obtain ⟨p, q, hA0, hV, rfl, hfz, hnd⟩ := hW
  have hA : DataW.TrodAll enc Tryz.prog W 0 (fun _ => true) true Tryz.f8.params.toList args.toList ds p := hA0
  rw [Tryz.params8] at hA hval
  obtain ⟨v0, vs0, d0, ds0, p0, q0, hargs, rfl, rfl, h0, r0⟩ := trodAll_cons hA
  obtain ⟨v1, vs1, d1, ds1, p1, q1, rfl, rfl, rfl, h1, r1⟩ := trodAll_cons r0
  obtain ⟨v2, vs2, d2, ds2, p2, q2, rfl, rfl, rfl, h2, r2⟩ := trodAll_cons r1
  obtain ⟨rfl, rfl, rfl⟩ := trodAll_nil r2
  obtain rfl : args = #[v0, v1, v2] := by cases args; simp_all
  obtain ⟨rfl, rfl⟩ := trodVars_none hV
  obtain ⟨a, l, cap, e0, hs0, hn0⟩ := list2_of (hval 0 54 v0 rfl rfl) h0
  subst e0
  have lt0 : ∀ x ∈ p0, x.block < W.heap.size := by obtain ⟨m, hm⟩ := h0; exact DataW.trod_lt m _ _ _ hm
  obtain ⟨b, pts, cup, e1, hs1, hn1⟩ := list2_of (hval 1 54 v1 rfl rfl) h1
  subst e1
  have lt1 : ∀ x ∈ p1, x.block < W.heap.size := by obtain ⟨m, hm⟩ := h1; exact DataW.trod_lt m _ _ _ hm
  obtain ⟨zs2, hl2, hv2, _⟩ := ints_of Tryz.underlying3 (.inr ⟨_, _, Tryz.underlying72⟩) (by kernel_rfl) (by kernel_rfl) (hval 2 72 v2 rfl rfl)
  obtain ⟨m, e2⟩ := pt_of hl2
  rw [e2] at hv2
  subst hv2
  have lt2 : ∀ x ∈ p2, x.block < W.heap.size := by obtain ⟨m, hm⟩ := h2; exact DataW.trod_lt m _ _ _ hm
  have hg := good_of hL hS
  clear hA0 hval0
  refine (unequal_calls l pts a b cap cup m W hg hs0 hs1 hn0 hn1).mono fun e W' ⟨he, bel⟩ => ?_
  subst he
  exact ⟨_, rfl, _, _, _, [], _, [], hW', trodAll_mk1 (shut_bool Tryz.underlying4 _), (trodAll_cons_mk (Below.trod laidOut (by kernel_rfl) (of_decide_eq_true (by kernel_rfl)) h0 bel lt0) (trodAll_cons_mk (Below.trod laidOut (by kernel_rfl) (of_decide_eq_true (by kernel_rfl)) h1 bel lt1) (trodAll_cons_mk (Below.trod laidOut (by kernel_rfl) (of_decide_eq_true (by kernel_rfl)) h2 bel lt2) trodAll_mk0))), rfl, bel.frame _, fun h => by cases h⟩

theorem profileUnequal_k10 : (Rows.profileUnequalRow.inPlace == Tryz.prog.inPlace 8) = true := by kernel_rfl
theorem profileUnequal_k11 : (Rows.profileUnequalRow.unfollowed == Tryz.prog.unfollowed 8) = true := by kernel_rfl
theorem profileUnequal_k12 : (Rows.profileUnequalRow.recurses == Tryz.prog.recurses 8) = true := by kernel_rfl
theorem profileUnequal_k13 : (Rows.profileUnequalRow.named == Tryz.prog.varsNamed 8) = true := by kernel_rfl

theorem profileUnequal_joined : joinedFacts Tryz.prog 8 Tryz.f8 Rows.profileUnequalSpec Rows.profileUnequalRow = true :=
  joined_of (by kernel_rfl) laidOut p_mapsRowed (by kernel_rfl) (by kernel_rfl) rfl p_stops rfl p_knobs profileUnequal_k10 profileUnequal_k11 profileUnequal_k12 profileUnequal_k13
    (by kernel_rfl) (by kernel_rfl) (by kernel_rfl) (by kernel_rfl) (by kernel_rfl) rfl (by kernel_rfl) (by kernel_rfl) (by kernel_rfl) p_keys rfl p_heard p_enter p_lifts p_make rfl (by kernel_rfl) (by kernel_rfl) (by kernel_rfl)

theorem profileUnequal_over : Rows.ProfileUnequalSaid :=
  OpenClaim.holds_of_wide (p := Tryz.pinned) 8 Tryz.f8 rfl rfl rfl rfl rfl rfl rfl ⟨rfl, rfl, rfl, rfl, rfl⟩ rfl rfl rfl rfl rfl (by kernel_rfl) Tryz.func8 profileUnequal_joined
    (of_decide_eq_true (by kernel_rfl)) (by unfold Func.isWrapper; first | (rw [if_pos (by decide +kernel)]; kernel_rfl) | (rw [if_neg (by decide +kernel)]; exact ⟨rfl, rfl⟩))
    (fun os started H enc _ => profileUnequal_lifted os started H enc)

theorem profileUnequal_goes : false = Rows.profileUnequalRow.goesBy Tryz.prog := by kernel_rfl

theorem profileUnequal_holds : Rows.ProfileUnequalCardSaid :=
  Claim7.holds_tied_plain_at .later [] [.data, .data, .data, .data, .sentinel, .sentinel, .pinned] true Rows.profileUnequalCard.stood.harness true
    profileUnequal_over (fun _ h => by cases h) (by kernel_rfl) (fun _ h => by cases h) profileUnequal_row_tie rfl ⟨rfl, rfl⟩ p_main rfl
    (fun f fn hf hfn => by
      obtain rfl : f = 8 := Option.some.inj ((show Tryz.prog.funcNamed "metrolab/metrolablaw37.ProfileUnequal" = some 8 by kernel_rfl).symm.trans hf) |>.symm
      obtain rfl : fn = Tryz.f8 := (Option.some.inj (Tryz.func8.symm.trans hfn)).symm
      exact ⟨p_looks, fun j t ht => by
        rw [Tryz.params8] at ht
        have hm : t ∈ [54, 54, 72] := by simpa using Array.mem_of_getElem? ht
        have hall : ([54, 54, 72].all fun u => !Tryz.prog.wantsStandIn u) = true := by kernel_rfl
        exact (show Tryz.prog.wantsStandIn t = false by simpa using List.all_eq_true.1 hall t hm)⟩)
    profileUnequal_goes
#print axioms profileUnequal_holds

end Go.Proofs.YtgdlfjofefhdoaaGreatDoor
