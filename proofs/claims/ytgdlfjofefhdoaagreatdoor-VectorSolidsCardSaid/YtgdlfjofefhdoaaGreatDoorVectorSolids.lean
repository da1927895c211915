/- Proved here: the law VectorSolids answers true at every array of four points in space, in every world in which the listed package-level variables hold what the program's text lays; nothing else is asked. -/
import Derived.Test.YtgdlfjofefhdoaaGreatDoorStart
import Derived.Test.YtgdlfjofefhdoaaGreatDoorFacts
import Derived.Test.YtgdlfjofefhdoaaGreatDoorSolids
import Derived.Test.YtgdlfjofefhdoaaGreatDoorCards
import Derived.Test.YtgdlfjofefhdoaaGreatDoorTie
import Derived.SevenTiedAt
namespace Go.Proofs.YtgdlfjofefhdoaaGreatDoor
open Go.ChangeShapes Go.WideShapes Go.ChangeAt Go.RowKit Go.WideElems Mb

set_option maxRecDepth 100000 in
theorem vectorSolids_lifted (os : Os) (started : os.Started) (H : Type) (enc : TypeId × Value → H) :
    ReturnsInHanded {} Tryz.checked os 4 .any (fun w args => (Rows.vectorSolidsSpec.pre enc Tryz.prog Tryz.f4 [] false w args ∧ laidMetH Tryz.prog laid7 w) ∧ sizedMet enc Tryz.prog Tryz.f4 (OpenSpec.ofChange Rows.vectorSolidsSpec) false w args)
      (Rows.vectorSolidsSpec.post enc Tryz.prog Tryz.f4 false true false false) := by
  refine returns_shaped (C := Tryz.checked) (X := fun w _ => laidMetH Tryz.prog laid7 w) (fun _ _ _ hh h => h.of_heap hh) own started (by kernel_rfl) Tryz.func4
    (ChangeSpec.witness_shaped (enc := enc) (C := Tryz.checked) (os := os) (X := fun w _ => laidMetH Tryz.prog laid7 w) false (World.laidAll Tryz.prog os laid7) #[.agg #[.int .i64 0, .int .i64 0, .int .i64 0, .int .i64 0, .int .i64 0, .int .i64 0, .int .i64 0, .int .i64 0, .int .i64 0, .int .i64 0, .int .i64 0, .int .i64 0]] 8 (World.laidAll_os _ _ _)
      (World.shaped_of_ZipB (by kernel_rfl) (by kernel_rfl)) (by kernel_rfl) (by kernel_rfl) (by kernel_rfl)
      (by rw [MakeChecks.laidMetH_plain _ _ _ (by kernel_rfl)]; exact laidMet_laidAll _ (by kernel_rfl) (by kernel_rfl))) ?_
  intro W base args ds gs before hval0 hW _ hL hS
  have hval : ∀ (j : Nat) t v, Tryz.f4.params[j]? = some t → args[j]? = some v → Value.okWide Tryz.prog W .any base t v := hval0
  have hW' := hW
  obtain ⟨p, q, hA0, hV, rfl, hfz, hnd⟩ := hW
  have hA : DataW.TrodAll enc Tryz.prog W 0 (fun _ => true) true Tryz.f4.params.toList args.toList ds p := hA0
  rw [Tryz.params4] at hA hval
  obtain ⟨v0, vs0, d0, ds0, p0, q0, hargs, rfl, rfl, h0, r0⟩ := trodAll_cons hA
  obtain ⟨rfl, rfl, rfl⟩ := trodAll_nil r0
  obtain rfl : args = #[v0] := by cases args; simp_all
  obtain ⟨rfl, rfl⟩ := trodVars_none hV
  obtain ⟨zs0, hl0, hv0, _⟩ := ints_of Tryz.underlying3 (.inr ⟨_, _, Tryz.underlying34⟩) (by kernel_rfl) (by kernel_rfl) (hval 0 34 v0 rfl rfl)
  obtain ⟨a, b, c, d, e0⟩ := four_of hl0
  rw [e0] at hv0
  subst hv0
  have lt0 : ∀ x ∈ p0, x.block < W.heap.size := by obtain ⟨m, hm⟩ := h0; exact DataW.trod_lt m _ _ _ hm
  have hg := good_of hL hS
  clear hA0 hval0
  refine (solids_calls a b c d W hg).mono fun e W' ⟨he, bel⟩ => ?_
  subst he
  exact ⟨_, rfl, _, _, _, [], _, [], hW', trodAll_mk1 (shut_bool Tryz.underlying4 _), (trodAll_cons_mk (Below.trod laidOut (by kernel_rfl) (of_decide_eq_true (by kernel_rfl)) h0 bel lt0) trodAll_mk0), rfl, bel.frame _, fun h => by cases h⟩

theorem vectorSolids_k10 : (Rows.vectorSolidsRow.inPlace == Tryz.prog.inPlace 4) = true := by kernel_rfl
theorem vectorSolids_k11 : (Rows.vectorSolidsRow.unfollowed == Tryz.prog.unfollowed 4) = true := by kernel_rfl
theorem vectorSolids_k12 : (Rows.vectorSolidsRow.recurses == Tryz.prog.recurses 4) = true := by kernel_rfl
theorem vectorSolids_k13 : (Rows.vectorSolidsRow.named == Tryz.prog.varsNamed 4) = true := by kernel_rfl

theorem vectorSolids_joined : joinedFacts Tryz.prog 4 Tryz.f4 Rows.vectorSolidsSpec Rows.vectorSolidsRow = true :=
  joined_of (by kernel_rfl) laidOut p_mapsRowed (by kernel_rfl) (by kernel_rfl) rfl p_stops rfl p_knobs vectorSolids_k10 vectorSolids_k11 vectorSolids_k12 vectorSolids_k13
    (by kernel_rfl) (by kernel_rfl) (by kernel_rfl) (by kernel_rfl) (by kernel_rfl) rfl (by kernel_rfl) (by kernel_rfl) (by kernel_rfl) p_keys rfl p_heard p_enter p_lifts p_make rfl (by kernel_rfl) (by kernel_rfl) (by kernel_rfl)

theorem vectorSolids_over : Rows.VectorSolidsSaid :=
  OpenClaim.holds_of_wide (p := Tryz.pinned) 4 Tryz.f4 rfl rfl rfl rfl rfl rfl rfl ⟨rfl, rfl, rfl, rfl, rfl⟩ rfl rfl rfl rfl rfl (by kernel_rfl) Tryz.func4 vectorSolids_joined
    (of_decide_eq_true (by kernel_rfl)) (by unfold Func.isWrapper; first | (rw [if_pos (by decide +kernel)]; kernel_rfl) | (rw [if_neg (by decide +kernel)]; exact ⟨rfl, rfl⟩))
    (fun os started H enc _ => vectorSolids_lifted os started H enc)

theorem vectorSolids_goes : false = Rows.vectorSolidsRow.goesBy Tryz.prog := by kernel_rfl

theorem vectorSolids_holds : Rows.VectorSolidsCardSaid :=
  Claim7.holds_tied_plain_at .later [] [.data, .data, .data, .data, .sentinel, .sentinel, .pinned] true Rows.vectorSolidsCard.stood.harness true
    vectorSolids_over (fun _ h => by cases h) (by kernel_rfl) (fun _ h => by cases h) vectorSolids_row_tie rfl ⟨rfl, rfl⟩ p_main rfl
    (fun f fn hf hfn => by
      obtain rfl : f = 4 := Option.some.inj ((show Tryz.prog.funcNamed "metrolab/metrolablaw07.VectorSolids" = some 4 by kernel_rfl).symm.trans hf) |>.symm
      obtain rfl : fn = Tryz.f4 := (Option.some.inj (Tryz.func4.symm.trans hfn)).symm
      exact ⟨p_looks, fun j t ht => by
        rw [Tryz.params4] at ht
        have hm : t ∈ [34] := by simpa using Array.mem_of_getElem? ht
        have hall : ([34].all fun u => !Tryz.prog.wantsStandIn u) = true := by kernel_rfl
        exact (show Tryz.prog.wantsStandIn t = false by simpa using List.all_eq_true.1 hall t hm)⟩)
    vectorSolids_goes
#print axioms vectorSolids_holds

end Go.Proofs.YtgdlfjofefhdoaaGreatDoor
