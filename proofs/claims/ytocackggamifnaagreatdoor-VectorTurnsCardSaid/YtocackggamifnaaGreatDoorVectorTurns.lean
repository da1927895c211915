/- Proved here: the law VectorTurns answers true at every array of three points of the plane and every move, in every world in which the listed package-level variables hold what the program's text lays; nothing else is asked. -/
import Derived.Test.YtocackggamifnaaGreatDoorStart
import Derived.Test.YtocackggamifnaaGreatDoorFacts
import Derived.Test.YtocackggamifnaaGreatDoorTurnsB
import Derived.Test.YtocackggamifnaaGreatDoorCards
import Derived.Test.YtocackggamifnaaGreatDoorTie
import Derived.SevenTiedAt
namespace Go.Proofs.YtocackggamifnaaGreatDoor
open Go.ChangeShapes Go.WideShapes Go.ChangeAt Go.RowKit Go.WideElems Mb

set_option maxRecDepth 100000 in
theorem vectorTurns_lifted (os : Os) (started : os.Started) (H : Type) (enc : TypeId × Value → H) :
    ReturnsInHanded {} Tryz.checked os 11 .any (fun w args => (Rows.vectorTurnsSpec.pre enc Tryz.prog Tryz.f11 [] false w args ∧ laidMetH Tryz.prog laid7 w) ∧ sizedMet enc Tryz.prog Tryz.f11 (OpenSpec.ofChange Rows.vectorTurnsSpec) false w args)
      (Rows.vectorTurnsSpec.post enc Tryz.prog Tryz.f11 false true false false) := by
  refine returns_shaped (C := Tryz.checked) (X := fun w _ => laidMetH Tryz.prog laid7 w) (fun _ _ _ hh h => h.of_heap hh) own started (by kernel_rfl) Tryz.func11
    (ChangeSpec.witness_shaped (enc := enc) (C := Tryz.checked) (os := os) (X := fun w _ => laidMetH Tryz.prog laid7 w) false (World.laidAll Tryz.prog os laid7) #[.agg #[.int .i64 0, .int .i64 0, .int .i64 0, .int .i64 0, .int .i64 0, .int .i64 0], .agg #[.int .i64 0, .int .i64 0]] 8 (World.laidAll_os _ _ _)
      (World.shaped_of_ZipB (by kernel_rfl) (by kernel_rfl)) (by kernel_rfl) (by kernel_rfl) (by kernel_rfl)
      (by rw [MakeChecks.laidMetH_plain _ _ _ (by kernel_rfl)]; exact laidMet_laidAll _ (by kernel_rfl) (by kernel_rfl))) ?_
  intro W base args ds gs before hval0 hW _ hL hS
  have hval : ∀ (j : Nat) t v, Tryz.f11.params[j]? = some t → args[j]? = some v → Value.okWide Tryz.prog W .any base t v := hval0
  have hW' := hW
  obtain ⟨p, q, hA0, hV, rfl, hfz, hnd⟩ := hW
  have hA : DataW.TrodAll enc Tryz.prog W 0 (fun _ => true) true Tryz.f11.params.toList args.toList ds p := hA0
  rw [Tryz.params11] at hA hval
  obtain ⟨v0, vs0, d0, ds0, p0, q0, hargs, rfl, rfl, h0, r0⟩ := trodAll_cons hA
  obtain ⟨v1, vs1, d1, ds1, p1, q1, rfl, rfl, rfl, h1, r1⟩ := trodAll_cons r0
  obtain ⟨rfl, rfl, rfl⟩ := trodAll_nil r1
  obtain rfl : args = #[v0, v1] := by cases args; simp_all
  obtain ⟨rfl, rfl⟩ := trodVars_none hV
  obtain ⟨zs0, hl0, hv0, _⟩ := ints_of Tryz.underlying3 (.inr ⟨_, _, Tryz.underlying97⟩) (by kernel_rfl) (by kernel_rfl) (hval 0 97 v0 rfl rfl)
  obtain ⟨a, b, c, e0⟩ := tri_of hl0
  rw [e0] at hv0
  subst hv0
  have lt0 : ∀ x ∈ p0, x.block < W.heap.size := by obtain ⟨m, hm⟩ := h0; exact DataW.trod_lt m _ _ _ hm
  obtain ⟨zs1, hl1, hv1, _⟩ := ints_of Tryz.underlying3 (.inl ⟨_, Tryz.underlying23⟩) (by kernel_rfl) (by kernel_rfl) (hval 1 23 v1 rfl rfl)
  obtain ⟨m, e1⟩ := pt_of hl1
  rw [e1] at hv1
  subst hv1
  have lt1 : ∀ x ∈ p1, x.block < W.heap.size := by obtain ⟨m, hm⟩ := h1; exact DataW.trod_lt m _ _ _ hm
  have hg := good_of hL hS
  clear hA0 hval0
  refine (turns_calls a b c m W hg).mono fun e W' ⟨he, bel⟩ => ?_
  subst he
  exact ⟨_, rfl, _, _, _, [], _, [], hW', trodAll_mk1 (shut_bool Tryz.underlying4 _), (trodAll_cons_mk (Below.trod laidOut (by kernel_rfl) (of_decide_eq_true (by kernel_rfl)) h0 bel lt0) (trodAll_cons_mk (Below.trod laidOut (by kernel_rfl) (of_decide_eq_true (by kernel_rfl)) h1 bel lt1) trodAll_mk0)), rfl, bel.frame _, fun h => by cases h⟩

theorem vectorTurns_k10 : (Rows.vectorTurnsRow.inPlace == Tryz.prog.inPlace 11) = true := by kernel_rfl
theorem vectorTurns_k11 : (Rows.vectorTurnsRow.unfollowed == Tryz.prog.unfollowed 11) = true := by kernel_rfl
theorem vectorTurns_k12 : (Rows.vectorTurnsRow.recurses == Tryz.prog.recurses 11) = true := by kernel_rfl
theorem vectorTurns_k13 : (Rows.vectorTurnsRow.named == Tryz.prog.varsNamed 11) = true := by kernel_rfl

theorem vectorTurns_joined : joinedFacts Tryz.prog 11 Tryz.f11 Rows.vectorTurnsSpec Rows.vectorTurnsRow = true :=
  joined_of (by kernel_rfl) laidOut p_mapsRowed (by kernel_rfl) (by kernel_rfl) rfl p_stops rfl p_knobs vectorTurns_k10 vectorTurns_k11 vectorTurns_k12 vectorTurns_k13
    (by kernel_rfl) (by kernel_rfl) (by kernel_rfl) (by kernel_rfl) (by kernel_rfl) rfl (by kernel_rfl) (by kernel_rfl) (by kernel_rfl) p_keys rfl p_heard p_enter p_lifts p_make rfl (by kernel_rfl) (by kernel_rfl) (by kernel_rfl)

theorem vectorTurns_over : Rows.VectorTurnsSaid :=
  OpenClaim.holds_of_wide (p := Tryz.pinned) 11 Tryz.f11 rfl rfl rfl rfl rfl rfl rfl ⟨rfl, rfl, rfl, rfl, rfl⟩ rfl rfl rfl rfl rfl (by kernel_rfl) Tryz.func11 vectorTurns_joined
    (of_decide_eq_true (by kernel_rfl)) (by unfold Func.isWrapper; first | (rw [if_pos (by decide +kernel)]; kernel_rfl) | (rw [if_neg (by decide +kernel)]; exact ⟨rfl, rfl⟩))
    (fun os started H enc _ => vectorTurns_lifted os started H enc)

theorem vectorTurns_goes : false = Rows.vectorTurnsRow.goesBy Tryz.prog := by kernel_rfl

theorem vectorTurns_holds : Rows.VectorTurnsCardSaid :=
  Claim7.holds_tied_plain_at .later [] [.data, .data, .data, .data, .sentinel, .sentinel, .pinned] true Rows.vectorTurnsCard.stood.harness true
    vectorTurns_over (fun _ h => by cases h) (by kernel_rfl) (fun _ h => by cases h) vectorTurns_row_tie rfl ⟨rfl, rfl⟩ p_main rfl
    (fun f fn hf hfn => by
      obtain rfl : f = 11 := Option.some.inj ((show Tryz.prog.funcNamed "metrolab/metrolablaw07.VectorTurns" = some 11 by kernel_rfl).symm.trans hf) |>.symm
      obtain rfl : fn = Tryz.f11 := (Option.some.inj (Tryz.func11.symm.trans hfn)).symm
      exact ⟨p_looks, fun j t ht => by
        rw [Tryz.params11] at ht
        have hm : t ∈ [97, 23] := by simpa using Array.mem_of_getElem? ht
        have hall : ([97, 23].all fun u => !Tryz.prog.wantsStandIn u) = true := by kernel_rfl
        exact (show Tryz.prog.wantsStandIn t = false by simpa using List.all_eq_true.1 hall t hm)⟩)
    vectorTurns_goes
#print axioms vectorTurns_holds

end Go.Proofs.YtocackggamifnaaGreatDoor
