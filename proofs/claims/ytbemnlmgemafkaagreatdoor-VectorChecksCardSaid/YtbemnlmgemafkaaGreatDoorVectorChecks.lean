/- Proved here: the law VectorChecks answers true at every list of points of the plane, in every world in which the listed package-level variables hold what the program's text lays; nothing else is asked. -/
import Derived.Test.YtbemnlmgemafkaaGreatDoorStart
import Derived.Test.YtbemnlmgemafkaaGreatDoorFacts
import Derived.Test.YtbemnlmgemafkaaGreatDoorLists
import Derived.Test.YtbemnlmgemafkaaGreatDoorChecks
import Derived.Test.YtbemnlmgemafkaaGreatDoorCards
import Derived.Test.YtbemnlmgemafkaaGreatDoorTie
import Derived.SevenTiedAt
namespace Go.Proofs.YtbemnlmgemafkaaGreatDoor
open Go.ChangeShapes Go.WideShapes Go.ChangeAt Go.RowKit Go.WideElems Mb

set_option maxRecDepth 100000 in
theorem vectorChecks_lifted (os : Os) (started : os.Started) (H : Type) (enc : TypeId × Value → H) :
    ReturnsInHanded {} Tryz.checked os 8 .any (fun w args => (Rows.vectorChecksSpec.pre enc Tryz.prog Tryz.f8 [] false w args ∧ laidMetH Tryz.prog laid7 w) ∧ sizedMet enc Tryz.prog Tryz.f8 (OpenSpec.ofChange Rows.vectorChecksSpec) false w args)
      (Rows.vectorChecksSpec.post enc Tryz.prog Tryz.f8 false true false false) := by
  refine returns_shaped (C := Tryz.checked) (X := fun w _ => laidMetH Tryz.prog laid7 w) (fun _ _ _ hh h => h.of_heap hh) own started (by kernel_rfl) Tryz.func8
    (ChangeSpec.witness_shaped (enc := enc) (C := Tryz.checked) (os := os) (X := fun w _ => laidMetH Tryz.prog laid7 w) false (World.laidAll Tryz.prog os laid7) #[.slice none 0 0] 8 (World.laidAll_os _ _ _)
      (World.shaped_of_ZipB (by kernel_rfl) (by kernel_rfl)) (by kernel_rfl) (by kernel_rfl) (by kernel_rfl)
      (by rw [MakeChecks.laidMetH_plain _ _ _ (by kernel_rfl)]; exact laidMet_laidAll _ (by kernel_rfl) (by kernel_rfl))) ?_
  intro W base args ds gs before hval0 hW _ hL hS
  have hval : ∀ (j : Nat) t v, Tryz.f8.params[j]? = some t → args[j]? = some v → Value.okWide Tryz.prog W .any base t v := hval0
  have hW' := hW
  obtain ⟨p, q, hA0, hV, rfl, hfz, hnd⟩ := hW
  have hA : DataW.TrodAll enc Tryz.prog W 0 (fun _ => true) true Tryz.f8.params.toList args.toList ds p := hA0
  rw [Tryz.params8] at hA hval
  obtain ⟨v0, vs0, d0, ds0, p0, q0, hargs, rfl, rfl, h0, r0⟩ := trodAll_cons hA
  obtain ⟨rfl, rfl, rfl⟩ := trodAll_nil r0
  obtain rfl : args = #[v0] := by cases args; simp_all
  obtain ⟨rfl, rfl⟩ := trodVars_none hV
  obtain ⟨a, l, cap, e0, hs0, hn0⟩ := list2_of (hval 0 57 v0 rfl rfl) h0
  subst e0
  have lt0 : ∀ x ∈ p0, x.block < W.heap.size := by obtain ⟨m, hm⟩ := h0; exact DataW.trod_lt m _ _ _ hm
  have hg := good_of hL hS
  clear hA0 hval0
  refine (checks_calls l a cap W hg hs0 hn0).mono fun e W' ⟨he, bel⟩ => ?_
  subst he
  exact ⟨_, rfl, _, _, _, [], _, [], hW', trodAll_mk1 (shut_bool Tryz.underlying4 _), (trodAll_cons_mk (Below.trod laidOut (by kernel_rfl) (of_decide_eq_true (by kernel_rfl)) h0 bel lt0) trodAll_mk0), rfl, bel.frame _, fun h => by cases h⟩

theorem vectorChecks_k10 : (Rows.vectorChecksRow.inPlace == Tryz.prog.inPlace 8) = true := by kernel_rfl
theorem vectorChecks_k11 : (Rows.vectorChecksRow.unfollowed == Tryz.prog.unfollowed 8) = true := by kernel_rfl
theorem vectorChecks_k12 : (Rows.vectorChecksRow.recurses == Tryz.prog.recurses 8) = true := by kernel_rfl
theorem vectorChecks_k13 : (Rows.vectorChecksRow.named == Tryz.prog.varsNamed 8) = true := by kernel_rfl

theorem vectorChecks_joined : joinedFacts Tryz.prog 8 Tryz.f8 Rows.vectorChecksSpec Rows.vectorChecksRow = true :=
  joined_of (by kernel_rfl) laidOut p_mapsRowed (by kernel_rfl) (by kernel_rfl) rfl p_stops rfl p_knobs vectorChecks_k10 vectorChecks_k11 vectorChecks_k12 vectorChecks_k13
    (by kernel_rfl) (by kernel_rfl) (by kernel_rfl) (by kernel_rfl) (by kernel_rfl) rfl (by kernel_rfl) (by kernel_rfl) (by kernel_rfl) p_keys rfl p_heard p_enter p_lifts p_make rfl (by kernel_rfl) (by kernel_rfl) (by kernel_rfl)

theorem vectorChecks_over : Rows.VectorChecksSaid :=
  OpenClaim.holds_of_wide (p := Tryz.pinned) 8 Tryz.f8 rfl rfl rfl rfl rfl rfl rfl ⟨rfl, rfl, rfl, rfl, rfl⟩ rfl rfl rfl rfl rfl (by kernel_rfl) Tryz.func8 vectorChecks_joined
    (of_decide_eq_true (by kernel_rfl)) (by unfold Func.isWrapper; first | (rw [if_pos (by decide +kernel)]; kernel_rfl) | (rw [if_neg (by decide +kernel)]; exact ⟨rfl, rfl⟩))
    (fun os started H enc _ => vectorChecks_lifted os started H enc)

theorem vectorChecks_goes : false = Rows.vectorChecksRow.goesBy Tryz.prog := by kernel_rfl

theorem vectorChecks_holds : Rows.VectorChecksCardSaid :=
  Claim7.holds_tied_plain_at .later [] [.data, .data, .data, .data, .sentinel, .sentinel, .pinned] true Rows.vectorChecksCard.stood.harness true
    vectorChecks_over (fun _ h => by cases h) (by kernel_rfl) (fun _ h => by cases h) vectorChecks_row_tie rfl ⟨rfl, rfl⟩ p_main rfl
    (fun f fn hf hfn => by
      obtain rfl : f = 8 := Option.some.inj ((show Tryz.prog.funcNamed "metrolab/metrolablaw07.VectorChecks" = some 8 by kernel_rfl).symm.trans hf) |>.symm
      obtain rfl : fn = Tryz.f8 := (Option.some.inj (Tryz.func8.symm.trans hfn)).symm
      exact ⟨p_looks, fun j t ht => by
        rw [Tryz.params8] at ht
        have hm : t ∈ [57] := by simpa using Array.mem_of_getElem? ht
        have hall : ([57].all fun u => !Tryz.prog.wantsStandIn u) = true := by kernel_rfl
        exact (show Tryz.prog.wantsStandIn t = false by simpa using List.all_eq_true.1 hall t hm)⟩)
    vectorChecks_goes
#print axioms vectorChecks_holds

end Go.Proofs.YtbemnlmgemafkaaGreatDoor
