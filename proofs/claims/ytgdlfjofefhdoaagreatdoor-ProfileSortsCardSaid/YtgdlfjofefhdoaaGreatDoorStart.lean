/- What every row's proof takes: the wrap with the heap's shape, the standing facts out of the row's own condition, the shapes of the arguments. -/
import Derived.Test.YtgdlfjofefhdoaaGreatDoorRows
import Derived.Test.YtgdlfjofefhdoaaGreatDoorLib
import Derived.ProofKit
import Derived.OpenShut
import Derived.LaidMore
import Derived.Lay
import Derived.Stop.Joined
namespace Go.Proofs.YtgdlfjofefhdoaaGreatDoor
open Go.ChangeShapes Go.WideShapes Go.ChangeAt Go.RowKit Go.WideElems

theorem own : ownKnob Tryz.prog.godebug = none := by kernel_rfl
theorem laidOut : laidOutB Tryz.prog = true := by kernel_rfl

/-- the wrap, with the heap's shape handed to the contract -/
theorem returns_shaped {H : Type} {enc : TypeId × Value → H} {a : Assume} {C : Checked} {os : Os} {f : FuncId} {fn : Func} {s : ChangeSpec} {conds : List PathCond} {apart fresh handsOn again : Bool} {X : World → Array Value → Prop}
    (hX : ∀ (w w' : World) (args : Array Value), w.heap = w'.heap → X w args → X w' args)
    (own : ownKnob C.prog.godebug = none) (started : os.Started) (noInit : C.prog.inits.idxOf? f = none) (hfn : C.prog.funcs[f]? = some fn)
    (witness : ∃ (w : World) (tape : Tape) (i : Input), w.os = os ∧ (w.forCall tape i).Shaped C.prog ∧ i.vars = [] ∧ Input.okWide C.prog (w.forCall tape i) .any w.heap.size f i ∧
      ((s.pre enc C.prog fn conds apart (w.forCall tape i).memory i.args ∧ X (w.forCall tape i).memory i.args) ∧ sizedMet enc C.prog fn (OpenSpec.ofChange s) apart (w.forCall tape i).memory i.args) ∧ a.holds C.prog (lone (Frame.enter C.prog f i.args .normal) [] (w.forCall tape i)))
    (contract : ∀ (W : World) (base : Nat) (args : Array Value) (ds gs : List (DataW H)) (before : List MemPlace),
      (∀ (j : Nat) t v, fn.params[j]? = some t → args[j]? = some v → Value.okWide C.prog W .any base t v) →
      DataW.Whole enc C.prog fn.params.toList s.vars apart W args.toList ds gs before →
      (DataW.weightsEach C.prog (fn.params.toList ++ s.plain.varTypes C.prog) (ds ++ gs)).all (· ≤ reachBytes) = true → X W args → W.ShapedOpen C.prog →
      Calls C.prog f args W fun e W' => ∃ v, e = .returned v ∧ s.post enc C.prog fn apart fresh handsOn again W args v W') :
    ReturnsInHanded a C os f .any (fun w args => (s.pre enc C.prog fn conds apart w args ∧ X w args) ∧ sizedMet enc C.prog fn (OpenSpec.ofChange s) apart w args) (s.post enc C.prog fn apart fresh handsOn again) := by
  refine returnsInHanded_of_calls own started noInit witness ?_
  intro w tape i _ hsh _ hok hpre _
  obtain ⟨_, _, _, fn', hfn', _, _, _, _, hval⟩ := hok
  have e : fn' = fn := Option.some.inj (hfn'.symm.trans hfn)
  subst e
  obtain ⟨⟨⟨ds, gs, before, hw, hc⟩, hx⟩, hz⟩ := hpre
  have hw' := DataW.Whole.of_heap (w' := w.forCall tape i) (by rfl) hw
  refine (contract (w.forCall tape i) w.heap.size i.args ds gs before hval hw' (hz.weights hw) (hX _ _ _ (by rfl) hx) hsh).mono fun e W' ⟨v, he, hp⟩ => ?_
  subst he
  exact ChangeSpec.post_blind hp

/-- the listed variables, as each row lists them -/
abbrev laid7 : List (String × DataW Unit) := [("math/bits.deBruijn32tab", Rows.laid_math_bits_deBruijn32tab), ("math/bits.deBruijn64tab", Rows.laid_math_bits_deBruijn64tab), ("internal/strconv.uint64pow10", Rows.laid_internal_strconv_uint64pow10), ("unicode/utf8.acceptRanges", Rows.laid_unicode_utf8_acceptRanges), ("strconv.ErrRange", Rows.laid_strconv_ErrRange), ("strconv.ErrSyntax", Rows.laid_strconv_ErrSyntax), ("unicode/utf8.first", Rows.laid_unicode_utf8_first)]

theorem tPow : (Tryz.prog.globals[1]?).map (·.type) = some 253 := by kernel_rfl

theorem tab_of {W : World} (h : laidMetH Tryz.prog laid7 W) : Lib.TabIs Tryz.prog W "internal/strconv.uint64pow10" .u64 Lib.pow10Tab := by
  rw [MakeChecks.laidMetH_plain _ _ _ (by kernel_rfl)] at h
  obtain ⟨ps, ⟨g0, t0, cs0, f0, p0, q0, hg0, ht0, hv0, hd0, ⟨g1, t1, cs1, f1, p1, q1, hg1, ht1, hv1, hd1, ⟨g2, t2, cs2, f2, p2, q2, hg2, ht2, hv2, hd2, _, _⟩, _⟩, _⟩, _, _⟩ := h
  obtain rfl := Option.some.inj (gPow.symm.trans hg2)
  obtain rfl := Option.some.inj (tPow.symm.trans ht2)
  unfold Lib.TabIs
  rw [hv2, ← Lib.cells_of_tab (zs := Lib.pow10Tab) (k := .u64) Tryz.underlying253 Tryz.underlying229 (by kernel_rfl) (by kernel_rfl) hd2]

section
variable {P : Program}

/-- A variable of one whole number holds some whole number. -/
theorem int_of_shape {w : World} {g : Nat} {t : TypeId} {zero : Array Value} (h : w.ShapedOpen P) (hg : g < P.globals.size)
    (h0 : ((begin P (fun _ _ => 0) default).world.heap[g]?).bind Obj.row? = some (zero, t)) (hz : zero.size = 1)
    (hb : P.buildable t = true) (hc : P.cellTypes P.depth t = some [t]) (hu : P.underlying t = some (.int .i64)) : ∃ m, w.cell? ⟨g, 0, none⟩ = some (.int .i64 m) := by
  obtain ⟨cs, hh, hs, hr⟩ := h.1 g zero t hg h0
  obtain ⟨ts, hts, _, hall⟩ := hr hb
  rw [hc] at hts
  cases hts
  have h1 : 0 < cs.size := by omega
  obtain ⟨u, hu', hok⟩ := hall 0 cs[0] (by simp [h1])
  have : u = t := by simpa using hu'.symm
  subst this
  have hcell : w.cell? ⟨g, 0, none⟩ = some cs[0] := by simp [World.cell?, hh, h1]
  rw [hcell]
  unfold Cell.ok at hok
  rw [hu] at hok
  cases hv : cs[0] <;> rw [hv] at hok <;> simp at hok
  obtain ⟨rfl, _⟩ := hok
  exact ⟨_, rfl⟩

theorem size_of_shape {w : World} (g : Nat) (h : w.ShapedOpen P) (hg : g < P.globals.size)
    (h0 : (((begin P (fun _ _ => 0) default).world.heap[g]?).bind Obj.row?).isSome = true) : g + 1 ≤ w.heap.size := by
  obtain ⟨⟨zero, t⟩, h0⟩ := Option.isSome_iff_exists.1 h0
  obtain ⟨cs, hh, _⟩ := h.1 g zero t hg h0
  exact (Array.getElem?_eq_some_iff.1 hh).1

/-- the cells of a struct or an array of whole numbers -/
theorem ints_of {W : World} {base n : Nat} {t ti : TypeId} {v : Value} (hi : P.underlying ti = some (.int .i64)) (hu : (∃ fs, P.underlying t = some (.struct fs)) ∨ ∃ m e, P.underlying t = some (.array m e))
    (hc : P.cellsOf t = n) (ht : P.cellTypes P.depth t = some (List.replicate n ti)) (h : Value.okWide P W .any base t v) :
    ∃ zs : List Int, zs.length = n ∧ v = .agg (zs.map (Value.int .i64)).toArray ∧ ∀ z ∈ zs, -9223372036854775808 ≤ z ∧ z ≤ 9223372036854775807 := by
  have h' : ∃ cs, v = .agg cs ∧ cs.size = P.cellsOf t ∧ Row.okWide P W .any base t cs := by
    unfold Value.okWide at h
    rcases hu with ⟨fs, hu⟩ | ⟨m, e, hu⟩ <;> (rw [hu] at h; exact h)
  obtain ⟨cs, rfl, hsz, ts, hts, _, hall⟩ := h'
  rw [ht] at hts
  cases hts
  have key : ∀ v ∈ cs.toList, ∃ z, v = .int .i64 z ∧ -9223372036854775808 ≤ z ∧ z ≤ 9223372036854775807 := by
    intro v hv
    obtain ⟨i, hi', rfl⟩ := List.getElem_of_mem hv
    rw [Array.length_toList] at hi'
    obtain ⟨u, hu1, hu2⟩ := hall i cs[i] (by simp [hi'])
    have hut : u = ti := by
      rw [List.getElem?_replicate] at hu1
      split at hu1
      · exact (Option.some.inj hu1).symm
      · cases hu1
    subst hut
    simp only [Array.getElem_toList]
    unfold Cell.okWide at hu2
    rw [hi] at hu2
    cases hv : cs[i] <;> rw [hv] at hu2 <;> simp [Cell.ok, hi] at hu2
    rename_i k z
    obtain ⟨rfl, hz⟩ := hu2
    refine ⟨z, rfl, ?_⟩
    simpa [IntKind.has, IntKind.min, IntKind.max, IntKind.signed, IntKind.bits] using hz
  have conv : ∀ l : List Value, (∀ v ∈ l, ∃ z, v = .int .i64 z ∧ -9223372036854775808 ≤ z ∧ z ≤ 9223372036854775807) → ∃ zs : List Int, l = zs.map (Value.int .i64) ∧ ∀ z ∈ zs, -9223372036854775808 ≤ z ∧ z ≤ 9223372036854775807 := by
    intro l
    induction l with
    | nil => intro _; exact ⟨[], rfl, by simp⟩
    | cons a l ih =>
      intro h
      obtain ⟨z, rfl, hz⟩ := h a (by simp)
      obtain ⟨zs, e, hzs⟩ := ih fun v hv => h v (by simp [hv])
      exact ⟨z :: zs, by rw [e]; rfl, by intro y hy; rcases List.mem_cons.1 hy with rfl | hy; exact hz; exact hzs y hy⟩
  obtain ⟨zs, e, hzs⟩ := conv cs.toList key
  have hl : cs = (zs.map (Value.int .i64)).toArray := by rw [← e]
  refine ⟨zs, ?_, by rw [hl], hzs⟩
  have : cs.size = zs.length := by rw [hl]; simp
  omega
end

theorem pt_of {zs : List Int} (h : zs.length = 2) : ∃ p : Mb.P2, (zs.map (Value.int .i64)).toArray = #[.int .i64 p.x, .int .i64 p.y] := by
  match zs, h with
  | [x0, x1], _ => exact ⟨⟨x0, x1⟩, rfl⟩

theorem tri_of {zs : List Int} (h : zs.length = 6) : ∃ a b c : Mb.P2, (zs.map (Value.int .i64)).toArray = #[.int .i64 a.x, .int .i64 a.y, .int .i64 b.x, .int .i64 b.y, .int .i64 c.x, .int .i64 c.y] := by
  match zs, h with
  | [x0, x1, x2, x3, x4, x5], _ => exact ⟨⟨x0, x1⟩, ⟨x2, x3⟩, ⟨x4, x5⟩, rfl⟩

theorem four_of {zs : List Int} (h : zs.length = 12) : ∃ a b c d : Mb.P3, (zs.map (Value.int .i64)).toArray = #[.int .i64 a.x, .int .i64 a.y, .int .i64 a.z, .int .i64 b.x, .int .i64 b.y, .int .i64 b.z, .int .i64 c.x, .int .i64 c.y, .int .i64 c.z, .int .i64 d.x, .int .i64 d.y, .int .i64 d.z] := by
  match zs, h with
  | [x0, x1, x2, x3, x4, x5, x6, x7, x8, x9, x10, x11], _ => exact ⟨⟨x0, x1, x2⟩, ⟨x3, x4, x5⟩, ⟨x6, x7, x8⟩, ⟨x9, x10, x11⟩, rfl⟩

theorem good_of {W : World} (h : laidMetH Tryz.prog laid7 W) (hs : W.ShapedOpen Tryz.prog) : Good W :=
  ⟨tab_of h, int_of_shape hs (of_decide_eq_true (by kernel_rfl)) (show _ = some (#[.int .i64 0], 3) by kernel_rfl) rfl (by kernel_rfl) (by kernel_rfl) Tryz.underlying3,
    size_of_shape 7 hs (of_decide_eq_true (by kernel_rfl)) (by kernel_rfl)⟩

end Go.Proofs.YtgdlfjofefhdoaaGreatDoor
