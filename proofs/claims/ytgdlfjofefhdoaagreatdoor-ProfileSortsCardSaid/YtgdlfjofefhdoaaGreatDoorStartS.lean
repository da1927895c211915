/- Arguments that are lists of points, as the walks take them. -/
import Derived.Test.YtgdlfjofefhdoaaGreatDoorStart
import Derived.Test.YtgdlfjofefhdoaaGreatDoorVecSp
import Derived.Deep.SlicePairs
import Derived.Deep.Strs
namespace Go.Proofs.YtgdlfjofefhdoaaGreatDoor
open Go.ChangeShapes Go.WideShapes Go.ChangeAt Go.RowKit Go.WideElems Mb

section
variable {P : Program}
theorem slice_ok {W : World} {base : Nat} {t e : TypeId} {v : Value} (ht : P.underlying t = some (.slice e)) (h : Value.okWide P W .any base t v) :
    v = .slice none 0 0 ∨ ∃ b o len cap, v = .slice (some ⟨b, o, none⟩) len cap ∧ b < W.heap.size := by
  simp only [Value.okWide, ht, Cell.okWide] at h
  unfold Cell.ok at h
  rw [ht] at h
  cases v <;> simp at h
  rename_i a len cap
  cases a with
  | none =>
    match len, cap, h with
    | 0, 0, _ => exact .inl rfl
  | some x =>
    obtain ⟨b, o, s⟩ := x
    obtain ⟨_, _, _, hs, row, cells, hsh, _⟩ := h
    simp only at hs
    subst hs
    refine .inr ⟨b, o, len, cap, rfl, ?_⟩
    rcases Nat.lt_or_ge b W.heap.size with hb | hb
    · exact hb
    · simp [World.shape?, Array.getElem?_eq_none hb] at hsh
theorem add_off (b o k : Nat) : (⟨b, o, none⟩ : Addr).add k = ⟨b, o + k, none⟩ := by
  unfold Addr.add
  split
  · rename_i h; subst h; rfl
  · rfl

theorem pts_gen {H : Type} {enc : TypeId × Value → H} {W : World} {t e ti : TypeId} {f0 f1 : Field} {b o len cap : Nat} {d : DataW H} {p : List MemPlace} (hti : P.underlying ti = some (.int .i64)) (ht : P.underlying t = some (.slice e)) (he : P.underlying e = some (.struct #[f0, f1]))
    (ce : P.cellsOf e = 2) (o0 : f0.offset = 0) (o1 : f1.offset = 1) (c0 : P.cellsOf f0.type = 1) (c1 : P.cellsOf f1.type = 1) (t0 : f0.type = ti) (t1 : f1.type = ti) (hb : b < W.heap.size)
    (h : DataW.Trod enc P W 0 (fun _ => true) true t (.slice (some ⟨b, o, none⟩) len cap) d p) :
    ∃ l : List P2, l.length = len ∧ Pts W b o l ∧ l.length ≤ maxLen := by
  obtain ⟨fuel, hf⟩ := h
  rcases Go.Deep.open_slice_pairs ht he ce o0 o1 c0 c1 hf with ⟨hc, _⟩ | ⟨a, len', cap', m, n, V0, V1, D0, D1, P0, P1, hc, _, hl, hm, hmm, _, hel⟩
  · simp [Value.cells] at hc
  · simp [Value.cells] at hc
    obtain ⟨rfl, rfl, rfl⟩ := hc
    refine ⟨(List.range len).map fun i => ⟨RowKit.intOf (V0 i), RowKit.intOf (V1 i)⟩, by simp, ⟨hb, fun i hi => ?_⟩, ?_⟩
    · have hi' : i < len := by simpa using hi
      obtain ⟨e0, e1, g0, g1⟩ := hel i (by rw [hmm]; simp; omega)
      rw [t0] at g0
      rw [t1] at g1
      obtain ⟨z0, h0, _, _⟩ := DataW.trod_int hti g0
      obtain ⟨z1, h1, _, _⟩ := DataW.trod_int hti g1
      simp only [List.cons.injEq, and_true] at h0 h1
      rw [h0] at e0
      rw [h1] at e1
      rw [add_off] at e0 e1
      simp only [List.getElem_map, List.getElem_range, h0, h1, RowKit.intOf]
      exact ⟨e0, e1⟩
    · simp; omega

theorem pts_any {H : Type} {enc : TypeId × Value → H} {W : World} {base : Nat} {v : Value} {t e ti : TypeId} {f0 f1 : Field} {d : DataW H} {p : List MemPlace} (hti : P.underlying ti = some (.int .i64)) (ht : P.underlying t = some (.slice e)) (he : P.underlying e = some (.struct #[f0, f1]))
    (ce : P.cellsOf e = 2) (o0 : f0.offset = 0) (o1 : f1.offset = 1) (c0 : P.cellsOf f0.type = 1) (c1 : P.cellsOf f1.type = 1) (t0 : f0.type = ti) (t1 : f1.type = ti)
    (hv : Value.okWide P W .any base t v) (h : DataW.Trod enc P W 0 (fun _ => true) true t v d p) :
    (v = .slice none 0 0) ∨ ∃ (b o cap : Nat) (l : List P2), v = .slice (some ⟨b, o, none⟩) l.length cap ∧ Pts W b o l ∧ l.length ≤ maxLen := by
  rcases slice_ok ht hv with hn | ⟨b, o, len, cap, hs, hb⟩
  · exact .inl hn
  · subst hs
    obtain ⟨l, hl0, hp, hl⟩ := pts_gen hti ht he ce o0 o1 c0 c1 t0 t1 hb h
    subst hl0
    exact .inr ⟨b, o, cap, l, rfl, hp, hl⟩
theorem spts_gen {H : Type} {enc : TypeId × Value → H} {W : World} {t e ti : TypeId} {f0 f1 f2 : Field} {b o len cap : Nat} {d : DataW H} {p : List MemPlace} (hti : P.underlying ti = some (.int .i64)) (ht : P.underlying t = some (.slice e)) (he : P.underlying e = some (.struct #[f0, f1, f2]))
    (ce : P.cellsOf e = 3) (o0 : f0.offset = 0) (o1 : f1.offset = 1) (o2 : f2.offset = 2) (c0 : P.cellsOf f0.type = 1) (c1 : P.cellsOf f1.type = 1) (c2 : P.cellsOf f2.type = 1) (t0 : f0.type = ti) (t1 : f1.type = ti) (t2 : f2.type = ti) (hb : b < W.heap.size)
    (h : DataW.Trod enc P W 0 (fun _ => true) true t (.slice (some ⟨b, o, none⟩) len cap) d p) :
    ∃ l : List P3, l.length = len ∧ Spts W b o l ∧ l.length ≤ maxLen := by
  obtain ⟨fuel, hf⟩ := h
  rcases Go.Deep.open_slice ht hf with ⟨hc, _⟩ | ⟨a, len', cap', m, n, D, Pl, hc, _, hl, hm, hmm, _, hel⟩
  · simp [Value.cells] at hc
  · simp [Value.cells] at hc
    obtain ⟨rfl, rfl, rfl⟩ := hc
    have each : ∀ i, i < len → ∃ q : P3, W.cell? ⟨b, o + i * 3, none⟩ = some (.int .i64 q.x) ∧ W.cell? ⟨b, o + i * 3 + 1, none⟩ = some (.int .i64 q.y) ∧ W.cell? ⟨b, o + i * 3 + 2, none⟩ = some (.int .i64 q.z) := by
      intro i hi
      obtain ⟨cs', h1, h2⟩ := hel i (by rw [hmm]; simp; omega)
      rw [ce] at h1
      obtain ⟨_, hlen, hcell⟩ := World.cells?_some h1
      obtain ⟨y0, y1, y2, k, _, _, g0, g1, g2⟩ := Go.Deep.trod_struct3 he h2
      match cs', hlen with
      | [v0, v1, v2], _ =>
        simp [o0, o1, o2, c0, c1, c2] at g0 g1 g2
        have e0 := hcell 0 (by omega)
        have e1 := hcell 1 (by omega)
        have e2 := hcell 2 (by omega)
        rw [Go.Deep.add_add, add_off] at e0 e1 e2
        rw [t0] at g0
        rw [t1] at g1
        rw [t2] at g2
        obtain ⟨z0, h0, _, _⟩ := DataW.trod_int hti g0
        obtain ⟨z1, h1', _, _⟩ := DataW.trod_int hti g1
        obtain ⟨z2, h2', _, _⟩ := DataW.trod_int hti g2
        simp only [List.cons.injEq, and_true] at h0 h1' h2'
        subst h0; subst h1'; subst h2'
        exact ⟨⟨z0, z1, z2⟩, by simpa using e0, by simpa [Nat.add_assoc] using e1, by simpa [Nat.add_assoc] using e2⟩
    haveI : Inhabited P3 := ⟨⟨0, 0, 0⟩⟩
    obtain ⟨q, hq⟩ := Go.Deep.choose_lt each
    refine ⟨(List.range len).map q, by simp, ⟨hb, fun i hi => ?_⟩, by simp; omega⟩
    have hi' : i < len := by simpa using hi
    simpa using hq i hi'

theorem spts_any {H : Type} {enc : TypeId × Value → H} {W : World} {base : Nat} {v : Value} {t e ti : TypeId} {f0 f1 f2 : Field} {d : DataW H} {p : List MemPlace} (hti : P.underlying ti = some (.int .i64)) (ht : P.underlying t = some (.slice e)) (he : P.underlying e = some (.struct #[f0, f1, f2]))
    (ce : P.cellsOf e = 3) (o0 : f0.offset = 0) (o1 : f1.offset = 1) (o2 : f2.offset = 2) (c0 : P.cellsOf f0.type = 1) (c1 : P.cellsOf f1.type = 1) (c2 : P.cellsOf f2.type = 1) (t0 : f0.type = ti) (t1 : f1.type = ti) (t2 : f2.type = ti)
    (hv : Value.okWide P W .any base t v) (h : DataW.Trod enc P W 0 (fun _ => true) true t v d p) :
    (v = .slice none 0 0) ∨ ∃ (b o cap : Nat) (l : List P3), v = .slice (some ⟨b, o, none⟩) l.length cap ∧ Spts W b o l ∧ l.length ≤ maxLen := by
  rcases slice_ok ht hv with hn | ⟨b, o, len, cap, hs, hb⟩
  · exact .inl hn
  · subst hs
    obtain ⟨l, hl0, hp, hl⟩ := spts_gen hti ht he ce o0 o1 o2 c0 c1 c2 t0 t1 t2 hb h
    subst hl0
    exact .inr ⟨b, o, cap, l, rfl, hp, hl⟩
end

set_option maxRecDepth 100000 in
theorem pts_of {H : Type} {enc : TypeId × Value → H} {W : World} {base : Nat} {v : Value} {d : DataW H} {p : List MemPlace} (hv : Value.okWide Tryz.prog W .any base 54 v) (h : DataW.Trod enc Tryz.prog W 0 (fun _ => true) true 54 v d p) :
    (v = .slice none 0 0) ∨ ∃ (b o cap : Nat) (l : List P2), v = .slice (some ⟨b, o, none⟩) l.length cap ∧ Pts W b o l ∧ l.length ≤ maxLen :=
  pts_any Tryz.underlying3 Tryz.underlying54 Tryz.underlying23 (by kernel_rfl) rfl rfl (by kernel_rfl) (by kernel_rfl) rfl rfl hv h

set_option maxRecDepth 100000 in
theorem spts_of {H : Type} {enc : TypeId × Value → H} {W : World} {base : Nat} {v : Value} {d : DataW H} {p : List MemPlace} (hv : Value.okWide Tryz.prog W .any base 151 v) (h : DataW.Trod enc Tryz.prog W 0 (fun _ => true) true 151 v d p) :
    (v = .slice none 0 0) ∨ ∃ (b o cap : Nat) (l : List P3), v = .slice (some ⟨b, o, none⟩) l.length cap ∧ Spts W b o l ∧ l.length ≤ maxLen :=
  spts_any Tryz.underlying3 Tryz.underlying151 Tryz.underlying33 (by kernel_rfl) rfl rfl rfl (by kernel_rfl) (by kernel_rfl) (by kernel_rfl) rfl rfl rfl hv h

end Go.Proofs.YtgdlfjofefhdoaaGreatDoor
