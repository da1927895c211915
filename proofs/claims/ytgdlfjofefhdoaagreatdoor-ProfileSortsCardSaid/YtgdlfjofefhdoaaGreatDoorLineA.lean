/- An argument that is a polyline: a list of points and whether it is closed. -/
import Derived.Test.YtgdlfjofefhdoaaGreatDoorLists
namespace Go.Proofs.YtgdlfjofefhdoaaGreatDoor
open Go.ChangeShapes Go.WideShapes Go.ChangeAt Go.RowKit Go.WideElems Mb

section
variable {P : Program}
theorem line_ok {W : World} {base : Nat} {t t0 t1 : TypeId} {fs : Array Field} {v : Value} (hu : P.underlying t = some (.struct fs)) (hc : P.cellsOf t = 2) (ht : P.cellTypes P.depth t = some [t0, t1])
    (hb : P.underlying t1 = some .bool) (h : Value.okWide P W .any base t v) : ∃ v0 c, v = .agg #[v0, .bool c] ∧ Cell.okWide P W .any base t0 v0 := by
  unfold Value.okWide at h
  rw [hu] at h
  obtain ⟨cs, rfl, hsz, ts, hts, _, hall⟩ := h
  rw [ht] at hts
  cases hts
  rw [hc] at hsz
  obtain ⟨l⟩ := cs
  match l, hsz with
  | [v0, v1], _ =>
    obtain ⟨u, hu1, hu2⟩ := hall 0 v0 rfl
    obtain ⟨u', hu1', hu2'⟩ := hall 1 v1 rfl
    cases hu1
    cases hu1'
    unfold Cell.okWide at hu2'
    rw [hb] at hu2'
    cases v1 <;> simp [Cell.ok, hb] at hu2'
    exact ⟨v0, _, rfl, hu2⟩
end

set_option maxRecDepth 100000 in
theorem line_of {H : Type} {enc : TypeId × Value → H} {W : World} {base : Nat} {v : Value} {d : DataW H} {p : List MemPlace} (hv : Value.okWide Tryz.prog W .any base 60 v) (h : DataW.Trod enc Tryz.prog W 0 (fun _ => true) true 60 v d p) :
    ∃ (a : Option Addr) (l : List P2) (cap : Nat) (c : Bool), v = .agg #[.slice a l.length cap, .bool c] ∧ Sl2 W a l ∧ l.length ≤ maxLen := by
  obtain ⟨v0, c, rfl, h0⟩ := line_ok Tryz.underlying60 (by kernel_rfl) (t0 := 54) (t1 := 4) (by kernel_rfl) Tryz.underlying4 hv
  have hv0 : Value.okWide Tryz.prog W .any base 54 v0 := by
    unfold Value.okWide
    rw [Tryz.underlying54]
    exact h0
  obtain ⟨fuel, hf⟩ := h
  obtain ⟨y0, y1, n, -, -, g0, -⟩ := trod_struct2 Tryz.underlying60 hf
  have hc : Tryz.prog.cellsOf 54 = 1 := by kernel_rfl
  have g1 : DataW.trod enc Tryz.prog W 0 (fun _ => true) true n 54 [v0] = some y0 := by
    have h := g0
    simp only [Value.cells, List.drop_zero, hc] at h
    exact h
  have hT : DataW.Trod enc Tryz.prog W 0 (fun _ => true) true 54 v0 y0.1 y0.2 := by
    rcases slice_ok Tryz.underlying54 hv0 with rfl | ⟨b, o, len, cap, rfl, -⟩
    · exact ⟨n, g1⟩
    · exact ⟨n, g1⟩
  obtain ⟨a, l, cap, rfl, hs, hl⟩ := list2_of hv0 hT
  exact ⟨a, l, cap, c, rfl, hs, hl⟩

end Go.Proofs.YtgdlfjofefhdoaaGreatDoor
