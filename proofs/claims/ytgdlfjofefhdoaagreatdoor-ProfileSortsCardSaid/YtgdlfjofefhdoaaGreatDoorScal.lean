/- Arguments that are one number. -/
import Derived.Test.YtgdlfjofefhdoaaGreatDoorStart
namespace Go.Proofs.YtgdlfjofefhdoaaGreatDoor
open Go.ChangeShapes Go.WideShapes Go.ChangeAt Go.RowKit Go.WideElems

set_option maxRecDepth 100000 in
theorem u8_of {W : World} {base : Nat} {v : Value} (h : Value.okWide Tryz.prog W .any base 5 v) : ∃ z : Int, v = .int .u8 z ∧ 0 ≤ z ∧ z ≤ 255 := by
  have hu : Tryz.prog.underlying 5 = some (.int .u8) := Tryz.underlying5
  unfold Value.okWide at h
  rw [hu] at h
  simp only at h
  unfold Cell.okWide at h
  rw [hu] at h
  cases v <;> simp [Cell.ok, hu] at h
  rename_i k z
  obtain ⟨rfl, hz⟩ := h
  refine ⟨z, rfl, ?_⟩
  simpa [IntKind.has, IntKind.min, IntKind.max, IntKind.signed, IntKind.bits] using hz

set_option maxRecDepth 100000 in
theorem i64_of {W : World} {base : Nat} {v : Value} (h : Value.okWide Tryz.prog W .any base 3 v) : ∃ z : Int, v = .int .i64 z ∧ -9223372036854775808 ≤ z ∧ z ≤ 9223372036854775807 := by
  have hu : Tryz.prog.underlying 3 = some (.int .i64) := Tryz.underlying3
  unfold Value.okWide at h
  rw [hu] at h
  simp only at h
  unfold Cell.okWide at h
  rw [hu] at h
  cases v <;> simp [Cell.ok, hu] at h
  rename_i k z
  obtain ⟨rfl, hz⟩ := h
  refine ⟨z, rfl, ?_⟩
  simpa [IntKind.has, IntKind.min, IntKind.max, IntKind.signed, IntKind.bits] using hz

end Go.Proofs.YtgdlfjofefhdoaaGreatDoor
