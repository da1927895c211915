/- The reference of layer 7: Dot, Cross, Side, Square. -/
import Derived.Test.YtbemnlmgemafkaaGreatDoorRefA
namespace Go.Proofs.YtbemnlmgemafkaaGreatDoor
open Go.RowKit Go.Sort Go.Lib Mb

theorem errOf_two {l : List P2} (h : errOf l ≠ 0) : errOf l = 2 := by
  unfold errOf at *
  split at h
  · exact absurd rfl h
  · rename_i e; rw [if_neg e]

theorem errOf_ok {l : List P2} (h : errOf l = 0) : ∀ p ∈ l, flatB p = true := by
  unfold errOf at h
  split at h
  · rename_i e; exact List.all_eq_true.1 e
  · cases h

end Go.Proofs.YtbemnlmgemafkaaGreatDoor
