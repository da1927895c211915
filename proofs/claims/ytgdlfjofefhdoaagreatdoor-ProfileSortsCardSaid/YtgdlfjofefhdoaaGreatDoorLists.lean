/- Arguments that are lists of points, nil or not, as the walks take them. -/
import Derived.Test.YtgdlfjofefhdoaaGreatDoorOpt
namespace Go.Proofs.YtgdlfjofefhdoaaGreatDoor
open Go.ChangeShapes Go.WideShapes Go.ChangeAt Go.RowKit Go.WideElems Mb

set_option maxRecDepth 100000 in
theorem list2_of {H : Type} {enc : TypeId × Value → H} {W : World} {base : Nat} {v : Value} {d : DataW H} {p : List MemPlace} (hv : Value.okWide Tryz.prog W .any base 54 v) (h : DataW.Trod enc Tryz.prog W 0 (fun _ => true) true 54 v d p) :
    ∃ (a : Option Addr) (l : List P2) (cap : Nat), v = .slice a l.length cap ∧ Sl2 W a l ∧ l.length ≤ maxLen := by
  rcases pts_of hv h with e | ⟨b, o, cap, l, e, hp, hl⟩
  · exact ⟨none, [], 0, e, Sl2.nil W, Nat.zero_le _⟩
  · exact ⟨_, l, cap, e, Sl2.of hp, hl⟩

set_option maxRecDepth 100000 in
theorem list3_of {H : Type} {enc : TypeId × Value → H} {W : World} {base : Nat} {v : Value} {d : DataW H} {p : List MemPlace} (hv : Value.okWide Tryz.prog W .any base 151 v) (h : DataW.Trod enc Tryz.prog W 0 (fun _ => true) true 151 v d p) :
    ∃ (a : Option Addr) (l : List P3) (cap : Nat), v = .slice a l.length cap ∧ Sl3 W a l ∧ l.length ≤ maxLen := by
  rcases spts_of hv h with e | ⟨b, o, cap, l, e, hp, hl⟩
  · exact ⟨none, [], 0, e, Sl3.nil W, Nat.zero_le _⟩
  · exact ⟨_, l, cap, e, Sl3.of hp, hl⟩

end Go.Proofs.YtgdlfjofefhdoaaGreatDoor
