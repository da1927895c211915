/- Package vector: Order: the list of indices and the library's stable sort. -/
import Derived.Test.YtbemnlmgemafkaaGreatDoorOrdA
import Derived.OwnWalk
import Derived.Laws.OwnMore
namespace Go.Proofs.YtbemnlmgemafkaaGreatDoor
open Go.RowKit Go.Sort Go.Lib Mb

def sortRen : Go.Shelf.Ren := ⟨fun | 20 => 146 | n => n, fun | 24 => 3 | 22 => 70 | 3 => 3 | 25 => 120 | 4 => 4 | 0 => 0 | n => n, fun n => n⟩

theorem sortLay : Go.Proofs.SlLaysF.n20 Tryz.prog sortRen where
  mixed := by kernel_rfl
  f20 := ⟨"slices.insertionSortCmpFunc[int]", by decide, Tryz.func146.trans (congrArg some (by kernel_rfl))⟩
  t0 := Tryz.underlying0
  a0 := Tryz.isAgg0
  z0 := Tryz.sizeOf0
  v0 := Tryz.zeroValue0
  t3 := Tryz.underlying3
  a3 := Tryz.isAgg3
  z3 := Tryz.sizeOf3
  v3 := Tryz.zeroValue3
  t4 := Tryz.underlying4
  a4 := Tryz.isAgg4
  z4 := Tryz.sizeOf4
  v4 := Tryz.zeroValue4
  t22 := Tryz.underlying70
  a22 := Tryz.isAgg70
  z22 := Tryz.sizeOf70
  v22 := Tryz.zeroValue70
  a24 := Tryz.isAgg3
  z24 := Tryz.sizeOf3
  t25 := Tryz.underlying120
  a25 := Tryz.isAgg120
  z25 := Tryz.sizeOf120
  v25 := Tryz.zeroValue120

set_option maxHeartbeats 800000 in
theorem stable_calls {α : Type} [Inhabited α] (enc : α → Value) (hO : Go.Proofs.OneCell enc) (n : Nat) (hm : n ≤ 8) (g : Nat) (cb : Array Value) (cf : α → α → Int) (blk cap : Nat) (d : Array α) (hd : d.size = n) (w : World) (eg : ∀ args w, (callFunc g args).run Tryz.prog w = .ok (.enter g args) w)
    (hcmp : CmpLays1 Tryz.prog g cb enc cf blk 0 n w) (hH : Holds enc w blk 0 d) (hblk : blk < w.heap.size) :
    Calls Tryz.prog 84 #[.slice (some ⟨blk, 0, none⟩) n cap, .func (.func g) #[] cb] w fun e w' => e = .returned (.tuple #[]) ∧ SW enc w blk 0 (Sort.insertionSort (ltOf cf) d 0 n) w' := by
  have h := Any.insertionSortCmpFunc_s sortLay enc cf g cb blk 0 cap 0 d.size d d w w eg (by rw [hd]; exact hcmp) ⟨hO, hH, hblk⟩ rfl (SW.start hH) (Nat.zero_le _) (Nat.le_refl _) (by omega)
  change Calls Tryz.prog 146 #[.slice (some ⟨blk, 0, none⟩) d.size cap, .int .i64 0, .int .i64 (d.size : Int), .func (.func g) #[] cb] w _ at h
  rw [hd] at h
  have h20 : ¬ (20 : Int) ≤ (n : Int) := by omega
  have h21 : ¬ (20 : Int) < (n : Int) := by omega
  have H : Calls Tryz.prog 123 #[.slice (some ⟨blk, 0, none⟩) n cap, .int .i64 (n : Int), .func (.func g) #[] cb] w fun e w' => e = .returned (.tuple #[]) ∧ SW enc w blk 0 (Sort.insertionSort (ltOf cf) d 0 n) w' := by
    go_enter Tryz.func123, Tryz.ntmps123
    go_wp2_with fail
    go_loopg [7, 8] 0 (fun g a b wr => a = .int .i64 0 ∧ b = .int .i64 20 ∧ wr = w)
    case atStart => exact ⟨rfl, rfl, rfl⟩
    case round =>
      obtain ⟨rfl, rfl, rfl⟩ := hrel
      go_wp2_with fail
      refine h.mono ?_
      rintro e w1 ⟨rfl, hs⟩
      have HS := Lib.hid hs; clear hs h
      go_wp2_with fail
      go_loopg [6] 0 (fun g b wr => b = .int .i64 20 ∧ wr = w1)
      case atStart => exact ⟨rfl, rfl⟩
      case round =>
        obtain ⟨rfl, rfl⟩ := hrel
        go_wp2_with fail
        go_end0
        exact ⟨rfl, HS.out⟩
  clear h
  go_enter Tryz.func84, Tryz.ntmps84
  go_wp2_with fail
  refine H.mono ?_
  rintro e w1 ⟨rfl, hs⟩
  have HS := Lib.hid hs; clear hs H
  go_wp2_with fail
  go_end0
  exact ⟨rfl, HS.out⟩

end Go.Proofs.YtbemnlmgemafkaaGreatDoor
