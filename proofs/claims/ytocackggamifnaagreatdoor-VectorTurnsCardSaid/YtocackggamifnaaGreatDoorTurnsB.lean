/- The walk of VectorTurns, near or far. -/
import Derived.Test.YtocackggamifnaaGreatDoorTurns
namespace Go.Proofs.YtocackggamifnaaGreatDoor
open Go.RowKit Go.Sort Go.Lib Mb

theorem turns_calls (a b c m : P2) (w : World) (hg : Good w) :
    Calls Tryz.prog 11 #[.agg #[.int .i64 a.x, .int .i64 a.y, .int .i64 b.x, .int .i64 b.y, .int .i64 c.x, .int .i64 c.y], V m] w fun e w' => e = .returned (.bool true) ∧ Below w.heap.size w w' := by
  cases h : [a, b, c, m].all nearB with
  | false => exact turns_far a b c m w hg h
  | true => exact turns_near a b c m w hg h

end Go.Proofs.YtocackggamifnaaGreatDoor
