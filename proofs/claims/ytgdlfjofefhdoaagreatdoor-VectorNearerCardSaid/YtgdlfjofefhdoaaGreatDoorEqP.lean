/- Two points are compared in one step. -/
import Derived.Test.YtgdlfjofefhdoaaGreatDoorVecC
import Derived.Laws.StructEq
namespace Go.Proofs.YtgdlfjofefhdoaaGreatDoor
open Go.RowKit

theorem eqFields_one {P : Program} {d : Nat} {xs ys : Array Value} {f : Field} {fs : List Field} {a b : Value} {r s : Bool} {w : World} (hn : f.name ≠ "_")
    (ha : (part f.type xs f.offset).run P w = .ok a w) (hb : (part f.type ys f.offset).run P w = .ok b w) (he : (Op.equalIn d f.type a b).run P w = .ok r w) (hr : (Op.eqFields d xs ys fs).run P w = .ok s w) :
    (Op.eqFields d xs ys (f :: fs)).run P w = .ok (r && s) w := by
  rw [Op.eqFields]
  simp only [if_pos hn, Sem.run_bind, ha, hb, he, Result.andThen_ok]
  cases r
  · simp
  · simpa using hr

theorem eqStruct {P : Program} {d : Nat} {t : TypeId} {fs : Array Field} {xs ys : Array Value} {r : Bool} {w : World} (hu : P.underlying t = some (.struct fs)) (hp : P.stoodInHeld t = false)
    (h : (Op.eqFields d xs ys fs.toList).run P w = .ok r w) : (Op.equalIn (d + 1) t (.agg xs) (.agg ys)).run P w = .ok r w := by
  have hf : P.fieldsOf t = fs := by simp [Program.fieldsOf, hu]
  rw [run_equalIn_struct (P := P) w d t xs ys (by rw [hf]; exact hu) hp, hf]
  exact h

theorem eqFields_none {P : Program} {d : Nat} {xs ys : Array Value} {w : World} : (Op.eqFields d xs ys []).run P w = .ok true w := by simp [Op.eqFields]

theorem eqPoint (d : Nat) (w : World) (a b x y : Int) : (Op.equalIn (d + 2) 23 (.agg #[.int .i64 a, .int .i64 b]) (.agg #[.int .i64 x, .int .i64 y])).run Tryz.prog w = .ok (a == x && b == y) w := by
  refine eqStruct Tryz.underlying23 (by kernel_rfl) ?_
  rw [← Bool.and_true (b == y)]
  refine eqFields_one (by decide) (by go_simp; rfl) (by go_simp; rfl) (by go_simp) ?_
  exact eqFields_one (by decide) (by go_simp; rfl) (by go_simp; rfl) (by go_simp) eqFields_none

end Go.Proofs.YtgdlfjofefhdoaaGreatDoor
