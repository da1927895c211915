/- Integers of many words in memory: a block of 234 cells. -/
import Derived.Test.YtgdlfjofefhdoaaGreatDoorWholeB
import Derived.Deep.LoopGhost
import Derived.IntWalk
namespace Go.Proofs.YtgdlfjofefhdoaaGreatDoor
open Go.RowKit Go.Sort Go.Lib Mb

/-- the cells of an integer: its sign, the number of its words, the words -/
def wc (less : Bool) (n : Nat) (f : Nat → Int) : Array Value := #[.bool less, .int .i64 n] ++ (Array.ofFn (n := 232) fun i => .int .i64 (f i.val))

theorem wc_size (less : Bool) (n : Nat) (f : Nat → Int) : (wc less n f).size = 234 := by simp [wc]
theorem wc_0 (less : Bool) (n : Nat) (f : Nat → Int) : (wc less n f)[0]? = some (.bool less) := by
  unfold wc; rw [Array.getElem?_append_left (by simp)]; rfl
theorem wc_1 (less : Bool) (n : Nat) (f : Nat → Int) : (wc less n f)[1]? = some (.int .i64 n) := by
  unfold wc; rw [Array.getElem?_append_left (by simp)]; rfl
theorem wc_w (less : Bool) (n : Nat) (f : Nat → Int) (k : Nat) (h : k < 232) : (wc less n f)[2 + k]? = some (.int .i64 (f k)) := by
  unfold wc; rw [Array.getElem?_append_right (by simp)]
  simp [h]

/-- the block b is this integer -/
def Wide (w : World) (b : Nat) (less : Bool) (n : Nat) (f : Nat → Int) : Prop := w.heap[b]? = some (.cells (wc less n f) 193 (0, 0))

section
variable {w : World} {b : Nat} {less : Bool} {n : Nat} {f : Nat → Int}
theorem Wide.lt (h : Wide w b less n f) : b < w.heap.size := (Array.getElem?_eq_some_iff.1 h).1
theorem Wide.c0 (h : Wide w b less n f) : w.cell? ⟨b, 0, none⟩ = some (.bool less) := by
  unfold Wide at h; simp [World.cell?, h, wc_0]
theorem Wide.c1 (h : Wide w b less n f) : w.cell? ⟨b, 1, none⟩ = some (.int .i64 n) := by
  unfold Wide at h; simp [World.cell?, h, wc_1]
theorem Wide.cw (h : Wide w b less n f) (k : Nat) (hk : k < 232) : w.cell? ⟨b, 2 + k, none⟩ = some (.int .i64 (f k)) := by
  unfold Wide at h; simp [World.cell?, h, wc_w _ _ _ k hk]
theorem Wide.free (h : Wide w b less n f) (o : Nat) : w.frozen? ⟨b, o, none⟩ = false := by
  unfold Wide at h; simp [World.frozen?, h]

theorem wide_set (h : Wide w b less n f) (o : Nat) (v : Value) : (w.setCell ⟨b, o, none⟩ v).heap[b]? = some (.cells ((wc less n f).setIfInBounds o v) 193 (0, 0)) := by
  unfold Wide at h
  simp [World.setCell, Array.getElem?_modify, h]

theorem ext_wc {a : Array Value} {less : Bool} {n : Nat} {f : Nat → Int} (hs : a.size = 234) (h0 : a[0]? = some (.bool less)) (h1 : a[1]? = some (.int .i64 n)) (hw : ∀ k, k < 232 → a[2 + k]? = some (.int .i64 (f k))) : a = wc less n f := by
  apply Array.ext_getElem?
  intro i
  by_cases hi : i < 234
  · match i, hi with
    | 0, _ => rw [h0, wc_0]
    | 1, _ => rw [h1, wc_1]
    | k + 2, hk => rw [show k + 2 = 2 + k by omega, hw k (by omega), wc_w _ _ _ k (by omega)]
  · rw [Array.getElem?_eq_none (by omega), Array.getElem?_eq_none (by rw [wc_size]; omega)]

theorem Wide.setW (h : Wide w b less n f) (k : Nat) (hk : k < 232) (v : Int) : Wide (w.setCell ⟨b, 2 + k, none⟩ (.int .i64 v)) b less n (upd f k v) := by
  unfold Wide; rw [wide_set h]
  refine congrArg (fun c => some (Obj.cells c 193 (0, 0))) (ext_wc (by rw [Array.size_setIfInBounds, wc_size]) ?_ ?_ ?_)
  · rw [Array.getElem?_setIfInBounds_ne (by omega), wc_0]
  · rw [Array.getElem?_setIfInBounds_ne (by omega), wc_1]
  · intro j hj
    by_cases e : j = k
    · subst e
      rw [Array.getElem?_setIfInBounds_self_of_lt (by rw [wc_size]; omega), upd_same]
    · rw [Array.getElem?_setIfInBounds_ne (by omega), wc_w _ _ _ j hj, upd_other e]

theorem Wide.setN (h : Wide w b less n f) (m : Nat) : Wide (w.setCell ⟨b, 1, none⟩ (.int .i64 m)) b less m f := by
  unfold Wide; rw [wide_set h]
  refine congrArg (fun c => some (Obj.cells c 193 (0, 0))) (ext_wc (by rw [Array.size_setIfInBounds, wc_size]) ?_ ?_ ?_)
  · rw [Array.getElem?_setIfInBounds_ne (by omega), wc_0]
  · rw [Array.getElem?_setIfInBounds_self_of_lt (by rw [wc_size]; omega)]
  · intro j hj
    rw [Array.getElem?_setIfInBounds_ne (by omega), wc_w _ _ _ j hj]

theorem Wide.setL (h : Wide w b less n f) (l : Bool) : Wide (w.setCell ⟨b, 0, none⟩ (.bool l)) b l n f := by
  unfold Wide; rw [wide_set h]
  refine congrArg (fun c => some (Obj.cells c 193 (0, 0))) (ext_wc (by rw [Array.size_setIfInBounds, wc_size]) ?_ ?_ ?_)
  · rw [Array.getElem?_setIfInBounds_self_of_lt (by rw [wc_size]; omega)]
  · rw [Array.getElem?_setIfInBounds_ne (by omega), wc_1]
  · intro j hj
    rw [Array.getElem?_setIfInBounds_ne (by omega), wc_w _ _ _ j hj]

theorem Wide.kept {w' : World} (h : Wide w b less n f) (hk : w'.heap[b]? = w.heap[b]?) : Wide w' b less n f := by unfold Wide at *; rw [hk, h]
theorem Wide.below {w' : World} {B : Nat} (h : Wide w b less n f) (hb : Below B w w') (hB : b < B) : Wide w' b less n f := h.kept (hb.block b hB)
theorem Wide.to {w' : World} (h : Wide w b less n f) (hb : Below w.heap.size w w') : Wide w' b less n f := h.below hb h.lt
theorem Wide.grown {w' : World} {r : Option Nat} (h : Wide w b less n f) (hg : w.grownBy w' r) (hr : some b ≠ r) : Wide w' b less n f := h.kept (hg.block b h.lt hr)
theorem Wide.drew (h : Wide w b less n f) : Wide w.drew b less n f := h.to ((Below.refl _ _).drew)
theorem Wide.drewN (h : Wide w b less n f) (q : Nat) : Wide (w.drewN q) b less n f := h.to (bel_dn w q)
end

/-- worlds that part at one block, and in new ones -/
theorem gb_refl (w : World) (r : Option Nat) : w.grownBy w r := ⟨rfl, rfl, rfl, Nat.le_refl _, fun _ _ _ => rfl⟩
theorem gb_trans {a b c : World} {r : Option Nat} (h : a.grownBy b r) (k : b.grownBy c r) : a.grownBy c r :=
  ⟨k.os.trans h.os, k.tape.trans h.tape, k.output.trans h.output, Nat.le_trans h.size k.size, fun i hi hr => (k.block i (Nat.lt_of_lt_of_le hi h.size) hr).trans (h.block i hi hr)⟩
theorem gb_below {a b : World} {r : Option Nat} (h : Below a.heap.size a b) : a.grownBy b r := ⟨h.os, h.tape, h.output, h.size, fun i hi _ => h.block i hi⟩
theorem gb_set (w : World) (b o : Nat) (v : Value) : w.grownBy (w.setCell ⟨b, o, none⟩ v) (some b) :=
  ⟨rfl, rfl, rfl, by simp [World.setCell], fun i _ hr => Below.heap_setCell _ _ _ _ (fun e => hr (by rw [e]))⟩
theorem gb_dn (w : World) (q : Nat) (r : Option Nat) : w.grownBy (w.drewN q) r := gb_below (bel_dn w q)
/-- a block laid since the beginning may be written -/
theorem below_gb {B r : Nat} {a b c : World} (h : Below B a b) (k : b.grownBy c (some r)) (hB : B ≤ b.heap.size) (hr : B ≤ r) : Below B a c :=
  h.grown k hB (fun j e => by cases e; exact hr)

set_option maxHeartbeats 400000 in
theorem trimmed_calls (b : Nat) (less : Bool) (n : Nat) (f : Nat → Int) (w : World) (hW : Wide w b less n f) (hp : Pre f n) :
    Calls Tryz.prog 152 #[.pointer (some ⟨b, 0, none⟩)] w fun e w' => e = .returned (.pointer (some ⟨b, 0, none⟩)) ∧
      (∃ m, Mag f m ∧ val f m = val f n ∧ Wide w' b less m f) ∧ w.grownBy w' (some b) := by
  go_enter Tryz.func152, Tryz.ntmps152
  go_wp2
  go_loopg [] n (fun k wr => Pre f k ∧ val f k = val f n ∧ Wide wr b less k f ∧ w.grownBy wr (some b))
  case atStart => exact ⟨hp, rfl, hW, gb_refl _ _⟩
  case round =>
    obtain ⟨hp', hv, hW', hg⟩ := hrel
    have c1 := hW'.c1
    have fr := hW'.free 1
    by_cases hk : gk = 0
    · subst hk
      have HV := Lib.hid hv; clear hv
      go_wp2_with fail
      go_quiet (fail)
      go_wp2_with fail
      go_ret
      exact ⟨rfl, ⟨0, hp'.mag (.inl rfl), HV.out, hW'.drewN _⟩, gb_trans hg (gb_dn _ _ _)⟩
    · obtain ⟨k, rfl⟩ : ∃ k, gk = k + 1 := ⟨gk - 1, by omega⟩
      have cw := hW'.cw k (by have := hp'.le; omega)
      have HV := Lib.hid hv; clear hv
      have hk2 : (k : Int) < 232 := by have := hp'.le; omega
      have e1 : IntKind.i64.wrap (k : Int) = k := IntWalk.i64_in _ (by omega)
      have e2 : (0 : Int) ≤ k := by omega
      by_cases hz : f k = 0
      · rw [hz] at cw
        have HZ := Lib.hid hz; clear hz hk
        go_wp2_with fail
        go_quiet (fail)
        go_wp2_with fail
        go_roundg k
        case measure => omega
        case rel => exact ⟨(hp'.down HZ.out).1, (hp'.down HZ.out).2.trans HV.out, (hW'.setN k).drewN _, gb_trans hg (gb_trans (gb_set _ _ _ _) (gb_dn _ _ _))⟩
      · have hz' : (f k == 0) = false := by simpa using hz
        clear hk
        go_wp2_with fail
        go_quiet (fail)
        go_wp2_with fail
        go_ret
        exact ⟨rfl, ⟨k + 1, hp'.mag (.inr (by simpa using hz)), HV.out, hW'.drewN _⟩, gb_trans hg (gb_dn _ _ _)⟩

end Go.Proofs.YtgdlfjofefhdoaaGreatDoor
