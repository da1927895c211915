/- The world's standing facts (the listed table; the library's one variable), and the library's contracts as our texts use them. -/
import Derived.Test.YtgdlfjofefhdoaaGreatDoorShelf
import Derived.Test.YtgdlfjofefhdoaaGreatDoorDecA
import Derived.WalkKit
import Derived.WalkSmall
import Derived.Lib.Hide
import Derived.Lib.AppendIntMem
import Derived.Lib.QuietBelow
import Derived.Deep.QuietTactic
import Derived.BigQuiet
import Derived.Outline
import Derived.Deep.DeepFit
import Derived.Laws.NewBlocks
namespace Go.Proofs.YtgdlfjofefhdoaaGreatDoor
open Go.RowKit Go.Sort Go.Lib Mb

/-- what the contracts ask of the world -/
structure Good (w : World) : Prop where
  tab : Lib.TabIs Tryz.prog w "internal/strconv.uint64pow10" .u64 Lib.pow10Tab
  mlen : ∃ m, w.cell? ⟨0, 0, none⟩ = some (.int .i64 m)
  size : 8 ≤ w.heap.size

theorem gPow : Tryz.prog.globalNamed "internal/strconv.uint64pow10" = some 1 := by kernel_rfl

theorem Good.below {w w' : World} {B : Nat} (h : Good w) (hb : Below B w w') (hB : 8 ≤ B) : Good w' := by
  refine ⟨var?_below hb gPow (by omega) h.tab, ?_, by have := hb.size; have := h.size; omega⟩
  obtain ⟨m, hm⟩ := h.mlen
  exact ⟨m, (hb.cell (p := ⟨0, 0, none⟩) (Nat.lt_of_lt_of_le (show 0 < 8 by decide) hB)).trans hm⟩

theorem Good.to {w w' : World} (h : Good w) (hb : Below w.heap.size w w') : Good w' := h.below hb h.size

theorem Good.alloc {w : World} (h : Good w) (o : Obj) : Good (w.alloc o) := h.to ((Below.refl _ _).alloc (Nat.le_refl _) _)
theorem Good.drew {w : World} (h : Good w) : Good w.drew := h.to ((Below.refl _ _).drew)

/-- steps one behind the other -/
theorem below_trans {a b c : World} (h : Below a.heap.size a b) (k : Below b.heap.size b c) : Below a.heap.size a c := h.trans (k.mono h.size)

theorem bel_dn (w : World) (n : Nat) : Below w.heap.size w (w.drewN n) := below_drewN (Below.refl _ _) n

/-- a number as a text -/
abbrev S (n : Int) : Value := .string ⟨(itoa n).toArray⟩

theorem itoa_calls (n : Int) (w : World) (hg : Good w) (h0 : -9223372036854775808 ≤ n) (h1 : n ≤ 9223372036854775807) :
    Calls Tryz.prog 109 #[.int .i64 n] w fun e w' => e = .returned (S n) ∧ Below w.heap.size w w' :=
  (Tryz.strconv_Itoa n h0 h1 w hg.tab).mono fun e w' h => ⟨h.1, by obtain ⟨k, os, h2⟩ := h.2; rw [h2]; exact below_grow _ _ (Nat.le_refl _) k os⟩

theorem atoi_calls (s : ByteArray) (n : Int) (w : World) (hl : s.size ≤ 18) (h : Lib.atoi s.data.toList = some n) :
    Calls Tryz.prog 151 #[.string s] w fun e w' => e = .returned (.tuple #[.int .i64 n, .nilIface]) ∧ Below w.heap.size w w' := by
  refine (Tryz.strconv_Atoi s n hl h w).mono fun e w' h => ⟨h.1, ?_⟩
  obtain ⟨t, h2⟩ := h.2
  rw [h2]
  exact ⟨rfl, rfl, rfl, by rw [Lib.bytesWorld_size]; omega, fun j hj => Lib.bytesWorld_at_old _ _ _ j hj⟩

theorem mem_digits {b : UInt8} (h : 48 ≤ b.toNat ∧ b.toNat ≤ 57) : ([48, 49, 50, 51, 52, 53, 54, 55, 56, 57] : List UInt8).contains b = true := by
  have h2 : b = UInt8.ofNat b.toNat := UInt8.toNat_inj.1 (by rw [UInt8.toNat_ofNat']; have := UInt8.toNat_lt b; omega)
  have : b.toNat = 48 ∨ b.toNat = 49 ∨ b.toNat = 50 ∨ b.toNat = 51 ∨ b.toNat = 52 ∨ b.toNat = 53 ∨ b.toNat = 54 ∨ b.toNat = 55 ∨ b.toNat = 56 ∨ b.toNat = 57 := by omega
  rcases this with e | e | e | e | e | e | e | e | e | e <;> (rw [e] at h2; rw [h2]; decide)

theorem dropWhile_all {p : UInt8 → Bool} : ∀ {l : List UInt8}, (∀ b ∈ l, p b = true) → l.dropWhile p = []
  | [], _ => rfl
  | a :: l, h => by rw [List.dropWhile_cons, h a (by simp), if_pos rfl]; exact dropWhile_all (fun b hb => h b (by simp [hb]))

theorem trim_dig {l : List UInt8} (h : Dig l) : Lib.trimS l [48, 49, 50, 51, 52, 53, 54, 55, 56, 57] = [] := by
  have e : Lib.trimRightS l [48, 49, 50, 51, 52, 53, 54, 55, 56, 57] = [] := by
    unfold Lib.trimRightS
    rw [dropWhile_all (fun b hb => mem_digits (h b (by simpa using hb)))]; rfl
  unfold Lib.trimS; rw [e]; rfl

/-- strings.Trim of digits -/
theorem trim_calls (l : List UInt8) (h : Dig l) (hl : l.length ≤ 9223372036854775807) (w : World) :
    Calls Tryz.prog 170 #[.string ⟨l.toArray⟩, .string ⟨#[48, 49, 50, 51, 52, 53, 54, 55, 56, 57]⟩] w fun e w' => e = .returned (.string ⟨#[]⟩) ∧ Below w.heap.size w w' := by
  refine (Any.strings_Trim_laid Tryz.lays160 (by kernel_rfl) ⟨l.toArray⟩ ⟨#[48, 49, 50, 51, 52, 53, 54, 55, 56, 57]⟩ w (by simpa [ByteArray.size] using hl) (by decide) (ascii_of_all (by decide))).mono ?_
  rintro e w' ⟨rfl, hb⟩
  refine ⟨?_, hb⟩
  rw [show Lib.trimS (⟨l.toArray⟩ : ByteArray).data.toList (⟨#[48, 49, 50, 51, 52, 53, 54, 55, 56, 57]⟩ : ByteArray).data.toList = [] from trim_dig h]

/-- the digits of a number's text -/
def dg (n : Int) : List UInt8 := decDigits n.natAbs
theorem dg_dig (n : Int) : Dig (dg n) := dig_decDigits _
theorem dg_ne (n : Int) : dg n ≠ [] := decDigits_ne _

theorem trimPrefix_itoa (n : Int) : Lib.trimPrefix (itoa n) [45] = dg n := by
  by_cases h : n < 0
  · rw [itoa_neg h]; rfl
  · rw [Mb.itoa_nonneg (by omega)]
    unfold Lib.trimPrefix
    have : Lib.hasPrefix (decDigits n.natAbs) [45] = false := by
      cases hd : decDigits n.natAbs with
      | nil => exact absurd hd (decDigits_ne _)
      | cons b r =>
        have hb := dig_decDigits n.natAbs b (by rw [hd]; simp)
        have : (45 == b) = false := by
          rw [beq_eq_false_iff_ne]; intro e; subst e; simp at hb
        simp [Lib.hasPrefix, List.isPrefixOf, this]
    rw [this]; rfl

theorem trimPrefix_calls (n : Int) (w : World) :
    Calls Tryz.prog 136 #[S n, .string ⟨#[45]⟩] w fun e w' => e = .returned (.string ⟨(dg n).toArray⟩) ∧ w = w' := by
  refine (Tryz.strings_TrimPrefix ⟨(itoa n).toArray⟩ ⟨#[45]⟩ w).mono ?_
  rintro e w' ⟨rfl, rfl⟩
  refine ⟨?_, rfl⟩
  rw [show Lib.trimPrefix (⟨(itoa n).toArray⟩ : ByteArray).data.toList (⟨#[45]⟩ : ByteArray).data.toList = dg n from trimPrefix_itoa n]

end Go.Proofs.YtgdlfjofefhdoaaGreatDoor
