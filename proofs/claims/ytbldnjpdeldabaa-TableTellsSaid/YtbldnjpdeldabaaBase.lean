/- Small plain laws that all later texts use: texts as lists of bytes, their order, whole numbers within 64 bits; worlds kept below a block. -/
import Derived.Test.YtbldnjpdeldabaaProg
import Derived.WalkKit
import Derived.WalkSpells
import Derived.WalkLawsBesides
import Derived.Lib.Hide
import Derived.Deep.QuietTactic
import Derived.BigQuiet
namespace Go.Proofs.Ytbldnjpdeldabaa.Base
open Go.RowKit

theorem toList_len (a : ByteArray) : a.toList.length = a.size := by rw [ByteArray.toList_eq]; simp
theorem toList_inj {a b : ByteArray} (h : a.toList = b.toList) : a = b := by
  rw [ByteArray.toList_eq, ByteArray.toList_eq] at h
  cases a; cases b
  simpa using h
theorem toList_iff {a b : ByteArray} : a.toList = b.toList ↔ a = b := ⟨toList_inj, fun h => by rw [h]⟩
theorem beq_toList (a b : ByteArray) : (a.toList == b.toList) = decide (a = b) := by
  rw [Bool.eq_iff_iff]
  simp [toList_iff]
theorem toList_mk (l : List UInt8) : (⟨l.toArray⟩ : ByteArray).toList = l := by rw [ByteArray.toList_eq]

theorem bl_lt : ∀ x y : List UInt8, Op.bytesLess x y = decide (x < y)
  | [], [] => by simp [Op.bytesLess]
  | [], _ :: _ => by simp [Op.bytesLess]
  | _ :: _, [] => by simp [Op.bytesLess]
  | a :: x, b :: y => by
    have ih := bl_lt x y
    simp only [Op.bytesLess, ih, List.cons_lt_cons_iff]
    by_cases h1 : a < b
    · simp [h1]
    · by_cases h2 : a = b
      · simp [h2]
      · simp [h1, h2]
theorem bl_irrefl (a : List UInt8) : Op.bytesLess a a = false := by
  rw [bl_lt]
  simp [List.lt_irrefl]
theorem bl_total (a b : List UInt8) : Op.bytesLess a b = !(Op.bytesLess b a || b == a) := by
  rw [bl_lt, bl_lt]
  by_cases h1 : a < b
  · have h2 : ¬ b < a := List.lt_asymm h1
    have h3 : b ≠ a := fun e => by subst e; exact List.lt_irrefl _ h1
    simp [h1, h2, h3]
  · by_cases h2 : b < a
    · simp [h1, h2]
    · have h3 : b = a := List.le_antisymm (List.not_lt.1 h1) (List.not_lt.1 h2)
      subst h3
      simp [List.lt_irrefl]

theorem less_no {a b : List UInt8} (h : Op.bytesLess a b = false) : (Op.bytesLess b a || b == a) = true := by
  have := bl_total a b
  cases hx : (Op.bytesLess b a || b == a)
  · rw [hx, h] at this; cases this
  · rfl
theorem less_yes {a b : List UInt8} (h : Op.bytesLess a b = true) : (Op.bytesLess b a || b == a) = false := by
  have := bl_total a b
  cases hx : (Op.bytesLess b a || b == a)
  · rfl
  · rw [hx, h] at this; cases this

def In64 (a : Int) : Prop := -9223372036854775808 ≤ a ∧ a ≤ 9223372036854775807
theorem wrap_id {a : Int} (h : In64 a) : wrap64 a = a := by obtain ⟨h1, h2⟩ := h; unfold wrap64; omega
theorem step64 {i n : Nat} (h : i < n) (hn : n ≤ 1000000000000) : wrap64 ((i : Int) + 1) = ((i + 1 : Nat) : Int) := by unfold wrap64; omega

theorem bcell {W w1 : World} (hb : Below W.heap.size W w1) : (∀ b o, b < W.heap.size → w1.cell? ⟨b, o, none⟩ = W.cell? ⟨b, o, none⟩) ∧ (∀ b o, b < W.heap.size → w1.frozen? ⟨b, o, none⟩ = W.frozen? ⟨b, o, none⟩) :=
  ⟨fun b o h => hb.cell (p := ⟨b, o, none⟩) h, fun b o h => hb.frozen (p := ⟨b, o, none⟩) h⟩

theorem bdrew (B : Nat) (w : World) (n : Nat) : Below B w (w.drewN n) := ⟨rfl, rfl, rfl, Nat.le_refl _, fun _ _ => rfl⟩
theorem bdrew2 (B : Nat) (w : World) (n m : Nat) : Below B w ((w.drewN n).drewN m) := ⟨rfl, rfl, rfl, Nat.le_refl _, fun _ _ => rfl⟩
theorem hid_mk {p : Prop} (h : p) : Hid p := h

end Go.Proofs.Ytbldnjpdeldabaa.Base
