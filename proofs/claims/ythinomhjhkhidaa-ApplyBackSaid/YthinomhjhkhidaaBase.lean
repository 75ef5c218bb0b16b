/- Small plain laws that all later texts use: texts as lists of bytes, their order, whole numbers within 64 bits; worlds kept below a block. -/
import Derived.Test.YthinomhjhkhidaaProg
import Derived.WalkKit
import Derived.WalkSpells
import Derived.WalkLawsBesides
import Derived.Lib.Hide
import Derived.Deep.QuietTactic
import Derived.BigQuiet
namespace Go.Proofs.Ythinomhjhkhidaa.Base
open Go.RowKit

theorem toList_len (a : ByteArray) : a.toList.length = a.size := by rw [ByteArray.toList_eq]; simp
theorem toList_inj {a b : ByteArray} (h : a.toList = b.toList) : a = b := by
  rw [ByteArray.toList_eq, ByteArray.toList_eq] at h
  cases a; cases b
  simpa using h
theorem toList_iff {a b : ByteArray} : a.toList = b.toList ↔ a = b := ⟨toList_inj, fun h => by rw [h]⟩
theorem beq_toList (a b : ByteArray) : (a.toList == b.toList) = decide (a = b) := by
  rw [Bool.eq_iff_iff]
  simp [toList_iff]
theorem toList_mk (l : List UInt8) : (⟨l.toArray⟩ : ByteArray).toList = l := by rw [ByteArray.toList_eq]

theorem bl_lt : ∀ x y : List UInt8, Op.bytesLess x y = decide (x < y)
  | [], [] => by simp [Op.bytesLess]
  | [], _ :: _ => by simp [Op.bytesLess]
  | _ :: _, [] => by simp [Op.bytesLess]
  | a :: x, b :: y => by
    have ih := bl_lt x y
    simp only [Op.bytesLess, ih, List.cons_lt_cons_iff]
    by_cases h1 : a < b
    · simp [h1]
    · by_cases h2 : a = b
      · simp [h2]
      · simp [h1, h2]
theorem bl_irrefl (a : List UInt8) : Op.bytesLess a a = false := by
  rw [bl_lt]
  simp [List.lt_irrefl]
theorem bl_total (a b : List UInt8) : Op.bytesLess a b = !(Op.bytesLess b a || b == a) := by
  rw [bl_lt, bl_lt]
  by_cases h1 : a < b
  · have h2 : ¬ b < a := List.lt_asymm h1
    have h3 : b ≠ a := fun e => by subst e; exact List.lt_irrefl _ h1
    simp [h1, h2, h3]
  · by_cases h2 : b < a
    · simp [h1, h2]
    · have h3 : b = a := List.le_antisymm (List.not_lt.1 h1) (List.not_lt.1 h2)
      subst h3
      simp [List.lt_irrefl]

theorem less_no {a b : List UInt8} (h : Op.bytesLess a b = false) : (Op.bytesLess b a || b == a) = true := by
  have := bl_total a b
  cases hx : (Op.bytesLess b a || b == a)
  · rw [hx, h] at this; cases this
  · rfl
theorem less_yes {a b : List UInt8} (h : Op.bytesLess a b = true) : (Op.bytesLess b a || b == a) = false := by
  have := bl_total a b
  cases hx : (Op.bytesLess b a || b == a)
  · rfl
  · rw [hx, h] at this; cases this

def In64 (a : Int) : Prop := -9223372036854775808 ≤ a ∧ a ≤ 9223372036854775807
theorem wrap_id {a : Int} (h : In64 a) : wrap64 a = a := by obtain ⟨h1, h2⟩ := h; unfold wrap64; omega
theorem step64 {i n : Nat} (h : i < n) (hn : n ≤ 1000000000000) : wrap64 ((i : Int) + 1) = ((i + 1 : Nat) : Int) := by unfold wrap64; omega

theorem bcell {W w1 : World} (hb : Below W.heap.size W w1) : (∀ b o, b < W.heap.size → w1.cell? ⟨b, o, none⟩ = W.cell? ⟨b, o, none⟩) ∧ (∀ b o, b < W.heap.size → w1.frozen? ⟨b, o, none⟩ = W.frozen? ⟨b, o, none⟩) :=
  ⟨fun b o h => hb.cell (p := ⟨b, o, none⟩) h, fun b o h => hb.frozen (p := ⟨b, o, none⟩) h⟩

theorem bdrew (B : Nat) (w : World) (n : Nat) : Below B w (w.drewN n) := ⟨rfl, rfl, rfl, Nat.le_refl _, fun _ _ => rfl⟩
theorem bdrew2 (B : Nat) (w : World) (n m : Nat) : Below B w ((w.drewN n).drewN m) := ⟨rfl, rfl, rfl, Nat.le_refl _, fun _ _ => rfl⟩
theorem hid_mk {p : Prop} (h : p) : Hid p := h

theorem cell_at {w : World} {b : Nat} {arr : Array Value} {e : TypeId} {fz : Nat × Nat} (h : w.heap[b]? = some (.cells arr e fz)) (o : Nat) : w.cell? ⟨b, o, none⟩ = arr[o]? := by
  simp [World.cell?, h]
theorem frozen_at {w : World} {b : Nat} {arr : Array Value} {e : TypeId} (h : w.heap[b]? = some (.cells arr e (0, 0))) (o : Nat) : w.frozen? ⟨b, o, none⟩ = false := by
  simp [World.frozen?, h]
theorem set_at {w : World} {b : Nat} {arr : Array Value} {e : TypeId} {fz : Nat × Nat} (h : w.heap[b]? = some (.cells arr e fz)) (o : Nat) (v : Value) :
    (w.setCell ⟨b, o, none⟩ v).heap[b]? = some (.cells (arr.setIfInBounds o v) e fz) := by
  simp only [World.setCell, Array.getElem?_modify, if_true]
  rw [h]
  rfl
theorem block_lt {w : World} {b : Nat} {o : Obj} (h : w.heap[b]? = some o) : b < w.heap.size := (Array.getElem?_eq_some_iff.1 h).1

theorem addr_add (b o i : Nat) : (⟨b, o, none⟩ : Addr).add i = ⟨b, o + i, none⟩ := by
  simp only [Addr.add]
  by_cases h : i = 0
  · subst h; simp
  · simp [h]
theorem wrap_byte (u : UInt8) : wrap64 (u.toNat : Int) = (u.toNat : Int) := by have := u.toNat_lt; unfold wrap64; omega
theorem ret_i {k : IntKind} {a b : Int} (h : a = b) : Ending.returned (.int k a) = .returned (.int k b) := by rw [h]
theorem ret_ib {k : IntKind} {a b : Int} {c : Bool} (h : a = b) : Ending.returned (.tuple #[.int k a, .bool c]) = .returned (.tuple #[.int k b, .bool c]) := by rw [h]
theorem ret_b {a b : Bool} (h : a = b) : Ending.returned (.bool a) = .returned (.bool b) := by rw [h]
/-! ### rows whose elements take the same number of cells each -/
theorem flat_get {α : Type} (f : α → List Value) (sz : Nat) (hf : ∀ x, (f x).length = sz) : ∀ (l : List α) (j i : Nat), i < sz → (l.flatMap f)[j * sz + i]? = (l[j]?).bind fun x => (f x)[i]?
  | [], j, i, _ => by simp
  | x :: r, 0, i, hi => by
    rw [List.flatMap_cons, List.getElem?_append_left (by rw [hf]; omega)]
    simp
  | x :: r, j + 1, i, hi => by
    have e : (j + 1) * sz + i = sz + (j * sz + i) := by rw [Nat.add_mul]; omega
    rw [List.flatMap_cons, e, List.getElem?_append_right (by rw [hf]; omega), hf]
    simpa using flat_get f sz hf r j i hi
theorem flat_len {α : Type} (f : α → List Value) (sz : Nat) (hf : ∀ x, (f x).length = sz) : ∀ l : List α, (l.flatMap f).length = l.length * sz
  | [] => by simp
  | x :: r => by rw [List.flatMap_cons, List.length_append, hf, flat_len f sz hf r, List.length_cons, Nat.add_mul]; omega

theorem quiet_left {P : Program} {f : FuncId} {args : Array Value} {w : World} {n : Nat} {v : Value}
    (h : Calls P f args (w.drewN n) fun e w' => e = .returned v ∧ w.drewN n = w') : Calls P f args (w.drewN n) fun e w' => e = .returned v ∧ ∃ m, w' = w.drewN m :=
  h.mono fun _ _ ⟨he, hm⟩ => ⟨he, n, hm.symm⟩
theorem quiet_add_left {P : Program} {f : FuncId} {args : Array Value} {w : World} {a n : Nat} {v : Value}
    (h : Calls P f args (w.drewN (a + n)) fun e w' => e = .returned v ∧ w.drewN (a + n) = w') :
    Calls P f args (w.drewN (a + n)) fun e w' => e = .returned v ∧ ∃ m, w' = w.drewN (a + m) :=
  h.mono fun _ _ ⟨he, hm⟩ => ⟨he, n, hm.symm⟩
end Go.Proofs.Ythinomhjhkhidaa.Base
