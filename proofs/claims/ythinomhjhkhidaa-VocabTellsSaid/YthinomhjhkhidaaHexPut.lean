/- Layer 1: bytes by digits. -/
import Derived.Test.YthinomhjhkhidaaBld
import Derived.Lib.ConvBytes
namespace Go.Proofs.Ythinomhjhkhidaa.HexPut
open Go.RowKit Base Foot Bld
set_option linter.unusedVariables false
set_option linter.unusedSimpArgs false
attribute [local go_sem ↓] Go.wp_at_zero Go.wp_at_succ

def digs : List UInt8 := [48, 49, 50, 51, 52, 53, 54, 55, 56, 57, 97, 98, 99, 100, 101, 102]
def dig (n : Nat) : UInt8 := digs.getD n 0
def hexL (l : List UInt8) : List UInt8 := l.flatMap fun c => [dig (c.toNat / 16), dig (c.toNat % 16)]
def hexB (s : ByteArray) : ByteArray := ⟨(hexL s.data.toList).toArray⟩
theorem hexL_len (l : List UInt8) : (hexL l).length = 2 * l.length := by
  induction l with
  | nil => rfl
  | cons a l ih => unfold hexL at *; rw [List.flatMap_cons, List.length_append, ih, List.length_cons]; simp; omega
theorem hexL_step {l : List UInt8} {k : Nat} {c : UInt8} (h : l[k]? = some c) : hexL (l.take (k + 1)) = hexL (l.take k) ++ [dig (c.toNat / 16)] ++ [dig (c.toNat % 16)] := by
  obtain ⟨hk, e⟩ := List.getElem?_eq_some_iff.1 h
  rw [List.take_succ_eq_append_getElem hk, e]
  unfold hexL
  rw [List.flatMap_append]
  simp
theorem dig_at (i : Nat) (h : i < 16) (h' : i < (⟨#[48, 49, 50, 51, 52, 53, 54, 55, 56, 57, 97, 98, 99, 100, 101, 102]⟩ : ByteArray).size) : (⟨#[48, 49, 50, 51, 52, 53, 54, 55, 56, 57, 97, 98, 99, 100, 101, 102]⟩ : ByteArray)[i]'h' = dig i := by
  have : ∀ j : Fin 16, (⟨#[48, 49, 50, 51, 52, 53, 54, 55, 56, 57, 97, 98, 99, 100, 101, 102]⟩ : ByteArray)[j.val]'j.isLt = dig j.val := by decide
  exact this ⟨i, h⟩
end Go.Proofs.Ythinomhjhkhidaa.HexPut
