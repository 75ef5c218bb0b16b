/- Layer 18: merges written. -/
import Derived.Test.YthinomhjhkhidaaFileJoin
import Derived.Test.YthinomhjhkhidaaHexPut
namespace Go.Proofs.Ythinomhjhkhidaa.FileWrite
open Go.RowKit Go.ChangeShapes Go.WideShapes Go.Deep Go.Proofs.YthinomhjhkhidaaW.PrintWords Go.Proofs.YthinomhjhkhidaaW.PrintLast Go.Proofs.YthinomhjhkhidaaW.PrintMore Base Foot Kinds FilePure FileJoin Bld HexPut
set_option linter.unusedVariables false
set_option linter.unusedSimpArgs false
attribute [local go_sem ↓] Go.wp_at_zero Go.wp_at_succ

def headL : List UInt8 := [103, 108, 117, 101, 112, 111, 116, 32, 49, 10]
def lineL (m : Mg) : List UInt8 := hexL m.1.data.toList ++ [32] ++ hexL m.2.data.toList ++ [10]
def fileL (l : List Mg) : List UInt8 := headL ++ l.flatMap lineL
def fileB (l : List Mg) : ByteArray := if (chk [] l).2 = 0 then ⟨(fileL l).toArray⟩ else ⟨#[]⟩
theorem fileL_step {l : List Mg} {k : Nat} {m : Mg} (h : l[k]? = some m) : fileL (l.take (k + 1)) = fileL (l.take k) ++ lineL m := by
  obtain ⟨hk, e⟩ := List.getElem?_eq_some_iff.1 h
  unfold fileL
  rw [List.take_succ_eq_append_getElem hk, e, List.flatMap_append, List.append_assoc]
  simp
theorem lineL_len (m : Mg) : (lineL m).length = 2 * m.1.size + 2 * m.2.size + 2 := by
  have h1 : m.1.data.toList.length = m.1.size := by rw [Array.length_toList]; rfl
  have h2 : m.2.data.toList.length = m.2.size := by rw [Array.length_toList]; rfl
  simp only [lineL, List.length_append, hexL_len, h1, h2, List.length_cons, List.length_nil]
  omega
theorem fileL_len (l : List Mg) (h : ∀ m ∈ l, m.1.size ≤ 1000 ∧ m.2.size ≤ 1000) : (fileL l).length ≤ 10 + 4002 * l.length := by
  unfold fileL
  rw [List.length_append]
  have : (l.flatMap lineL).length ≤ 4002 * l.length := by
    induction l with
    | nil => simp
    | cons m l ih =>
      have h1 := h m (by simp)
      have h2 := ih (fun x hx => h x (List.mem_cons_of_mem _ hx))
      rw [List.flatMap_cons, List.length_append, lineL_len, List.length_cons]
      omega
  have : headL.length = 10 := rfl
  omega
theorem hexB_size (s : ByteArray) : (hexB s).size = 2 * s.size := by
  have : s.data.toList.length = s.size := by rw [Array.length_toList]; rfl
  unfold hexB
  show (hexL s.data.toList).toArray.size = _
  rw [List.size_toArray, hexL_len, this]
theorem str_byte (s : ByteArray) : Lib.strCells s = Lib.byteCells s.data.toList := rfl

end Go.Proofs.Ythinomhjhkhidaa.FileWrite
