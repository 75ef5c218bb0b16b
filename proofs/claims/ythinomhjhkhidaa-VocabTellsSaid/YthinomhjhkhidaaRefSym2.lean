/- Layer 9: the reference's table, walked: New, Join, Merges. -/
import Derived.Test.YthinomhjhkhidaaRefSym
import Derived.Laws.BytesArg
namespace Go.Proofs.Ythinomhjhkhidaa.RefSym2
open Go.RowKit Base Foot SymPure Sym Sym3 RefSym
set_option linter.unusedVariables false
attribute [local go_sem ↓] Go.wp_at_zero Go.wp_at_succ

theorem infoS : (Try.prog.info? 9).map (fun i => (i.zero, i.size, i.bytes)) = some (some (.string ⟨#[]⟩), 1, 16) := by kernel_rfl
theorem infoP : (Try.prog.info? 94).map (fun i => (i.zero, i.size, i.bytes)) = some (some (.agg #[.int .i64 0, .int .i64 0]), 2, 16) := by kernel_rfl
theorem conv_byte (w : World) (k : Nat) (hk : k < 256) (bl : Nat) (h : w.heap[bl]? = some (.cells #[.int .u8 (k : Int)] 5 (0, 0))) :
    (convert 76 9 (.slice (some ⟨bl, 0, none⟩) 1 1)).run Try.prog w = .ok (.string (byteS (k : Int))) w := by
  have := run_convert_bytes_arg (P := Try.prog) (w := w) 76 5 Try.underlying76 Try.underlying5 bl 0 1 1 [(k : Int)] rfl (by
    intro i hi
    obtain rfl : i = 0 := by omega
    rw [cell_at h]
    rfl) _ Try.underlying9
  rw [this]
  rfl
theorem take_bytes {k : Nat} (h : k < 256) : (byteTexts.take (k + 1)).flatMap encS = (byteTexts.take k).flatMap encS ++ [.string (byteS (k : Int))] := by
  have hl : k < byteTexts.length := by rw [byteTexts_len]; exact h
  rw [List.take_succ_eq_append_getElem hl, List.flatMap_append]
  have := byteTexts_get h
  rw [List.getElem?_eq_getElem hl] at this
  injection this with this
  rw [this]
  rfl
end Go.Proofs.Ythinomhjhkhidaa.RefSym2
