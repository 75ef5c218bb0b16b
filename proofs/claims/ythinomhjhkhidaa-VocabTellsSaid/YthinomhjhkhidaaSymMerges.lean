/- Layer 9: what was joined, of both tables; the comparison of two such lists. -/
import Derived.Test.YthinomhjhkhidaaRefSym2
import Derived.Test.YthinomhjhkhidaaSym4
import Derived.Test.YthinomhjhkhidaaKinds
import Derived.Test.YthinomhjhkhidaaWEqStruct
namespace Go.Proofs.Ythinomhjhkhidaa.SymMerges
open Go.RowKit Go.Proofs.YthinomhjhkhidaaW.PrintWords Go.Proofs.YthinomhjhkhidaaW.PrintLast Go.Proofs.YthinomhjhkhidaaW.PrintMore Base Foot SymPure Sym Sym2 Sym3 RefSym RefSym2 Kinds
set_option linter.unusedVariables false
attribute [local go_sem ↓] Go.wp_at_zero Go.wp_at_succ

theorem infoM : (Try.prog.info? 70).map (fun i => (i.zero, i.size, i.bytes)) = some (some (.agg #[.string ⟨#[]⟩, .string ⟨#[]⟩]), 2, 32) := by kernel_rfl
theorem take_step {α : Type} {f : α → List Value} {l : List α} {k : Nat} {x : α} (h : l[k]? = some x) : (l.take (k + 1)).flatMap f = (l.take k).flatMap f ++ f x := by
  have hl := (List.getElem?_eq_some_iff.1 h).1
  rw [List.take_succ_eq_append_getElem hl, List.flatMap_append]
  rw [List.getElem?_eq_getElem hl] at h
  injection h with h
  rw [h]
  simp
theorem merges_len (T : List J) : (mergesS T).length = T.length := by simp [mergesS]
theorem merges_at {T : List J} {k : Nat} {x : J} (h : T[k]? = some x) : (mergesS T)[k]? = some (textS T x.a, textS T x.b) := by simp [mergesS, h]

theorem eqM (d : Nat) (w : World) (x0 y0 : ByteArray) (x1 y1 : ByteArray) :
    (Op.equalIn (d + 2) 70 (.agg #[.string x0, .string x1]) (.agg #[.string y0, .string y1])).run Try.prog w = .ok (x0.toList == y0.toList && (x1.toList == y1.toList)) w := by
  refine eqA_of Try.underlying70 (by kernel_rfl) ?_
  refine eqf_cons (by rfl) (by go_simp; rfl) (by go_simp; rfl) (by go_simp) ?_
  exact eqf_last (by rfl) (by go_simp; rfl) (by go_simp; rfl) (by go_simp)
theorem eqP (d : Nat) (w : World) (x0 y0 x1 y1 : Int) :
    (Op.equalIn (d + 2) 94 (.agg #[.int .i64 x0, .int .i64 x1]) (.agg #[.int .i64 y0, .int .i64 y1])).run Try.prog w = .ok (x0 == y0 && (x1 == y1)) w := by
  refine eqA_of Try.underlying94 (by kernel_rfl) ?_
  refine eqf_cons (by rfl) (by go_simp; rfl) (by go_simp; rfl) (by go_simp) ?_
  exact eqf_last (by rfl) (by go_simp; rfl) (by go_simp; rfl) (by go_simp)
attribute [local go_sem high] eqM

end Go.Proofs.Ythinomhjhkhidaa.SymMerges
