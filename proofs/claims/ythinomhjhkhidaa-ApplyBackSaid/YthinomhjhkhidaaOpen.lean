/- An argument that is a slice, read as a list: whatever its elements, given how one element's cells read. -/
import Derived.Test.YthinomhjhkhidaaWMore
import Derived.Test.YthinomhjhkhidaaBase
import Derived.Deep.Slices
import Derived.Deep.Fields
import Derived.ChangeSame
import Derived.SizedLaws
namespace Go.Proofs.Ythinomhjhkhidaa.OpenArg
open Go.RowKit Go.ChangeShapes Go.WideShapes Go.Deep Go.Proofs.YthinomhjhkhidaaW.PrintWords Go.Proofs.YthinomhjhkhidaaW.PrintLast Base

theorem list_choose {α : Type} {Q : Nat → α → Prop} : ∀ n : Nat, (∀ i, i < n → ∃ a, Q i a) → ∃ l : List α, l.length = n ∧ ∀ i a, l[i]? = some a → Q i a
  | 0, _ => ⟨[], rfl, fun i a h => by simp at h⟩
  | n + 1, h => by
    obtain ⟨l, hl, hq⟩ := list_choose n (fun i hi => h i (by omega))
    obtain ⟨a, ha⟩ := h n (by omega)
    refine ⟨l ++ [a], by simp [hl], fun i b hb => ?_⟩
    by_cases hi : i < n
    · rw [List.getElem?_append_left (by omega)] at hb
      exact hq i b hb
    · have hin : i = n := by
        have := (List.getElem?_eq_some_iff.1 hb).1
        simp at this
        omega
      subst hin
      rw [List.getElem?_append_right (by omega), hl] at hb
      simp at hb
      subst hb
      exact ha

section
variable {H : Type} {enc : TypeId × Value → H} {P : Program} {w : World} {base : Nat} {spare : Nat → Bool} {held : Bool}
theorem open_row {α : Type} (kd : Kd α) (Good : α → Prop) {t e : TypeId} {fuel : Nat} {cs : List Value} {x : DataW H × List MemPlace} (ht : P.underlying t = some (.slice e)) (hC : P.cellsOf e = kd.sz)
    (dec : ∀ n cs y, DataW.trod enc P w base spare held n e cs = some y → ∃ a, kd.K w a cs ∧ Good a) (h : DataW.trod enc P w base spare held fuel t cs = some x) :
    ∃ (A : Option Addr) (l : List α) (cap : Nat), cs = [.slice A l.length cap] ∧ l.length ≤ cap ∧ cap ≤ maxLen ∧ Kd.C kd w A l.length l ∧ (∀ a ∈ l, Good a) ∧ (l = [] ∨ ∃ es sp, x.1 = .slice es sp ∧ es.length = l.length) := by
  rcases open_slice ht h with ⟨hcs, hx⟩ | ⟨a, len, cap, m, n, D, Pl, hcs, hb, hl, hm, hmm, hx, hi⟩
  · exact ⟨none, [], 0, hcs, by simp, by simp, ⟨rfl, by simp, fun h => absurd h (by simp)⟩, by simp, .inl rfl⟩
  · have hlm : len ≤ m := by rw [hmm]; split <;> omega
    obtain ⟨l, hll, hq⟩ := list_choose (Q := fun i (b : α) => Good b ∧ ∃ c, c.length = kd.sz ∧ kd.K w b c ∧ ∀ j u, c[j]? = some u → w.cell? (a.add (i * kd.sz + j)) = some u) len (fun i hilt => by
      obtain ⟨cs', hc, htr⟩ := hi i (by omega)
      obtain ⟨b, hK, hG⟩ := dec n cs' _ htr
      obtain ⟨_, hcl, hat⟩ := World.cells?_some hc
      refine ⟨b, hG, cs', kd.K_len hK, hK, fun j u hj => ?_⟩
      have hjl : j < cs'.length := (List.getElem?_eq_some_iff.1 hj).1
      have := hat j (by omega)
      rw [Deep.add_add, hC, hj] at this
      exact this)
    refine ⟨some a, l, cap, by rw [hcs, hll], by omega, hm, ⟨rfl, by unfold maxLen at hm; omega, fun _ => ⟨a, rfl, fun j p hj => ?_⟩⟩, fun b hb => ?_, .inr ⟨_, _, by rw [hx], by simp [hll]⟩⟩
    · obtain ⟨_, c, h1, h2, h3⟩ := hq j p hj
      exact ⟨c, h1, h2, h3⟩
    · obtain ⟨i, hilt, hget⟩ := List.getElem_of_mem hb
      exact (hq i b (by rw [List.getElem?_eq_getElem hilt, hget])).1

theorem row_reach {ts : List TypeId} {ds : List (DataW H)} (h : (DataW.weightsEach P ts ds).all (· ≤ reachBytes) = true) {j : Nat} {t e : TypeId} {d : DataW H} (ht : ts[j]? = some t) (hd : ds[j]? = some d) (hu : P.underlying t = some (.slice e))
    {α : Type} {l : List α} (hl : l = [] ∨ ∃ es sp, d = .slice es sp ∧ es.length = l.length) : l.length * P.bytesOf e ≤ reachBytes := by
  rcases hl with rfl | ⟨es, sp, rfl, hes⟩
  · simp
  · have := sized_slice h ht hd hu
    rw [hes] at this
    exact Nat.le_trans (Nat.mul_le_mul_right _ (by omega)) this
end
theorem wf_in {a : Int} (h : (Lit.int .i64 a).wf = true) : In64 a := by
  simpa [In64, Lit.wf, IntKind.min, IntKind.max, IntKind.signed, IntKind.bits] using h
end Go.Proofs.Ythinomhjhkhidaa.OpenArg
