/- A row of the call's own, sorted by the library at elements of k cells: between the row's words and the sort's. -/
import Derived.Test.YthinomhjhkhidaaFoot
import Derived.Shelf.GgSortFunc.InsertionK
namespace Go.Proofs.Ythinomhjhkhidaa.SortK
open Go.RowKit Go.Sort Base Foot
set_option linter.unusedVariables false
set_option linter.unusedSimpArgs false
variable {α : Type} [Inhabited α] {enc : α → List Value} {k : Nat} (hk : ∀ x, (enc x).length = k)
include hk
theorem flatK_list (l : List α) : (flatK enc k l.toArray).toList = l.flatMap enc := by
  apply List.ext_getElem?
  intro t
  by_cases ht : t < l.length * k
  · have k0 : 0 < k := by rcases Nat.eq_zero_or_pos k with h | h; · subst h; simp at ht
                          · exact h
    have h1 : t / k < l.length := Nat.div_lt_of_lt_mul (by rwa [Nat.mul_comm] at ht)
    have h2 : t % k < k := Nat.mod_lt _ k0
    have e1 : (flatK enc k l.toArray).toList[t]? = some ((flatK enc k l.toArray)[t]!) := by
      have hs : t < (flatK enc k l.toArray).size := by simpa using ht
      rw [Array.getElem?_toList, Array.getElem?_eq_getElem hs, getElem!_pos _ t hs]
    rw [e1, get_flatK _ _ _ _ (by simpa using ht)]
    have e2 := flat_get enc k hk l (t / k) (t % k) h2
    rw [Nat.mul_comm, Nat.div_add_mod] at e2
    rw [e2, List.getElem?_eq_getElem h1, Option.bind_some]
    have e3 : l.toArray[t / k]! = l[t / k] := by simp [h1]
    rw [e3, List.getElem?_eq_getElem (by rw [hk]; exact h2), getElem!_pos _ _ (by rw [hk]; exact h2)]
  · rw [List.getElem?_eq_none (by simp; omega), List.getElem?_eq_none (by rw [flat_len enc k hk]; omega)]
theorem holds_own {w : World} {B g cap : Nat} {e : TypeId} {l : List α} (h : w.ownsRow B e k (.slice (some ⟨g, 0, none⟩) l.length cap) l.length (l.flatMap enc)) : HoldsK enc k w g 0 l.toArray := by
  intro j hj
  have hj' : j < l.length * k := by simpa using hj
  refine ⟨?_, h.frozenAt (0 + j)⟩
  rcases h.2 with ⟨e1, _⟩ | ⟨g', cap', cur, e1, _, hg, hc, _, hs, ht⟩
  · cases e1
  · cases e1
    have e2 : (flatK enc k l.toArray)[j]! = (flatK enc k l.toArray).toList[j]'(by simpa using hj) := by
      rw [getElem!_pos _ j hj]; rfl
    rw [Nat.zero_add, cell_at hg, ← Array.getElem?_toList, id, e2]
    have e3 : cur.toList[j]? = (l.flatMap enc)[j]? := by rw [← ht, List.getElem?_take_of_lt hj']
    rw [e3, ← flatK_list hk l, List.getElem?_eq_getElem]
theorem own_sorted {w : World} {B g cap : Nat} {e : TypeId} {l l' : List α} (h : w.ownsRow B e k (.slice (some ⟨g, 0, none⟩) l.length cap) l.length (l.flatMap enc)) (hl : l'.length = l.length) (m : Nat) (os : Array Obj) :
    (sortWorldK enc k w g 0 m l'.toArray os).ownsRow B e k (.slice (some ⟨g, 0, none⟩) l.length cap) l'.length (l'.flatMap enc) ∧ Upd (fun k => k = g) (fun k => k = g) w (sortWorldK enc k w g 0 m l'.toArray os) := by
  rcases h.2 with ⟨e1, _⟩ | ⟨g', cap', cur, e1, hB, hg, hc, hm, hs, ht⟩
  · cases e1
  · cases e1
    have hgl := block_lt hg
    have hfl : (flatK enc k l'.toArray).size = l.length * k := by simp [hl]
    refine ⟨⟨by rw [flat_len enc k hk], .inr ⟨g, cap, putCells id 0 (flatK enc k l'.toArray) cur, by rw [hl], hB, ?_, by omega, hm, by simp [putCells, hs], ?_⟩⟩, ?_⟩
    · have e1 : (w.heap.modify g (onCells (putCells id 0 (flatK enc k l'.toArray))))[g]? = some (.cells (putCells id 0 (flatK enc k l'.toArray) cur) e (0, 0)) := by
        rw [Array.getElem?_modify, if_pos rfl, hg]; rfl
      show ((w.heap.modify g (onCells (putCells id 0 (flatK enc k l'.toArray)))) ++ os)[g]? = _
      rw [Array.getElem?_append_left (by simpa using hgl), e1]
    · apply List.ext_getElem?
      intro t
      rw [← flatK_list hk l', hl]
      by_cases h1 : t < l.length * k
      · have h2 : t < cur.size := by rw [hs]; exact Nat.lt_of_lt_of_le h1 (Nat.mul_le_mul_right _ hc)
        rw [List.getElem?_take_of_lt h1, Array.getElem?_toList, Array.getElem?_toList]
        simp [putCells, h2, hfl, h1]
      · rw [List.getElem?_take_eq_none (by omega), List.getElem?_eq_none (by rw [Array.length_toList, hfl]; omega)]
    · refine ⟨rfl, rfl, rfl, by simp [sortWorldK, grow, putRowK, putRow, mapBlock, ahead], fun q hq hne => ?_, fun q hq => .inl hq⟩
      have : ¬ g = q := fun e => hne e.symm
      show ((w.heap.modify g (onCells (putCells id 0 (flatK enc k l'.toArray)))) ++ os)[q]? = _
      rw [Array.getElem?_append_left (by simpa using hq), Array.getElem?_modify, if_neg this]
end Go.Proofs.Ythinomhjhkhidaa.SortK
