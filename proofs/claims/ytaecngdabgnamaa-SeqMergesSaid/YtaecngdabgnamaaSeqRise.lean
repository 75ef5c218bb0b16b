/- Layer 11, plain: pairs that rise, each once; the changes between two words. -/
import Derived.Test.YtaecngdabgnamaaSeqPure
namespace Go.Proofs.Ytaecngdabgnamaa.SeqPure
open PMap
set_option linter.unusedVariables false
set_option linter.unusedSimpArgs false

structure Ri (L S : List PK) : Prop where
  up : L.Pairwise befP
  mem : ∀ q, q ∈ L ↔ q ∈ S
  len : L.length ≤ S.length
theorem Ri.nil : Ri [] [] := ⟨.nil, fun q => Iff.rfl, Nat.le_refl _⟩
theorem Ri.same {L S : List PK} {p : PK} {k : Nat} (h : Ri L S) (hp : L[k]? = some p) : Ri L (S ++ [p]) :=
  ⟨h.up, fun q => by
    rw [List.mem_append, ← h.mem q, List.mem_singleton]
    exact ⟨.inl, fun e => by rcases e with e | rfl; exact e; exact List.mem_of_getElem? hp⟩, by have := h.len; simp; omega⟩
theorem Ri.ins {L S : List PK} {p : PK} {k : Nat} (h : Ri L S) (hk : k ≤ L.length) (h1 : ∀ j x, j < k → L[j]? = some x → befP x p) (h2 : ∀ x, L[k]? = some x → ¬ befP x p ∧ x ≠ p) : Ri (L.take k ++ p :: L.drop k) (S ++ [p]) := by
  have ht : ∀ x ∈ L.take k, befP x p := fun x hx => by
    obtain ⟨j, hj, e⟩ := List.getElem_of_mem hx
    rw [List.length_take] at hj
    exact h1 j x (by omega) (by rw [List.getElem?_eq_getElem (by omega), ← e, List.getElem_take])
  have hd : ∀ x ∈ L.drop k, befP p x := fun x hx => by
    cases hk2 : L[k]? with
    | none =>
      rw [List.getElem?_eq_none_iff] at hk2
      rw [List.drop_eq_nil_of_le hk2] at hx
      cases hx
    | some y =>
      obtain ⟨g1, g2⟩ := List.getElem?_eq_some_iff.1 hk2
      obtain ⟨g3, g4⟩ := h2 y hk2
      have hy : befP p y := (befP.tri g4).resolve_left g3
      rw [List.drop_eq_getElem_cons g1, g2] at hx
      rcases List.mem_cons.1 hx with rfl | hx
      · exact hy
      · have hu := h.up
        rw [← List.take_append_drop k L, List.drop_eq_getElem_cons g1, g2] at hu
        have := (List.pairwise_cons.1 (List.pairwise_append.1 hu).2.1).1 x hx
        exact hy.trans this
  have hu := h.up
  rw [← List.take_append_drop k L] at hu
  obtain ⟨u1, u2, u3⟩ := List.pairwise_append.1 hu
  refine ⟨List.pairwise_append.2 ⟨u1, List.pairwise_cons.2 ⟨hd, u2⟩, fun x hx y hy => ?_⟩, fun q => ?_, ?_⟩
  · rcases List.mem_cons.1 hy with rfl | hy
    · exact ht x hx
    · exact u3 x hx y hy
  · have e : q ∈ S ↔ q ∈ L.take k ∨ q ∈ L.drop k := by rw [← h.mem q, ← List.mem_append, List.take_append_drop]
    simp only [List.mem_append, List.mem_cons, List.not_mem_nil, or_false, e]
    constructor
    · rintro (h | h | h)
      · exact .inl (.inl h)
      · exact .inr h
      · exact .inl (.inr h)
    · rintro ((h | h) | h)
      · exact .inl h
      · exact .inr (.inr h)
      · exact .inr (.inl h)
  · have := h.len
    simp
    omega
theorem adj_take {l : List Int} {i : Nat} {a b : Int} (h1 : l[i]? = some a) (h2 : l[i + 1]? = some b) : adj (l.take (i + 2)) = adj (l.take (i + 1)) ++ [(a, b)] := by
  obtain ⟨g1, g2⟩ := List.getElem?_eq_some_iff.1 h1
  obtain ⟨g3, g4⟩ := List.getElem?_eq_some_iff.1 h2
  have e1 : l.take (i + 2) = l.take (i + 1) ++ [b] := by rw [List.take_succ_eq_append_getElem g3, g4]
  have e2 : (l.take (i + 1)).getLast? = some a := by rw [List.take_succ_eq_append_getElem g1, g2]; simp
  rw [e1, adj_append, e2]
  simp [lnk, adj]
theorem adj_one (l : List Int) : adj (l.take 1) = [] := by cases l <;> rfl
/-- the changes between two words, out of their pairs -/
def chg (was now : List Int) (q : PK) : Option (PK × Int) := if (cnt now q : Int) - cnt was q = 0 then none else some (q, (cnt now q : Int) - cnt was q)
theorem chg_all {L : List PK} {was now : List Int} (h : Ri L (adj was ++ adj now)) {l : List (PK × Int)} (h1 : Rise l) (h2 : NZ l) (h3 : ∀ q, lv l q = (cnt now q : Int) - cnt was q) : l = L.filterMap (chg was now) := by
  have hk : ∀ (q : PK) (y : PK × Int), chg was now q = some y → y.1 = q ∧ y.2 = (cnt now q : Int) - cnt was q ∧ y.2 ≠ 0 := fun q y e => by
    unfold chg at e
    split at e
    · cases e
    · cases e; exact ⟨rfl, rfl, by assumption⟩
  have r1 : Rise (L.filterMap (chg was now)) := by
    unfold Rise
    rw [List.pairwise_filterMap]
    exact h.up.imp fun {a b} hab x hx y hy => by rw [(hk a x hx).1, (hk b y hy).1]; exact hab
  have r2 : NZ (L.filterMap (chg was now)) := fun x hx => by
    obtain ⟨q, _, e⟩ := List.mem_filterMap.1 hx
    exact (hk q x e).2.2
  refine rise_uniq h1 h2 r1 r2 fun q => ?_
  rw [h3 q]
  by_cases hz : (cnt now q : Int) - cnt was q = 0
  · rw [hz]
    by_cases hn : lv (L.filterMap (chg was now)) q = 0
    · exact hn.symm
    · obtain ⟨x, hx, hx1⟩ := lv_ne hn
      obtain ⟨q', _, e⟩ := List.mem_filterMap.1 hx
      obtain ⟨e1, e2, e3⟩ := hk q' x e
      rw [hx1] at e1
      subst e1
      rw [hz] at e2
      exact absurd e2 e3
  · have hq : q ∈ L := by
      rw [h.mem, List.mem_append]
      by_cases ha : q ∈ adj was
      · exact .inl ha
      · right
        by_cases hb : q ∈ adj now
        · exact hb
        · exfalso
          apply hz
          unfold cnt
          rw [List.count_eq_zero.2 ha, List.count_eq_zero.2 hb]
          rfl
    have hm : (q, (cnt now q : Int) - cnt was q) ∈ L.filterMap (chg was now) := List.mem_filterMap.2 ⟨q, hq, by unfold chg; rw [if_neg hz]⟩
    exact (lv_mem r1.nd hm).symm
theorem chg_step {L : List PK} {was now : List Int} {i : Nat} {q : PK} (h : L[i]? = some q) : (L.take (i + 1)).filterMap (chg was now) = (L.take i).filterMap (chg was now) ++ (chg was now q).toList := by
  obtain ⟨g1, g2⟩ := List.getElem?_eq_some_iff.1 h
  rw [List.take_succ_eq_append_getElem g1, g2, List.filterMap_append]
  cases e : chg was now q <;> simp [e]
theorem chg_at {L : List PK} {was now : List Int} {i : Nat} {q : PK} {y : PK × Int} (h : L[i]? = some q) (e : chg was now q = some y) : (L.filterMap (chg was now))[((L.take i).filterMap (chg was now)).length]? = some y := by
  obtain ⟨g1, g2⟩ := List.getElem?_eq_some_iff.1 h
  have e1 : L.filterMap (chg was now) = (L.take i).filterMap (chg was now) ++ (L.drop i).filterMap (chg was now) := by rw [← List.filterMap_append, List.take_append_drop]
  rw [e1, List.getElem?_append_right (Nat.le_refl _), Nat.sub_self, List.drop_eq_getElem_cons g1, g2, List.filterMap_cons, e]
  rfl
end Go.Proofs.Ytaecngdabgnamaa.SeqPure
