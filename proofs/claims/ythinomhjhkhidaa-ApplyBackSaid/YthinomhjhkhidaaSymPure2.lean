/- Layer 9, plain: no two symbols stand for one text; each is found by its text. -/
import Derived.Test.YthinomhjhkhidaaSymPure
namespace Go.Proofs.Ythinomhjhkhidaa.SymPure
open Base

theorem byteS_size (id : Int) : (byteS id).size = 1 := by simp [byteS, ByteArray.size]
theorem byteS_find (T : List J) {id : Int} (h0 : 0 ≤ id) (h1 : id < 256) : findS T (byteS id) = (id, true) := by
  have e : (byteS id).toList = [UInt8.ofNat id.toNat] := by rw [ByteArray.toList_eq]; rfl
  unfold findS
  rw [if_pos (byteS_size id), e]
  simp only [List.headD_cons, UInt8.toNat_ofNat']
  congr 1
  omega
theorem Made.pos {T : List J} (h : Made T) : ∀ id, there T id = true → 1 ≤ (textS T id).size := by
  induction h with
  | nil =>
    intro id hid
    obtain ⟨h1, h2⟩ := there_iff.1 hid
    rw [text_low h1 (by simpa using h2), byteS_size]
    omega
  | @snoc T a b hg hj ih =>
    intro id hid
    obtain ⟨h1, h2⟩ := there_iff.1 hid
    obtain ⟨ta, tb, _, _⟩ := join_zero hj
    by_cases h3 : there T id = true
    · rw [text_snoc h3]; exact ih id h3
    · have h4 : id = 256 + (T.length : Int) := by
        have := mt there_iff.2 h3
        simp at h2
        omega
      subst h4
      rw [text_high (x := ⟨a, b, textS T a ++ textS T b⟩) (by omega) (by
        have : (256 + (T.length : Int) - 256).toNat = T.length := by omega
        rw [this]; simp)]
      have := ih a ta
      simp only [ByteArray.size_append]
      omega
theorem Made.two {T : List J} (h : Made T) : ∀ x ∈ T, 2 ≤ x.s.size := by
  cases h with
  | nil => intro x hx; cases hx
  | @snoc T a b hg hj =>
    have hall : Made (T ++ [⟨a, b, textS T a ++ textS T b⟩]) := .snoc hg hj
    intro x hx
    obtain ⟨i, hi, hget⟩ := List.getElem_of_mem hx
    obtain ⟨h1, h2, h3, h4, h5⟩ := hall.at i x (by rw [List.getElem?_eq_getElem hi, hget])
    have p1 := hall.pos x.a (there_iff.2 ⟨h1, by omega⟩)
    have p2 := hall.pos x.b (there_iff.2 ⟨h3, by omega⟩)
    rw [h5, ByteArray.size_append]
    omega
theorem Made.idx {T : List J} (h : Made T) : ∀ (i : Nat) (x : J), T[i]? = some x → idx T x.s = some i := by
  induction h with
  | nil => intro i x hx; simp at hx
  | @snoc T a b hg hj ih =>
    intro i x hx
    obtain ⟨_, _, _, h4⟩ := join_zero hj
    have hnew := find_none h4
    by_cases hi : i < T.length
    · rw [List.getElem?_append_left hi] at hx
      have hne : x.s ≠ textS T a ++ textS T b := by
        intro e
        have := ih i x hx
        rw [e, hnew] at this
        cases this
      rw [idx_snoc_other (x := ⟨a, b, textS T a ++ textS T b⟩) hne]
      exact ih i x hx
    · have hl := (List.getElem?_eq_some_iff.1 hx).1
      simp at hl
      have hin : i = T.length := by omega
      subst hin
      simp at hx
      subst hx
      exact idx_snoc_new (x := ⟨a, b, textS T a ++ textS T b⟩) hnew
/-- each symbol is found by its text -/
theorem Made.find {T : List J} (h : Made T) {id : Int} (hid : there T id = true) : findS T (textS T id) = (id, true) := by
  obtain ⟨h1, h2⟩ := there_iff.1 hid
  by_cases h3 : id < 256
  · rw [text_low h1 h3]; exact byteS_find T h1 h3
  · have hlt : (id - 256).toNat < T.length := by omega
    have hx := List.getElem?_eq_getElem hlt
    rw [text_high (by omega) hx]
    have h5 := h.two _ (List.getElem_mem hlt)
    have h6 := h.idx _ _ hx
    unfold findS
    rw [if_neg (by omega), h6]
    simp only [Prod.mk.injEq, and_true]
    omega
theorem Made.inj {T : List J} (h : Made T) {a b : Int} (ha : there T a = true) (hb : there T b = true) (e : textS T a = textS T b) : a = b := by
  have h1 := h.find ha
  rw [e, h.find hb] at h1
  simpa using h1.symm
theorem Made.pair {T : List J} (h : Made T) {id : Int} (hid : isJoined T id = true) :
    there T (pairS T id).1 = true ∧ there T (pairS T id).2 = true ∧ (pairS T id).1 < id ∧ (pairS T id).2 < id ∧ textS T (pairS T id).1 ++ textS T (pairS T id).2 = textS T id := by
  obtain ⟨h1, h2⟩ := isJoined_iff.1 hid
  have hlt : (id - 256).toNat < T.length := by omega
  have hx := List.getElem?_eq_getElem hlt
  obtain ⟨a1, a2, b1, b2, e⟩ := h.at _ _ hx
  rw [pair_high h1 hx, text_high h1 hx]
  exact ⟨there_iff.2 ⟨a1, by omega⟩, there_iff.2 ⟨b1, by omega⟩, by simp only; omega, by simp only; omega, e.symm⟩
theorem join_there {T : List J} {a b : Int} (h : joinE T a b = 0) : there (joinT T a b) (joinI T a b) = true := by
  unfold joinT joinI
  rw [if_pos h, if_pos h, there_iff]
  simp; omega
end Go.Proofs.Ythinomhjhkhidaa.SymPure
