/- Layer 9, plain: a table of joined symbols as a list; what each question answers. -/
import Derived.Test.YthinomhjhkhidaaBase
namespace Go.Proofs.Ythinomhjhkhidaa.SymPure
open Base

structure J where
  a : Int
  b : Int
  s : ByteArray
def j0 : J := ⟨0, 0, ⟨#[]⟩⟩
def byteS (id : Int) : ByteArray := ⟨#[UInt8.ofNat id.toNat]⟩
def there (T : List J) (id : Int) : Bool := decide (0 ≤ id) && decide (id < 256 + (T.length : Int))
def textS (T : List J) (id : Int) : ByteArray := if there T id = true then (if id < 256 then byteS id else (T.getD (id - 256).toNat j0).s) else ⟨#[]⟩
def idx (T : List J) (t : ByteArray) : Option Nat := T.findIdx? fun x => decide (x.s = t)
/-- which symbol stands for a text: (0, false) where there is none -/
def findS (T : List J) (t : ByteArray) : Int × Bool :=
  if t.size = 1 then (((t.toList.headD 0).toNat : Int), true) else match idx T t with
    | some i => (256 + (i : Int), true)
    | none => (0, false)
def isJoined (T : List J) (id : Int) : Bool := decide (256 ≤ id) && decide (id < 256 + (T.length : Int))
def pairS (T : List J) (id : Int) : Int × Int := if isJoined T id = true then ((T.getD (id - 256).toNat j0).a, (T.getD (id - 256).toNat j0).b) else (0, 0)
/-- the error of a join: 0: none -/
def joinE (T : List J) (a b : Int) : Int :=
  if there T a = false ∨ there T b = false then 1 else if 65536 < (textS T a).size + (textS T b).size then 4 else if (findS T (textS T a ++ textS T b)).2 = true then 8 else 0
def joinT (T : List J) (a b : Int) : List J := if joinE T a b = 0 then T ++ [⟨a, b, textS T a ++ textS T b⟩] else T
def joinI (T : List J) (a b : Int) : Int := if joinE T a b = 0 then 256 + (T.length : Int) else 0
theorem there_iff {T : List J} {id : Int} : there T id = true ↔ 0 ≤ id ∧ id < 256 + (T.length : Int) := by simp [there]
theorem there_not {T : List J} {id : Int} (h : there T id = false) : textS T id = ⟨#[]⟩ := by simp [textS, h]
theorem text_low {T : List J} {id : Int} (h0 : 0 ≤ id) (h1 : id < 256) : textS T id = byteS id := by
  have h : there T id = true := there_iff.2 ⟨h0, by omega⟩
  simp [textS, h, h1]
theorem text_high {T : List J} {id : Int} {x : J} (h : 256 ≤ id) (hx : T[(id - 256).toNat]? = some x) : textS T id = x.s := by
  have hl := (List.getElem?_eq_some_iff.1 hx).1
  have ht : there T id = true := there_iff.2 ⟨by omega, by omega⟩
  simp [textS, ht, show ¬ id < 256 by omega, List.getD, hx]
theorem isJoined_iff {T : List J} {id : Int} : isJoined T id = true ↔ 256 ≤ id ∧ id < 256 + (T.length : Int) := by simp [isJoined]
theorem pair_not {T : List J} {id : Int} (h : isJoined T id = false) : pairS T id = (0, 0) := by simp [pairS, h]
theorem pair_high {T : List J} {id : Int} {x : J} (h : 256 ≤ id) (hx : T[(id - 256).toNat]? = some x) : pairS T id = (x.a, x.b) := by
  have hl := (List.getElem?_eq_some_iff.1 hx).1
  have ht : isJoined T id = true := isJoined_iff.2 ⟨h, by omega⟩
  simp [pairS, ht, List.getD, hx]
theorem idx_snoc_new {T : List J} {x : J} (h : idx T x.s = none) : idx (T ++ [x]) x.s = some T.length := by
  unfold idx at *
  rw [List.findIdx?_append, h]
  simp [List.findIdx?_cons]
theorem idx_snoc_other {T : List J} {x : J} {t : ByteArray} (h : t ≠ x.s) : idx (T ++ [x]) t = idx T t := by
  unfold idx
  rw [List.findIdx?_append]
  have : ¬ x.s = t := fun e => h e.symm
  cases hf : List.findIdx? (fun x => decide (x.s = t)) T <;> simp [List.findIdx?_cons, this]
theorem join_zero {T : List J} {a b : Int} (h : joinE T a b = 0) : there T a = true ∧ there T b = true ∧ (textS T a).size + (textS T b).size ≤ 65536 ∧ (findS T (textS T a ++ textS T b)).2 = false := by
  unfold joinE at h
  split at h
  · cases h
  · rename_i h1
    split at h
    · cases h
    · rename_i h2
      split at h
      · cases h
      · rename_i h3
        refine ⟨?_, ?_, by omega, by simpa using h3⟩
        · cases hh : there T a
          · exact absurd (.inl hh) h1
          · rfl
        · cases hh : there T b
          · exact absurd (.inr hh) h1
          · rfl
theorem find_none {T : List J} {t : ByteArray} (h : (findS T t).2 = false) : idx T t = none := by
  unfold findS at h
  split at h
  · cases h
  · cases hi : idx T t with
    | none => rfl
    | some i => rw [hi] at h; cases h
/-- tables that joins make -/
inductive Made : List J → Prop
  | nil : Made []
  | snoc {T : List J} {a b : Int} : Made T → joinE T a b = 0 → Made (T ++ [⟨a, b, textS T a ++ textS T b⟩])

theorem there_snoc {T : List J} {x : J} {id : Int} (h : there T id = true) : there (T ++ [x]) id = true := by
  rw [there_iff] at *
  simp; omega
theorem text_snoc {T : List J} {x : J} {id : Int} (h : there T id = true) : textS (T ++ [x]) id = textS T id := by
  have h2 := there_snoc (x := x) h
  obtain ⟨h3, h4⟩ := there_iff.1 h
  unfold textS
  rw [if_pos h, if_pos h2]
  by_cases h5 : id < 256
  · rw [if_pos h5, if_pos h5]
  · rw [if_neg h5, if_neg h5]
    have : (id - 256).toNat < T.length := by omega
    simp [List.getD, List.getElem?_append_left this]
/-- what each joined symbol is -/
theorem Made.at {T : List J} (h : Made T) : ∀ (i : Nat) (x : J), T[i]? = some x → 0 ≤ x.a ∧ x.a < 256 + (i : Int) ∧ 0 ≤ x.b ∧ x.b < 256 + (i : Int) ∧ x.s = textS T x.a ++ textS T x.b := by
  induction h with
  | nil => intro i x hx; simp at hx
  | @snoc T a b hg hj ih =>
    intro i x hx
    obtain ⟨ta, tb, _, _⟩ := join_zero hj
    by_cases hi : i < T.length
    · rw [List.getElem?_append_left hi] at hx
      obtain ⟨h1, h2, h3, h4, h5⟩ := ih i x hx
      exact ⟨h1, h2, h3, h4, by rw [text_snoc (there_iff.2 ⟨h1, by omega⟩), text_snoc (there_iff.2 ⟨h3, by omega⟩)]; exact h5⟩
    · have hl := (List.getElem?_eq_some_iff.1 hx).1
      simp at hl
      have hin : i = T.length := by omega
      subst hin
      simp at hx
      subst hx
      obtain ⟨a1, a2⟩ := there_iff.1 ta
      obtain ⟨b1, b2⟩ := there_iff.1 tb
      exact ⟨a1, a2, b1, b2, by rw [text_snoc ta, text_snoc tb]⟩

/-- what was joined -/
def mergesS (T : List J) : List (ByteArray × ByteArray) := T.map fun x => (textS T x.a, textS T x.b)
end Go.Proofs.Ythinomhjhkhidaa.SymPure
