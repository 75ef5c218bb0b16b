/- Layer 9, plain: the reference's list of texts answers as the table does. -/
import Derived.Test.YthinomhjhkhidaaSymPure2
namespace Go.Proofs.Ythinomhjhkhidaa.SymPure
open Base

def byteTexts : List ByteArray := (List.range 256).map fun (i : Nat) => byteS (i : Int)
def allTexts (T : List J) : List ByteArray := byteTexts ++ T.map J.s
theorem byteTexts_len : byteTexts.length = 256 := by simp [byteTexts]
theorem allTexts_len (T : List J) : (allTexts T).length = 256 + T.length := by simp [allTexts, byteTexts_len]
theorem byteTexts_get {i : Nat} (h : i < 256) : byteTexts[i]? = some (byteS (i : Int)) := by simp [byteTexts, h]
theorem allTexts_get {T : List J} {id : Int} (h : there T id = true) : (allTexts T)[id.toNat]? = some (textS T id) := by
  obtain ⟨h1, h2⟩ := there_iff.1 h
  unfold allTexts
  by_cases h3 : id < 256
  · rw [List.getElem?_append_left (by rw [byteTexts_len]; omega), byteTexts_get (by omega), text_low h1 h3]
    congr 2
    omega
  · have hlt : (id - 256).toNat < T.length := by omega
    rw [List.getElem?_append_right (by rw [byteTexts_len]; omega), byteTexts_len, text_high (by omega) (List.getElem?_eq_getElem hlt), List.getElem?_map]
    have : id.toNat - 256 = (id - 256).toNat := by omega
    rw [this, List.getElem?_eq_getElem hlt]
    rfl
theorem allTexts_snoc (T : List J) (x : J) : allTexts (T ++ [x]) = allTexts T ++ [x.s] := by simp [allTexts]

/-- a text that no text ahead is: where the table finds it -/
theorem first_is {T : List J} (hT : Made T) {t : ByteArray} {i : Nat} (hi : (allTexts T)[i]? = some t) : findS T t = ((i : Int), true) := by
  have hl := (List.getElem?_eq_some_iff.1 hi).1
  rw [allTexts_len] at hl
  have hth : there T (i : Int) = true := there_iff.2 ⟨by omega, by omega⟩
  have h2 := allTexts_get hth
  rw [Int.toNat_natCast, hi] at h2
  cases h2
  exact hT.find hth
theorem none_is {T : List J} {t : ByteArray} (h : ∀ i, i < 256 + T.length → (allTexts T)[i]? ≠ some t) : findS T t = (0, false) := by
  unfold findS
  by_cases h1 : t.size = 1
  · exfalso
    have hb : byteS ((t.toList.headD 0).toNat : Int) = t := by
      obtain ⟨⟨l⟩⟩ := t
      match l, h1 with
      | [c], _ => 
        have e : (⟨⟨[c]⟩⟩ : ByteArray).toList = [c] := by rw [ByteArray.toList_eq]
        simp [byteS, e]
    have hlt : (t.toList.headD 0).toNat < 256 := (t.toList.headD 0).toNat_lt
    refine h (t.toList.headD 0).toNat (by omega) ?_
    unfold allTexts
    rw [List.getElem?_append_left (by rw [byteTexts_len]; omega), byteTexts_get hlt, hb]
  · rw [if_neg h1]
    cases hx : idx T t with
    | none => rfl
    | some i =>
      exfalso
      unfold idx at hx
      rw [List.findIdx?_eq_some_iff_getElem] at hx
      obtain ⟨hi, he, _⟩ := hx
      refine h (256 + i) (by omega) ?_
      unfold allTexts
      rw [List.getElem?_append_right (by rw [byteTexts_len]; omega), byteTexts_len, List.getElem?_map, show 256 + i - 256 = i by omega, List.getElem?_eq_getElem hi]
      simp at he
      simp [he]
def encP (x : J) : List Value := [.int .i64 x.a, .int .i64 x.b]
theorem encP_len (x : J) : (encP x).length = 2 := rfl
def encS (x : ByteArray) : List Value := [.string x]
theorem encS_len (x : ByteArray) : (encS x).length = 1 := rfl
def encSS (x : ByteArray × ByteArray) : List Value := [.string x.1, .string x.2]
theorem encSS_len (x : ByteArray × ByteArray) : (encSS x).length = 2 := rfl
end Go.Proofs.Ythinomhjhkhidaa.SymPure
