/- Layer 10, plain: the order of items is one; where the symbols are there, it is whole. -/
import Derived.Test.YthpdamkpefgmaaaPairW
import Derived.Test.YthpdamkpefgmaaaHeapPure
namespace Go.Proofs.Ythpdamkpefgmaaa.BetOrd
open Base CmpW PairW SymPure HeapPure
set_option linter.unusedVariables false
set_option linter.unusedSimpArgs false

theorem cmpI_val (a b : Int) : cmpI a b = -1 ∨ cmpI a b = 0 ∨ cmpI a b = 1 := by unfold cmpI; split; exact .inl rfl; split; exact .inr (.inr rfl); exact .inr (.inl rfl)
theorem cmpS_val (a b : ByteArray) : cmpS a b = -1 ∨ cmpS a b = 0 ∨ cmpS a b = 1 := by unfold cmpS; split; exact .inl rfl; split; exact .inr (.inr rfl); exact .inr (.inl rfl)
theorem bl_asymm {a b : List UInt8} (h : Op.bytesLess a b = true) : Op.bytesLess b a = false := by
  have := less_yes h
  rw [Bool.or_eq_false_iff] at this
  exact this.1
theorem cmpS_neg {a b : ByteArray} : cmpS a b < 0 ↔ Op.bytesLess a.toList b.toList = true := by
  unfold cmpS
  by_cases h : Op.bytesLess a.toList b.toList = true
  · simp [h]
  · by_cases h2 : Op.bytesLess b.toList a.toList = true <;> simp [h, h2]
theorem cmpS_zero {a b : ByteArray} : cmpS a b = 0 ↔ a = b := by
  unfold cmpS
  by_cases h : Op.bytesLess a.toList b.toList = true
  · simp only [h, if_true]
    refine ⟨fun e => (by omega), fun e => ?_⟩
    rw [e, bl_irrefl] at h; cases h
  · by_cases h2 : Op.bytesLess b.toList a.toList = true
    · simp only [h, h2, if_true, if_false]
      refine ⟨fun e => (by simp at e), fun e => ?_⟩
      rw [e, bl_irrefl] at h2; cases h2
    · simp only [h, h2, if_false]
      refine ⟨fun _ => ?_, fun _ => (by simp)⟩
      have h2' : Op.bytesLess b.toList a.toList = false := by simpa using h2
      have := less_no h2'
      rw [Bool.or_eq_true] at this
      rcases this with h3 | h3
      · exact absurd h3 h
      · exact toList_inj (by simpa using h3)
theorem cmpI_neg {a b : Int} : cmpI a b < 0 ↔ a < b := by unfold cmpI; split <;> (try split) <;> omega
theorem cmpI_zero {a b : Int} : cmpI a b = 0 ↔ a = b := by unfold cmpI; split <;> (try split) <;> omega
/-- the order, as a proposition -/
def Lt (T : List J) (x y : (Int × Int) × Int) : Prop :=
  y.2 < x.2 ∨ (x.2 = y.2 ∧ (Op.bytesLess (textS T x.1.1).toList (textS T y.1.1).toList = true ∨ (textS T x.1.1 = textS T y.1.1 ∧ Op.bytesLess (textS T x.1.2).toList (textS T y.1.2).toList = true)))
theorem bet_iff {T : List J} {x y : (Int × Int) × Int} : betB T x y = true ↔ Lt T x y := by
  unfold betB cmpIt Lt ordS orI
  rw [decide_eq_true_eq]
  by_cases h1 : cmpI y.2 x.2 = 0
  · rw [if_pos h1]
    have e1 := cmpI_zero.1 h1
    by_cases h2 : cmpS (textS T x.1.1) (textS T y.1.1) = 0
    · rw [if_pos h2, cmpS_neg]
      have e2 := cmpS_zero.1 h2
      rw [e2, bl_irrefl]
      simp [e1]
    · rw [if_neg h2, cmpS_neg]
      have e2 := mt cmpS_zero.2 h2
      simp [e1, e2]
  · rw [if_neg h1, cmpI_neg]
    have e1 := mt cmpI_zero.2 h1
    constructor
    · exact fun h => .inl h
    · rintro (h | h)
      · exact h
      · exact absurd h.1.symm e1
theorem bl_trans {a b c : List UInt8} (h1 : Op.bytesLess a b = true) (h2 : Op.bytesLess b c = true) : Op.bytesLess a c = true := by
  rw [bl_lt, decide_eq_true_eq] at *
  exact List.lt_trans h1 h2
theorem bl_cases (a b : ByteArray) : Op.bytesLess a.toList b.toList = true ∨ a = b ∨ Op.bytesLess b.toList a.toList = true := by
  by_cases h : Op.bytesLess a.toList b.toList = true
  · exact .inl h
  · by_cases h2 : Op.bytesLess b.toList a.toList = true
    · exact .inr (.inr h2)
    · exact .inr (.inl (cmpS_zero.1 (by unfold cmpS; simp [h, h2])))
theorem bl_no {a b : ByteArray} (h : ¬ Op.bytesLess a.toList b.toList = true) : b = a ∨ Op.bytesLess b.toList a.toList = true := by
  rcases bl_cases a b with h1 | h1 | h1
  · exact absurd h1 h
  · exact .inl h1.symm
  · exact .inr h1
/-- what does not come ahead -/
def Ge (T : List J) (x y : (Int × Int) × Int) : Prop :=
  x.2 < y.2 ∨ (x.2 = y.2 ∧ (Op.bytesLess (textS T y.1.1).toList (textS T x.1.1).toList = true ∨ (textS T x.1.1 = textS T y.1.1 ∧ (textS T x.1.2 = textS T y.1.2 ∨ Op.bytesLess (textS T y.1.2).toList (textS T x.1.2).toList = true))))
theorem not_lt {T : List J} {x y : (Int × Int) × Int} : ¬ Lt T x y ↔ Ge T x y := by
  unfold Lt Ge
  constructor
  · intro h
    by_cases h1 : x.2 < y.2
    · exact .inl h1
    · have h2 : ¬ y.2 < x.2 := fun e => h (.inl e)
      have e : x.2 = y.2 := by omega
      refine .inr ⟨e, ?_⟩
      have h3 : ¬ Op.bytesLess (textS T x.1.1).toList (textS T y.1.1).toList = true := fun e3 => h (.inr ⟨e, .inl e3⟩)
      rcases bl_no h3 with h4 | h4
      · right
        refine ⟨h4.symm, ?_⟩
        have h5 : ¬ Op.bytesLess (textS T x.1.2).toList (textS T y.1.2).toList = true := fun e3 => h (.inr ⟨e, .inr ⟨h4.symm, e3⟩⟩)
        rcases bl_no h5 with h6 | h6
        · exact .inl h6.symm
        · exact .inr h6
      · exact .inl h4
  · rintro (h | ⟨e, h | ⟨e1, h⟩⟩) (g | ⟨g0, g | ⟨g1, g⟩⟩)
    · omega
    · omega
    · omega
    · omega
    · rw [bl_asymm h] at g; cases g
    · rw [g1, bl_irrefl] at h; cases h
    · omega
    · rw [e1, bl_irrefl] at g; cases g
    · rcases h with h | h
      · rw [h, bl_irrefl] at g; cases g
      · rw [bl_asymm h] at g; cases g
theorem bet_no {T : List J} {x y : (Int × Int) × Int} : betB T x y = false ↔ Ge T x y := by
  rw [← not_lt, ← bet_iff]
  cases betB T x y <;> simp
theorem Lt.trans {T : List J} {x y z : (Int × Int) × Int} (h : Lt T x y) (g : Lt T y z) : Lt T x z := by
  unfold Lt at *
  rcases h with h | ⟨h0, h | ⟨h1, h⟩⟩ <;> rcases g with g | ⟨g0, g | ⟨g1, g⟩⟩
  · exact .inl (by omega)
  · exact .inl (by omega)
  · exact .inl (by omega)
  · exact .inl (by omega)
  · exact .inr ⟨by omega, .inl (bl_trans h g)⟩
  · exact .inr ⟨by omega, .inl (by rw [← g1]; exact h)⟩
  · exact .inl (by omega)
  · exact .inr ⟨by omega, .inl (by rw [h1]; exact g)⟩
  · exact .inr ⟨by omega, .inr ⟨h1.trans g1, bl_trans h g⟩⟩
theorem Ge.trans {T : List J} {x y z : (Int × Int) × Int} (h : Ge T x y) (g : Ge T y z) : Ge T x z := by
  unfold Ge at *
  rcases h with h | ⟨h0, h | ⟨h1, h⟩⟩ <;> rcases g with g | ⟨g0, g | ⟨g1, g⟩⟩
  · exact .inl (by omega)
  · exact .inl (by omega)
  · exact .inl (by omega)
  · exact .inl (by omega)
  · exact .inr ⟨by omega, .inl (bl_trans g h)⟩
  · exact .inr ⟨by omega, .inl (by rw [← g1]; exact h)⟩
  · exact .inl (by omega)
  · exact .inr ⟨by omega, .inl (by rw [h1]; exact g)⟩
  · refine .inr ⟨by omega, .inr ⟨h1.trans g1, ?_⟩⟩
    rcases h with h | h <;> rcases g with g | g
    · exact .inl (h.trans g)
    · exact .inr (by rw [h]; exact g)
    · exact .inr (by rw [← g]; exact h)
    · exact .inr (bl_trans g h)
theorem Lt.irr {T : List J} (x : (Int × Int) × Int) : ¬ Lt T x x := by
  rw [not_lt]
  exact .inr ⟨rfl, .inr ⟨rfl, .inl rfl⟩⟩
theorem bet_ord (T : List J) : Ord (betB T) := by
  refine ⟨fun a b h => ?_, fun a b c h1 h2 => ?_⟩
  · rw [bet_no, ← not_lt]
    rw [bet_iff] at h
    exact fun g => Lt.irr a (Lt.trans h g)
  · rw [bet_no] at *
    exact Ge.trans h2 h1
/-- two items, neither of which is better, of symbols that are there: one -/
theorem bet_eq {T : List J} (hT : Made T) {x y : (Int × Int) × Int} (hx : there T x.1.1 = true ∧ there T x.1.2 = true) (hy : there T y.1.1 = true ∧ there T y.1.2 = true) (h1 : betB T x y = false) (h2 : betB T y x = false) : x = y := by
  rw [bet_no] at h1 h2
  unfold Ge at h1 h2
  rcases h1 with h | ⟨h0, h | ⟨h1, h⟩⟩ <;> rcases h2 with g | ⟨g0, g | ⟨g1, g⟩⟩
  · omega
  · omega
  · omega
  · omega
  · rw [bl_asymm h] at g; cases g
  · rw [g1, bl_irrefl] at h; cases h
  · omega
  · rw [h1, bl_irrefl] at g; cases g
  · have e1 := hT.inj hx.1 hy.1 h1
    have e2 : textS T x.1.2 = textS T y.1.2 := by
      rcases h with h | h
      · exact h
      · rcases g with g | g
        · exact g.symm
        · rw [bl_asymm h] at g; cases g
    have e3 := hT.inj hx.2 hy.2 e2
    exact Prod.ext (Prod.ext e1 e3) h0
end Go.Proofs.Ythpdamkpefgmaaa.BetOrd
