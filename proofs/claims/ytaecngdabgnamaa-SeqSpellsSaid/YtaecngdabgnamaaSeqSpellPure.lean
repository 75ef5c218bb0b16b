/- Layer 11, plain: merges, one behind the other, and how they are undone. -/
import Derived.Test.YtaecngdabgnamaaSeqPure
namespace Go.Proofs.Ytaecngdabgnamaa.SeqPure
open PMap
set_option linter.unusedVariables false
set_option linter.unusedSimpArgs false

def mgs : List PK → Nat → List Int → List Int
  | [], _, B => B
  | p :: r, i, B => mgs r (i + 1) (mrg p (1000 + (i : Int)) B).1
theorem mgs_snoc : ∀ (a : List PK) (p : PK) (i : Nat) (B : List Int), mgs (a ++ [p]) i B = (mrg p (1000 + ((i + a.length : Nat) : Int)) (mgs a i B)).1
  | [], p, i, B => by simp [mgs]
  | q :: a, p, i, B => by
    rw [List.cons_append, mgs, mgs_snoc a p (i + 1), mgs, List.length_cons, show i + 1 + a.length = i + (a.length + 1) by omega]
theorem mgs_take {l : List PK} {k : Nat} {p : PK} (h : l[k]? = some p) (B : List Int) : mgs (l.take (k + 1)) 0 B = (mrg p (1000 + (k : Int)) (mgs (l.take k) 0 B)).1 := by
  obtain ⟨h1, h2⟩ := List.getElem?_eq_some_iff.1 h
  rw [List.take_succ_eq_append_getElem h1, h2, mgs_snoc, List.length_take, Nat.min_eq_left (by omega), Nat.zero_add]
theorem mrg_mem (p : PK) (z : Int) (l : List Int) : ∀ x ∈ (mrg p z l).1, x = z ∨ x ∈ l := by
  fun_induction mrg p z l with
  | case1 a b r h ih =>
    intro x hx
    rcases List.mem_cons.1 hx with rfl | hx
    · exact .inl rfl
    · rcases ih x hx with h1 | h1
      · exact .inl h1
      · exact .inr (by simp [h1])
  | case2 a b r h ih =>
    intro x hx
    rcases List.mem_cons.1 hx with rfl | hx
    · exact .inr (by simp)
    · rcases ih x hx with h1 | h1
      · exact .inl h1
      · exact .inr (List.mem_cons_of_mem _ h1)
  | case3 l h => exact fun x hx => .inr hx
theorem mgs_lt (B : List Int) (hB : ∀ x ∈ B, x < 1000) (l : List PK) : ∀ k, k ≤ l.length → ∀ x ∈ mgs (l.take k) 0 B, x < 1000 + (k : Int)
  | 0, _, x, hx => by have := hB x (by simpa [mgs] using hx); omega
  | k + 1, hk, x, hx => by
    rw [mgs_take (List.getElem?_eq_getElem (by omega : k < l.length))] at hx
    rcases mrg_mem _ _ _ x hx with h1 | h1
    · omega
    · have := mgs_lt B hB l k (by omega) x h1; omega
theorem mgs_len (B : List Int) (l : List PK) : ∀ k, k ≤ l.length → (mgs (l.take k) 0 B).length ≤ B.length
  | 0, _ => by simp [mgs]
  | k + 1, hk => by
    rw [mgs_take (List.getElem?_eq_getElem (by omega : k < l.length))]
    have := mgs_len B l k (by omega)
    have := mrg_len l[k] (1000 + (k : Int)) (mgs (l.take k) 0 B)
    omega
def unz (p : PK) (z : Int) (x : Int) : List Int := if x = z then [p.1, p.2] else [x]
theorem unmrg (p : PK) (z : Int) (l : List Int) (h : ∀ x ∈ l, x ≠ z) : (mrg p z l).1.flatMap (unz p z) = l := by
  revert h
  fun_induction mrg p z l with
  | case1 a b r h ih =>
    intro hz
    rw [List.flatMap_cons, ih (fun x hx => hz x (by simp [hx]))]
    simp [unz, h.1, h.2]
  | case2 a b r h ih =>
    intro hz
    rw [List.flatMap_cons, ih (fun x hx => hz x (by simp at hx; rcases hx with rfl | hx <;> simp [*]))]
    have : a ≠ z := hz a (by simp)
    simp [unz, this]
  | case3 l h =>
    intro hz
    match l, h, hz with
    | [], _, _ => rfl
    | [a], _, hz => have : a ≠ z := hz a (by simp); simp [unz, this]
    | a :: b :: r, h, _ => exact absurd rfl (h a b r)
theorem unz_step {l : List Int} {k : Nat} {x : Int} (p : PK) (z : Int) (h : l[k]? = some x) : (l.take (k + 1)).flatMap (unz p z) = (l.take k).flatMap (unz p z) ++ unz p z x := by
  obtain ⟨h1, h2⟩ := List.getElem?_eq_some_iff.1 h
  rw [List.take_succ_eq_append_getElem h1, h2, List.flatMap_append]
  simp
theorem unz_len (p : PK) (z : Int) : ∀ (l : List Int), (l.flatMap (unz p z)).length ≤ 2 * l.length
  | [] => by simp
  | x :: l => by
    have := unz_len p z l
    rw [List.flatMap_cons, List.length_append, List.length_cons]
    have : (unz p z x).length ≤ 2 := by unfold unz; split <;> simp
    omega
end Go.Proofs.Ytaecngdabgnamaa.SeqPure
