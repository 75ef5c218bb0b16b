/- Layer 7: texts counted one by one, plain; how texts of an argument read. -/
import Derived.Test.YthpdamkpefgmaaaRefFreqSame
import Derived.Test.YthpdamkpefgmaaaOpen
import Derived.ChangeArms
namespace Go.Proofs.Ythpdamkpefgmaaa.RFreq
open Go.RowKit Go.Maps Go.ChangeShapes Go.WideShapes Go.Deep Go.Proofs.YthpdamkpefgmaaaW.PrintWords Base Foot SMap FreqPure Freq
set_option linter.unusedVariables false
set_option linter.unusedSimpArgs false

/-- words that are read -/
def SrcW (w : World) (A : Option Addr) (l : List Wd) : Prop := Src.Src w 2 A l.length (l.flatMap encW)
theorem SrcW.below {w w' : World} {A : Option Addr} {l : List Wd} (h : SrcW w A l) (hb : Below w.heap.size w w') : SrcW w' A l := Src.Src.below h hb
theorem SrcW.of_row {w : World} {B : Nat} {A : Option Addr} {cap : Nat} {l : List Wd} (h : RowW B w (.slice A l.length cap) l) : SrcW w A l := Src.Src.of_own h
/-- behind k texts that are not empty -/
theorem ones_ok {l : List ByteArray} (hl : l.length ≤ 1000) : ∀ k, k ≤ l.length → (∀ j < k, ∀ s, l[j]? = some s → s.size ≠ 0) →
    ∃ m, addsW [] (ones (l.take k)) = (0, m) ∧ (∀ p, res m p ≤ k) ∧ Nd m ∧ Pos m ∧ (ofR [] (l.take k)).Perm m ∧ Rise (ofR [] (l.take k)) ∧ m.length ≤ k
  | 0, _, _ => ⟨[], rfl, fun p => by simp [res, SMap.look_nil], nd_nil, pos_nil, .refl _, List.Pairwise.nil, by simp⟩
  | k + 1, hk, hne => by
    obtain ⟨m, h1, h2, h3, h4, h5, h6, h7⟩ := ones_ok hl k (by omega) (fun j hj => hne j (by omega))
    have hx := List.getElem?_eq_getElem (l := l) (i := k) (by omega)
    generalize l[k] = s at hx
    have hs := hne k (by omega) s hx
    have hr := h2 s
    have hb := res_bd h4 s
    have he : addW m s 1 = (0, putL m s (res m s + 1)) := by
      unfold addW
      rw [if_neg (by omega), if_pos (by omega)]
    refine ⟨putL m s (res m s + 1), ?_, fun p => ?_, h3.put _ _, put_pos h4 s (by omega), ?_, ?_, ?_⟩
    · rw [ones_take hx, addsW_one h1 (s, 1) (by show (addW m s 1).1 = 0; rw [he]), he]
    · rw [res_put]
      have := h2 p
      split <;> omega
    · have := (add_same h3 h5 s 1).2
      rw [he] at this
      rw [ofR_take hx]
      exact this
    · rw [ofR_take hx]
      exact addR_rise h6 s 1
    · have := put_le m s (res m s + 1)
      omega
theorem ones_err {l : List ByteArray} {k : Nat} {s : ByteArray} (hx : l[k]? = some s) (hs : s.size = 0) {m : List Wd} (h : addsW [] (ones (l.take k)) = (0, m)) : addsW [] (ones l) = (1, m) := by
  have he : addW m s 1 = (1, m) := by unfold addW; rw [if_pos (.inl hs)]
  rw [ones_split hx, addsW_stop h (s, 1) _ (by show (addW m s 1).1 ≠ 0; rw [he]; exact (by decide : (1 : Int) ≠ 0))]
  exact he
section
variable {H : Type} {enc : TypeId × Value → H} {w : World} {base : Nat} {spare : Nat → Bool} {held : Bool}
set_option maxRecDepth 100000 in
theorem dec_Str (n : Nat) (cs : List Value) (y : DataW H × List MemPlace) (h : DataW.trod enc Try.prog w base spare held n 9 cs = some y) : ∃ a : ByteArray, Kd.string.K w a cs ∧ a.size ≤ maxLen := by
  obtain ⟨s, h1, h2, h3⟩ := DataW.trod_string Try.underlying9 h
  exact ⟨s, h1, h3⟩
end
theorem str_of {w : World} {A : Option Addr} {l : List ByteArray} (h : Kd.C Kd.string w A l.length l) : Str A l w := by
  intro j s hx
  have hk : j < l.length := (List.getElem?_eq_some_iff.1 hx).1
  obtain ⟨ad, e, hall⟩ := h.2.2 (by omega)
  obtain ⟨c, _, hK, hc⟩ := hall j s hx
  have hK' : c = [.string s] := hK
  subst hK'
  refine ⟨ad, e, ?_⟩
  have := hc 0 _ rfl
  have e1 : j * Kd.string.sz + 0 = j := by show j * 1 + 0 = j; omega
  rw [e1] at this
  exact this
theorem Str.below {w w' : World} {A : Option Addr} {l : List ByteArray} (h : Str A l w) (hb : Below w.heap.size w w') : Str A l w' := fun j s hx => by
  obtain ⟨ad, e, hc⟩ := h j s hx
  exact ⟨ad, e, (hb.cell (World.block_lt_of_cell? w _ hc)).trans hc⟩
theorem Str.take {w : World} {A : Option Addr} {l : List ByteArray} (h : Str A l w) (k : Nat) : Str A (l.take k) w := fun j s hx => by
  rw [List.getElem?_take] at hx
  split at hx
  · exact h j s hx
  · cases hx
/-- texts of an elder world, read beside a counter that is new -/
theorem Str.stands {w W : World} {A : Option Addr} {l : List ByteArray} {F : Nat → Prop} (h : Str A l w) (hb : Below w.heap.size w W) (hF : ∀ k, F k → w.heap.size ≤ k) : Stands F W (Str A l) := fun W' hk j s hx => by
  obtain ⟨ad, e, hc⟩ := h j s hx
  have hlt := World.block_lt_of_cell? w _ hc
  refine ⟨ad, e, ?_⟩
  have h1 := hk ad.block (by have := hb.size; have e2 : (ad.add j).block = ad.block := by unfold Addr.add; split <;> rfl
                             rw [e2] at hlt; omega) (fun hf => by have := hF _ hf; have e2 : (ad.add j).block = ad.block := by unfold Addr.add; split <;> rfl
                                                                  rw [e2] at hlt; omega)
  have e2 : (ad.add j).block = ad.block := by unfold Addr.add; split <;> rfl
  rw [e2] at hlt
  have h2 := hb.block ad.block hlt
  have h3 : W'.heap[(ad.add j).block]? = w.heap[(ad.add j).block]? := by rw [e2, h1, h2]
  have hc2 := hc
  unfold World.cell? at hc ⊢
  rw [h3]
  exact hc
end Go.Proofs.Ythpdamkpefgmaaa.RFreq
