/- Layer 9: the reference's table, walked: it answers as the table of joined symbols does. -/
import Derived.Test.YtbldnjpdeldabaaRefSymPure
import Derived.Test.YtbldnjpdeldabaaSym3
import Derived.Deep.RegionHeld3
import Derived.Deep.RegionLaw
import Derived.Deep.AppendLies
import Derived.Deep.DrawnRows
namespace Go.Proofs.Ytbldnjpdeldabaa.RefSym
open Go.RowKit Base Foot SymPure Sym Sym3
set_option linter.unusedVariables false
attribute [local go_sem ↓] Go.wp_at_zero Go.wp_at_succ

def RFoot (b : Nat) (tv pv : Value) (k : Nat) : Prop := k = b ∨ tv.ownBlock = some k ∨ pv.ownBlock = some k
/-- the reference's table at block b, all of whose blocks lie from B on -/
structure RefT (B : Nat) (w : World) (b : Nat) (tv pv : Value) (T : List J) : Prop where
  base : B ≤ b
  blk : w.heap[b]? = some (.cells #[tv, pv] 45 (0, 0))
  texts : w.ownsRow B 9 1 tv (256 + T.length) ((allTexts T).flatMap encS)
  pairs : w.ownsRow B 30 2 pv T.length (T.flatMap encP)
  small : T.length ≤ 1000000
  size : ∀ x ∈ T, x.s.size ≤ 65536
  good : Made T
theorem RefT.keep {B : Nat} {w w' : World} {b : Nat} {tv pv : Value} {T : List J} (h : RefT B w b tv pv T) (hk : ∀ k, RFoot b tv pv k → w'.heap[k]? = w.heap[k]?) : RefT B w' b tv pv T :=
  ⟨h.base, (hk b (.inl rfl)).trans h.blk, own_keep h.texts (fun k e => hk k (.inr (.inl e))), own_keep h.pairs (fun k e => hk k (.inr (.inr e))), h.small, h.size, h.good⟩
theorem RefT.foot_lt {B : Nat} {w : World} {b : Nat} {tv pv : Value} {T : List J} (h : RefT B w b tv pv T) : ∀ k, RFoot b tv pv k → B ≤ k ∧ k < w.heap.size := by
  rintro k (rfl | h1 | h1)
  · exact ⟨h.base, block_lt h.blk⟩
  · exact h.texts.lt k h1
  · exact h.pairs.lt k h1
theorem RefT.below {B : Nat} {w w' : World} {b : Nat} {tv pv : Value} {T : List J} (h : RefT B w b tv pv T) (hb : Below w.heap.size w w') : RefT B w' b tv pv T :=
  h.keep fun k hk => hb.block k (h.foot_lt k hk).2
theorem RefT.drew {B : Nat} {w : World} {b : Nat} {tv pv : Value} {T : List J} (h : RefT B w b tv pv T) : RefT B w.drew b tv pv T := h.keep fun _ _ => rfl
theorem RefT.slice {B : Nat} {w : World} {b : Nat} {tv pv : Value} {T : List J} (h : RefT B w b tv pv T) : ∃ g cap, tv = .slice (some ⟨g, 0, none⟩) (256 + T.length) cap ∧ 256 + T.length ≤ cap := by
  rcases h.texts.2 with ⟨rfl, h0⟩ | ⟨g, cap, cur, rfl, _, _, hc, _⟩
  · omega
  · exact ⟨g, cap, rfl, hc⟩
/-- the text of a symbol that is there, in memory -/
theorem RefT.atN {B : Nat} {w : World} {b : Nat} {tv pv : Value} {T : List J} (h : RefT B w b tv pv T) {i : Nat} {t : ByteArray} (hi : (allTexts T)[i]? = some t) :
    ∃ g cap, tv = .slice (some ⟨g, 0, none⟩) (256 + T.length) cap ∧ 256 + T.length ≤ cap ∧ w.cell? ⟨g, i, none⟩ = some (.string t) := by
  obtain ⟨g, cap, e, hc, h0⟩ := own_get encS_len h.texts (by omega) hi
  exact ⟨g, cap, e, hc, by have := h0 0 _ rfl; rwa [Nat.mul_one, Nat.add_zero] at this⟩
theorem RefT.at {B : Nat} {w : World} {b : Nat} {tv pv : Value} {T : List J} (h : RefT B w b tv pv T) {id : Int} (hid : there T id = true) :
    ∃ g cap, tv = .slice (some ⟨g, 0, none⟩) (256 + T.length) cap ∧ 256 + T.length ≤ cap ∧ w.cell? ⟨g, id.toNat, none⟩ = some (.string (textS T id)) := h.atN (allTexts_get hid)

set_option maxHeartbeats 400000 in
theorem there_any {B : Nat} {w : World} {b : Nat} {tv pv : Value} {T : List J} (h : RefT B w b tv pv T) (id : Int) (hid : In64 id) :
    Calls Try.prog 25 #[.pointer (some ⟨b, 0, none⟩), .int .i64 id] w fun e w' => e = .returned (.bool (there T id)) ∧ w = w' := by
  obtain ⟨g, cap, rfl, _⟩ := h.slice
  have c0 := cell_at h.blk 0
  simp only [List.getElem?_toArray, List.getElem?_cons_zero] at c0
  have hs := h.small
  clear h
  by_cases h1 : 0 ≤ id
  · by_cases h2 : id < 256 + (T.length : Int)
    · have HT := Lib.hid (there_iff.2 ⟨h1, h2⟩)
      go_enter Try.func25, Try.ntmps25
      go_wp2
      go_ret
      exact ⟨by rw [HT.out]; rfl, rfl⟩
    · have HT := Lib.hid (show there T id = false from by simp [there]; omega)
      go_enter Try.func25, Try.ntmps25
      go_wp2
      go_ret
      exact ⟨by rw [HT.out]; rfl, rfl⟩
  · have HT := Lib.hid (show there T id = false from by simp [there]; omega)
    go_enter Try.func25, Try.ntmps25
    go_wp2
    go_ret
    exact ⟨by rw [HT.out]; rfl, rfl⟩

set_option maxHeartbeats 400000 in
set_option maxRecDepth 100000 in
theorem find_any {B : Nat} {w : World} {b : Nat} {tv pv : Value} {T : List J} (h : RefT B w b tv pv T) (t : ByteArray) :
    Calls Try.prog 24 #[.pointer (some ⟨b, 0, none⟩), .string t] w fun e w' => e = .returned (.tuple #[.int .i64 (findS T t).1, .bool (findS T t).2]) ∧ w = w' := by
  obtain ⟨g, cap, rfl, hcap⟩ := h.slice
  have c0 := cell_at h.blk 0
  simp only [List.getElem?_toArray, List.getElem?_cons_zero] at c0
  have hs := h.small
  have H := Lib.hid h
  clear h
  go_enter Try.func24, Try.ntmps24
  go_wp2
  go_loop [6] (fun i => ∃ k : Nat, k ≤ 256 + T.length ∧ i = .int .i64 (k : Int) ∧ Hid (∀ j, j < k → (allTexts T)[j]? ≠ some t)) (fun i => 256 + T.length - (intOf i).toNat)
  case atStart => exact ⟨0, Nat.zero_le _, rfl, fun j hj => by omega⟩
  case round =>
    obtain ⟨k, hk, rfl, hne⟩ := hrel
    by_cases hlt : k < 256 + T.length
    · have hget : (allTexts T)[k]? = some ((allTexts T)[k]'(by rw [allTexts_len]; exact hlt)) := List.getElem?_eq_getElem (by rw [allTexts_len]; exact hlt)
      generalize (allTexts T)[k]'(by rw [allTexts_len]; exact hlt) = u at hget
      obtain ⟨ad, cap', e, hc', hcell⟩ := H.out.atN hget
      cases e
      by_cases hu : u = t
      · subst hu
        have HF := Lib.hid (first_is H.out.good hget)
        clear hget
        have hlt' : (k : Int) < 256 + (T.length : Int) := by omega
        go_wp2
        go_ret2
        exact ⟨by rw [HF.out]; rfl, rfl⟩
      · have hub : (u.toList == t.toList) = false := by rw [beq_toList]; simp [hu]
        have HN : Hid (∀ j, j < k + 1 → (allTexts T)[j]? ≠ some t) := by
          intro j hj
          by_cases hjk : j < k
          · exact hne j hjk
          · have : j = k := by omega
            subst this
            rw [hget]
            intro e
            cases e
            exact hu rfl
        clear hget
        have hlt' : (k : Int) < 256 + (T.length : Int) := by omega
        go_wp2
        go_round
        case rel => exact ⟨k + 1, by omega, by go_num, HN⟩
        case measure => simp [intOf]; omega
    · have HF := Lib.hid (show findS T t = (0, false) from none_is (fun i hi => hne i (by omega)))
      go_wp2
      go_ret2
      exact ⟨by rw [HF.out]; rfl, rfl⟩
end Go.Proofs.Ytbldnjpdeldabaa.RefSym
