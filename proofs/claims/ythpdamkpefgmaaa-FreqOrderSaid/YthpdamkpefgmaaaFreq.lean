/- Layer 7: how often words are there, in memory; New, Count, Len, Add, walked. -/
import Derived.Test.YthpdamkpefgmaaaFreqPure
import Derived.Test.YthpdamkpefgmaaaMExt
import Derived.Test.YthpdamkpefgmaaaCAdd
import Derived.Test.YthpdamkpefgmaaaWMore
import Derived.Test.YthpdamkpefgmaaaWLast
import Derived.Deep.DrawnRows
import Derived.Deep.CutRange
import Derived.Deep.CutBlock
import Derived.StillTailTactics
import Derived.WalkSpells
namespace Go.Proofs.Ythpdamkpefgmaaa.Freq
open Go.RowKit Go.Maps Go.Proofs.YthpdamkpefgmaaaW.PrintWords Go.Proofs.YthpdamkpefgmaaaW.PrintLast Go.Proofs.YthpdamkpefgmaaaW.PrintMore Base Foot ExtTail SMap FreqPure CAdd
set_option linter.unusedVariables false
set_option linter.unusedSimpArgs false
attribute [local go_sem ↓] Go.wp_at_zero Go.wp_at_succ

/-- counts at block b -/
structure FT (w : World) (b : Nat) (mv : Value) (m : List Wd) : Prop where
  blk : w.heap[b]? = some (.cells #[mv] 73 (0, 0))
  map : (mv = .map none ∧ m = []) ∨ ∃ mb, mv = .map (some mb) ∧ PM w mb m
  pos : Pos m
def QFoot (b : Nat) (mv : Value) (k : Nat) : Prop := k = b ∨ mv = .map (some k)
section
variable {w w' : World} {b : Nat} {mv : Value} {m : List Wd} (h : FT w b mv m)
include h
theorem FT.keep (hk : ∀ k, QFoot b mv k → w'.heap[k]? = w.heap[k]?) : FT w' b mv m :=
  ⟨(hk b (.inl rfl)).trans h.blk, by
    rcases h.map with h1 | ⟨mb, rfl, h1⟩
    · exact .inl h1
    · exact .inr ⟨mb, rfl, h1.keep (hk mb (.inr rfl))⟩, h.pos⟩
theorem FT.lt : ∀ k, QFoot b mv k → k < w.heap.size := by
  rintro k (rfl | hk)
  · exact block_lt h.blk
  · rcases h.map with ⟨rfl, _⟩ | ⟨mb, rfl, h1⟩
    · cases hk
    · cases hk; exact h1.lt
theorem FT.below (hb : Below w.heap.size w w') : FT w' b mv m := h.keep fun k hk => hb.block k (h.lt k hk)
theorem FT.al : Al m := by
  rcases h.map with ⟨_, rfl⟩ | ⟨mb, _, h1⟩
  · exact fun _ hx => by cases hx
  · exact h1.al
theorem FT.nd : Nd m := by
  rcases h.map with ⟨_, rfl⟩ | ⟨mb, _, h1⟩
  · exact List.nodup_nil
  · exact h1.nd
theorem FT.res64 (p : ByteArray) : 0 ≤ res m p ∧ res m p ≤ 9223372036854775807 := res_bd h.pos p
set_option maxRecDepth 100000 in
theorem FT.look {p : ByteArray} (hp : SS p) : (Instr.lookup 71 mv (.string p) false).run Try.prog w = .ok (.int .i64 (res m p)) w := by
  rcases h.map with ⟨rfl, rfl⟩ | ⟨mb, rfl, h1⟩
  · exact Maps.look_nil false kyd Try.underlying71 (zero_i w) (key_of hp)
  · exact h1.look_run hp
theorem FT.len_run (ty : TypeId) : (Builtin.len_ #[71] ty #[mv]).run Try.prog w = .ok (.int .i64 (m.length : Int)) w := by
  rcases h.map with ⟨rfl, rfl⟩ | ⟨mb, rfl, h1⟩
  · exact Maps.len_nil Try.underlying71 ty
  · exact h1.len_run ty
end
/-- a block of other cells lies apart from counts -/
theorem FT.not_cells {w : World} {b : Nat} {mv : Value} {m : List Wd} (h : FT w b mv m) {k : Nat} {arr : Array Value} {t : TypeId} {fz : Nat × Nat} (hk : w.heap[k]? = some (.cells arr t fz)) (ht : t ≠ 73) : ¬ QFoot b mv k := by
  rintro (rfl | e)
  · have := h.blk
    rw [hk] at this
    cases this
    exact ht rfl
  · rcases h.map with ⟨rfl, _⟩ | ⟨mb, rfl, h1⟩
    · cases e
    · cases e
      obtain ⟨es, cl, h2⟩ := h1.map
      rw [hk] at h2
      cases h2
theorem foot_ge {w w' : World} {b B : Nat} {mv mv' : Value} (u : Upd (QFoot b mv) (QFoot b mv') w w') (h : ∀ k, QFoot b mv k → B ≤ k) (hB : B ≤ w.heap.size) : ∀ k, QFoot b mv' k → B ≤ k := fun k hk => (u.new k hk).elim (h k) (fun e => by omega)
theorem foot_new (b : Nat) : ∀ k, QFoot b (.map none) k → b ≤ k := by
  rintro k (rfl | e)
  · exact Nat.le_refl _
  · cases e
end Go.Proofs.Ythpdamkpefgmaaa.Freq
