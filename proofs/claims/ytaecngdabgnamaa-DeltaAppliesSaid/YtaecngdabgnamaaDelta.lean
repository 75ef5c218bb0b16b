/- Layer 12: how often pairs are there, in memory; New, Add, Get, Len, walked. -/
import Derived.Test.YtaecngdabgnamaaMMapT
import Derived.Test.YtaecngdabgnamaaMExt
import Derived.Test.YtaecngdabgnamaaDSum
import Derived.Deep.DrawnRows
import Derived.Deep.CutRange
import Derived.Deep.CutBlock
import Derived.StillTailTactics
namespace Go.Proofs.Ytaecngdabgnamaa.Delta
open Go.RowKit Go.Maps Go.Proofs.YtaecngdabgnamaaW.PrintWords Go.Proofs.YtaecngdabgnamaaW.PrintLast Go.Proofs.YtaecngdabgnamaaW.PrintMore Base Foot ExtTail PMap DMath
set_option linter.unusedVariables false
set_option linter.unusedSimpArgs false
attribute [local go_sem ↓] Go.wp_at_zero Go.wp_at_succ

def res (m : List (PK × Int)) (p : PK) : Int := (PMap.look m p).getD 0
def setL (m : List (PK × Int)) (p : PK) (r : Int) : List (PK × Int) := if r = 0 then dropL m p else putL m p r
theorem drop_drop (m : List (PK × Int)) (p : PK) : dropL (dropL m p) p = dropL m p := by unfold dropL; simp
theorem drop_put (m : List (PK × Int)) (p : PK) (r : Int) : dropL (putL m p r) p = dropL m p := by
  unfold putL
  rw [show dropL ((p, r) :: dropL m p) p = dropL (dropL m p) p by unfold dropL; rw [List.filter_cons_of_neg (by simp)], drop_drop]
/-- counts at block b -/
structure DT (w : World) (b : Nat) (mv : Value) (m : List (PK × Int)) : Prop where
  blk : w.heap[b]? = some (.cells #[mv] 69 (0, 0))
  map : (mv = .map none ∧ m = []) ∨ ∃ mb, mv = .map (some mb) ∧ PM w mb m
  pos : ∀ x ∈ m, 0 < x.2
def DFoot (b : Nat) (mv : Value) (k : Nat) : Prop := k = b ∨ mv = .map (some k)
section
variable {w w' : World} {b : Nat} {mv : Value} {m : List (PK × Int)} (h : DT w b mv m)
include h
theorem DT.keep (hk : ∀ k, DFoot b mv k → w'.heap[k]? = w.heap[k]?) : DT w' b mv m :=
  ⟨(hk b (.inl rfl)).trans h.blk, by
    rcases h.map with h1 | ⟨mb, rfl, h1⟩
    · exact .inl h1
    · exact .inr ⟨mb, rfl, h1.keep (hk mb (.inr rfl))⟩, h.pos⟩
theorem DT.lt : ∀ k, DFoot b mv k → k < w.heap.size := by
  rintro k (rfl | hk)
  · exact block_lt h.blk
  · rcases h.map with ⟨rfl, _⟩ | ⟨mb, rfl, h1⟩
    · cases hk
    · cases hk; exact h1.lt
theorem DT.below (hb : Below w.heap.size w w') : DT w' b mv m := h.keep fun k hk => hb.block k (h.lt k hk)
theorem DT.al : Al m := by
  rcases h.map with ⟨_, rfl⟩ | ⟨mb, _, h1⟩
  · exact fun _ hx => by cases hx
  · exact h1.al
theorem DT.nd : Nd m := by
  rcases h.map with ⟨_, rfl⟩ | ⟨mb, _, h1⟩
  · exact List.nodup_nil
  · exact h1.nd
theorem DT.res64 (p : PK) : 0 ≤ res m p ∧ res m p ≤ 9223372036854775807 := by
  unfold res
  cases hl : PMap.look m p with
  | none => exact ⟨by simp, by simp⟩
  | some n =>
    have hm := look_some_mem hl
    have h1 := h.pos _ hm
    have h2 := (h.al _ hm).2
    unfold In64 at h2
    simp only [Option.getD_some]
    exact ⟨by simp at h1; omega, by omega⟩
set_option maxRecDepth 100000 in
theorem DT.look {p : PK} (hp : P64 p) : (Instr.lookup 67 mv (vP p) false).run Try.prog w = .ok (.int .i64 (res m p)) w := by
  rcases h.map with ⟨rfl, rfl⟩ | ⟨mb, rfl, h1⟩
  · exact Maps.look_nil false kyd Try.underlying67 (zero_i w) (key_of hp)
  · exact h1.look_run hp
theorem DT.len_run (ty : TypeId) : (Builtin.len_ #[67] ty #[mv]).run Try.prog w = .ok (.int .i64 (m.length : Int)) w := by
  rcases h.map with ⟨rfl, rfl⟩ | ⟨mb, rfl, h1⟩
  · exact Maps.len_nil Try.underlying67 ty
  · exact h1.len_run ty
end
/-- a block of other cells lies apart from counts -/
theorem DT.not_cells {w : World} {b : Nat} {mv : Value} {m : List (PK × Int)} (h : DT w b mv m) {k : Nat} {arr : Array Value} {t : TypeId} {fz : Nat × Nat} (hk : w.heap[k]? = some (.cells arr t fz)) (ht : t ≠ 69) : ¬ DFoot b mv k := by
  rintro (rfl | e)
  · have := h.blk
    rw [hk] at this
    cases this
    exact ht rfl
  · rcases h.map with ⟨rfl, _⟩ | ⟨mb, rfl, h1⟩
    · cases e
    · cases e
      obtain ⟨es, cl, h2⟩ := h1.map
      rw [hk] at h2
      cases h2
theorem foot_ge {w w' : World} {b B : Nat} {mv mv' : Value} (u : Upd (DFoot b mv) (DFoot b mv') w w') (h : ∀ k, DFoot b mv k → B ≤ k) (hB : B ≤ w.heap.size) : ∀ k, DFoot b mv' k → B ≤ k := fun k hk => (u.new k hk).elim (h k) (fun e => by omega)
theorem foot_new (b : Nat) : ∀ k, DFoot b (.map none) k → b ≤ k := by
  rintro k (rfl | e)
  · exact Nat.le_refl _
  · cases e
theorem set_pos {m : List (PK × Int)} (h : ∀ x ∈ m, 0 < x.2) {p : PK} {r : Int} (hr : 0 ≤ r) : ∀ x ∈ setL m p r, 0 < x.2 := by
  intro x hx
  unfold setL at hx
  split at hx
  · exact h x (List.mem_filter.1 hx).1
  · rename_i hne
    rcases List.mem_cons.1 hx with rfl | hx
    · simp; omega
    · exact h x (List.mem_filter.1 hx).1

set_option maxHeartbeats 800000 in
theorem new_any (w : World) : Calls Try.prog 22 #[] w fun e w' => e = .returned (.pointer (some ⟨w.heap.size, 0, none⟩)) ∧ DT w' w.heap.size (.map none) [] ∧ Below w.heap.size w w' := by
  go_enter Try.func22, Try.ntmps22
  go_wp2_with fail
  go_ret
  exact ⟨rfl, ⟨heap_alloc_new _ _, .inl ⟨rfl, rfl⟩, fun _ hx => by cases hx⟩, (Below.refl _ _).alloc (Nat.le_refl _) _⟩
set_option maxHeartbeats 800000 in
theorem get_nil (w : World) (p : PK) : Calls Try.prog 25 #[.pointer none, vP p] w fun e w' => e = .returned (.int .i64 0) ∧ Below w.heap.size w w' := by
  obtain ⟨p1, p2⟩ := p
  unfold vP
  go_enter Try.func25, Try.ntmps25
  go_wp2_with fail
  go_ret
  exact ⟨rfl, (Below.refl _ _).alloc (Nat.le_refl _) _⟩
set_option maxHeartbeats 800000 in
theorem len_nil (w : World) : Calls Try.prog 27 #[.pointer none] w fun e w' => e = .returned (.int .i64 0) ∧ w' = w := by
  go_enter Try.func27, Try.ntmps27
  go_wp2_with fail
  go_ret
  exact ⟨rfl, rfl⟩
set_option maxHeartbeats 800000 in
theorem add_nil (w : World) (p : PK) (by_ t : Int) : Calls Try.prog 23 #[.pointer none, vP p, .int .i64 by_, .int .i64 t] w fun e w' => e = .returned (.int .i64 1) ∧ Below w.heap.size w w' := by
  obtain ⟨p1, p2⟩ := p
  unfold vP
  go_enter Try.func23, Try.ntmps23
  go_wp2_with fail
  go_ret
  exact ⟨rfl, (Below.refl _ _).alloc (Nat.le_refl _) _⟩
set_option maxHeartbeats 800000 in
set_option maxRecDepth 100000 in
theorem get_any {w : World} {b : Nat} {mv : Value} {m : List (PK × Int)} (h : DT w b mv m) (p : PK) (hp : P64 p) :
    Calls Try.prog 25 #[.pointer (some ⟨b, 0, none⟩), vP p] w fun e w' => e = .returned (.int .i64 (res m p)) ∧ Below w.heap.size w w' := by
  obtain ⟨p1, p2⟩ := p
  have hb : Below w.heap.size w (w.alloc (.cells #[.int .i64 p1, .int .i64 p2] 23)) := (Below.refl _ _).alloc (Nat.le_refl _) _
  have h1 := h.below hb
  have c0 := cell_at h1.blk 0
  have x0 := cell_at (heap_alloc_new w (.cells #[.int .i64 p1, .int .i64 p2] 23)) 0
  have x1 := cell_at (heap_alloc_new w (.cells #[.int .i64 p1, .int .i64 p2] 23)) 1
  simp only [List.getElem?_toArray, List.getElem?_cons_zero, List.getElem?_cons_succ] at c0 x0 x1
  have lk := fun g => DT.look (h1.below (Ext.below (w := w.alloc (.cells #[.int .i64 p1, .int .i64 p2] 23)) g)) hp
  unfold vP at lk ⊢
  obtain ⟨r, hr⟩ : ∃ r, res m (p1, p2) = r := ⟨_, rfl⟩
  simp only [hr] at lk ⊢
  clear h1 h hr
  go_enter Try.func25, Try.ntmps25
  go_wp2_with fail
  generalize w.alloc (.cells #[.int .i64 p1, .int .i64 p2] 23) = w1 at *
  have g0 := fun g => Ext.cell (u := mv) c0 g
  have g1 := fun g => Ext.cell (u := .int .i64 p1) x0 g
  have g2 := fun g => Ext.cell (u := .int .i64 p2) x1 g
  refine wp_region_ext (by kernel_rfl) (by kernel_rfl) ?_
  repeat (quiet_step (fail))
  refine wpQuiet_nil ?_
  rintro w3 ⟨⟨_, b3⟩, rfl⟩
  go_wp2_with fail
  go_ret
  exact ⟨rfl, hb.trans (b3.mono hb.size)⟩
set_option maxHeartbeats 800000 in
theorem len_any {w : World} {b : Nat} {mv : Value} {m : List (PK × Int)} (h : DT w b mv m) :
    Calls Try.prog 27 #[.pointer (some ⟨b, 0, none⟩)] w fun e w' => e = .returned (.int .i64 (m.length : Int)) ∧ w' = w := by
  have c0 := cell_at h.blk 0
  simp only [List.getElem?_toArray, List.getElem?_cons_zero] at c0
  have hl := fun ty => h.len_run ty
  clear h
  go_enter Try.func27, Try.ntmps27
  go_wp2_with fail
  go_ret
  exact ⟨rfl, rfl⟩
end Go.Proofs.Ytaecngdabgnamaa.Delta
