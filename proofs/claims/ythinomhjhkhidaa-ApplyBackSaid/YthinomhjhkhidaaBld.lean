/- strings.Builder, with what each call turns. -/
import Derived.Test.YthinomhjhkhidaaFoot
import Derived.Lib.Builder
import Derived.Lib.AppendStr
import Derived.Lib.UnsafeStr
import Derived.Maps.AppendAt
import Derived.RegionTactic
import Derived.Deep.DrawnRows
namespace Go.Proofs.Ythinomhjhkhidaa.Bld
open Go.RowKit Base Foot
set_option linter.unusedVariables false
set_option linter.unusedSimpArgs false
attribute [local go_sem ↓] Go.wp_at_zero Go.wp_at_succ

theorem own_slice {w : World} {B : Nat} {t : TypeId} {m : Nat} {v : Value} {n : Nat} {cs : List Value} (h : w.ownsRow B t m v n cs) : ∃ A cap, v = .slice A n cap := by
  rcases h.2 with ⟨rfl, h0⟩ | ⟨g, cap, cur, rfl, _⟩
  · exact ⟨none, 0, by rw [h0]⟩
  · exact ⟨_, _, rfl⟩
def BF (b : Nat) (v : Value) (k : Nat) : Prop := k = b ∨ v.ownBlock = some k
structure Bld (B : Nat) (w : World) (b : Nat) (v : Value) (bs : List Value) : Prop where
  base : B ≤ b
  blk : ∃ p, (p = .pointer none ∨ p = .pointer (some ⟨b, 0, none⟩)) ∧ w.heap[b]? = some (.cells #[p, v] 98 (0, 0))
  row : w.ownsRow B 5 1 v bs.length bs
theorem Bld.keep {B : Nat} {w w' : World} {b : Nat} {v : Value} {bs : List Value} (h : Bld B w b v bs) (hk : ∀ k, BF b v k → w'.heap[k]? = w.heap[k]?) : Bld B w' b v bs := by
  obtain ⟨h1, ⟨p, hp, h2⟩, h3⟩ := h
  exact ⟨h1, ⟨p, hp, (hk b (.inl rfl)).trans h2⟩, own_keep h3 (fun k e => hk k (.inr e))⟩
theorem Bld.lt {B : Nat} {w : World} {b : Nat} {v : Value} {bs : List Value} (h : Bld B w b v bs) : ∀ k, BF b v k → B ≤ k ∧ k < w.heap.size := by
  rintro k (rfl | h1)
  · obtain ⟨p, _, h2⟩ := h.blk; exact ⟨h.base, block_lt h2⟩
  · exact h.row.lt k h1
theorem Bld.below {B : Nat} {w w' : World} {b : Nat} {v : Value} {bs : List Value} (h : Bld B w b v bs) (hb : Below w.heap.size w w') : Bld B w' b v bs := h.keep fun k hk => hb.block k (h.lt k hk).2
theorem Bld.drewB {B : Nat} {w : World} {b : Nat} {v : Value} {bs : List Value} (h : Bld B w b v bs) : Bld B w.drew b v bs := h.keep fun _ _ => rfl
theorem new_bld (w : World) : Bld w.heap.size (w.alloc (.cells #[.pointer none, .slice none 0 0] 98)) w.heap.size (.slice none 0 0) [] :=
  ⟨Nat.le_refl _, ⟨_, .inl rfl, heap_alloc_new _ _⟩, World.ownsRow_nil _ _ _ _⟩
theorem size_b : (Try.prog.info? 98).map (fun i => i.size) = some 2 := by kernel_rfl
theorem info5 : (Try.prog.info? 5).map (fun i => (i.zero, i.size, i.bytes)) = some (some (.int .u8 0), 1, 1) := by kernel_rfl

set_option maxHeartbeats 1000000 in
set_option maxRecDepth 100000 in
theorem copy_any {B : Nat} {w : World} {b : Nat} {v : Value} {bs : List Value} (h : Bld B w b v bs) :
    Calls Try.prog 73 #[.pointer (some ⟨b, 0, none⟩)] w fun e w' => e = .returned (.tuple #[]) ∧ Bld B w' b v bs ∧ Upd (BF b v) (BF b v) w w' := by
  obtain ⟨j, hj, hjs⟩ := Option.map_eq_some_iff.1 size_b
  obtain ⟨h1, ⟨p, hp, h2⟩, h3⟩ := h
  have c0 := cell_at h2 0
  have z0 := frozen_at h2 0
  simp only [List.getElem?_toArray, List.getElem?_cons_zero] at c0
  rcases hp with rfl | rfl
  · have hsh : w.shape? b = some (98, 2) := by simp [World.shape?, h2]
    go_enter Try.func73, Try.ntmps73
    go_wp2
    rw [Lib.run_to_unsafe w ⟨b, 0, none⟩ Try.underlying96 Try.underlying140 hj (by rw [hjs]; decide) hsh (Nat.zero_lt_succ 1)]
    simp only [Result.andThen]
    rw [Oper.upon_value]
    go_wp2
    rw [run_callFunc_extern Try.func85 (by kernel_rfl) (by kernel_rfl) (by kernel_rfl) (e := Extern.AbiNoEscape.same) (by kernel_rfl)]
    rw [Lib.run_noEscape]
    simp only [Result.andThen]
    rw [Oper.upon_value]
    go_wp2
    rw [Lib.run_from_unsafe w ⟨b, 0, none⟩ Try.underlying140 Try.underlying96 hj hsh (by kernel_rfl)]
    simp only [Result.andThen]
    rw [Oper.upon_value]
    go_wp2
    go_end0
    have hne : ∀ k, v.ownBlock = some k → k ≠ b := fun k hk e => by subst e; exact row_not_cells h3 h2 (by decide) hk
    exact ⟨rfl, ⟨h1, ⟨_, .inr rfl, by rw [set_at h2]; rfl⟩, own_keep h3 (fun k hk => set_blk_eq (hne k hk))⟩, Upd.set (.inl rfl)⟩
  · go_enter Try.func73, Try.ntmps73
    go_wp2
    rw [Lib.run_neq_ptr_same w _ Try.underlying96 hj]
    go_wp2
    go_end0
    exact ⟨rfl, ⟨h1, ⟨_, .inr rfl, h2⟩, h3⟩, Upd.refl⟩
theorem Bld.put {B : Nat} {w w1 : World} {b : Nat} {v v' : Value} {bs bs' : List Value} {p : Value} (h : Bld B w b v bs) (hp : p = .pointer none ∨ p = .pointer (some ⟨b, 0, none⟩)) (hb : w1.heap[b]? = some (.cells #[p, v] 98 (0, 0))) (hr : w1.ownsRow B 5 1 v' bs'.length bs') :
    Bld B (w1.setCell ⟨b, 1, none⟩ v') b v' bs' :=
  ⟨h.base, ⟨p, hp, by rw [set_at hb]; rfl⟩, own_keep hr (fun k hk => set_blk_eq (fun e => by subst e; exact row_not_cells hr hb (by decide) hk))⟩

set_option maxHeartbeats 1000000 in
set_option maxRecDepth 100000 in
theorem wstr_any {B : Nat} {w : World} {b : Nat} {v : Value} {bs : List Value} (h : Bld B w b v bs) (s : ByteArray) (hl : bs.length + s.size < 1000000000) :
    Calls Try.prog 56 #[.pointer (some ⟨b, 0, none⟩), .string s] w fun e w' => e = .returned (.tuple #[.int .i64 (s.size : Int), .nilIface]) ∧ (∃ v', Bld B w' b v' (bs ++ Lib.strCells s)) ∧ Below B w w' ∧ ∀ k, k < w.heap.size → ¬ BF b v k → w'.heap[k]? = w.heap[k]? := by
  obtain ⟨i0, hi, hz0, hz1, hz2⟩ := info_parts info5
  have hBw : B ≤ w.heap.size := Nat.le_trans h.base (Nat.le_of_lt (h.lt b (.inl rfl)).2)
  go_enter Try.func56, Try.ntmps56
  go_wp2_with fail
  refine (copy_any h).mono ?_
  rintro e w1 ⟨rfl, h1, u1⟩
  obtain ⟨p, hp, hbk⟩ := h1.blk
  have hrow := h1.row
  have c0 := cell_at hbk 1
  simp only [List.getElem?_toArray, List.getElem?_cons_zero, List.getElem?_cons_succ] at c0
  have hs1 := u1.size
  have hb1 := u1.below hBw (fun k hk => (h.lt k hk).1)
  have hne : some b ≠ v.ownBlock := fun e => row_not_cells hrow hbk (by decide) e.symm
  go_wp2_with (at_builtin; refine Lib.wpList_append_own_string _ rfl _ _ 76 9 rfl B 5 i0 Try.underlying76 Try.underlying9 hi hz0 hz1 hz2 _ _ _ rfl hrow s rfl (by unfold maxLen; omega) (by omega) (by omega) ?_; intro v' w2 hown2 hgrow2 hat2; obtain ⟨A2, cap2, rfl⟩ := own_slice hown2; have e2 := grown_blk hgrow2 hbk hne; have d0 := cell_at e2 1; have z0 := frozen_at e2 1; simp only [List.getElem?_toArray, List.getElem?_cons_zero, List.getElem?_cons_succ] at d0)
  go_ret2
  refine ⟨rfl, ⟨_, Bld.put h1 hp e2 (by simpa [Lib.strCells_length] using hown2)⟩, (hb1.grown hgrow2 (by omega) (fun k hk => (hrow.lt k hk).1)).setCell (p := ⟨b, 1, none⟩) h.base _, fun k hk hf => ?_⟩
  rw [set_blk_eq (fun e => hf (.inl e)), hgrow2.block k (by omega) (fun e => hf (.inr e.symm)), u1.block k hk hf]

set_option maxHeartbeats 1000000 in
set_option maxRecDepth 100000 in
theorem str_any {B : Nat} {w : World} {b : Nat} {v : Value} {l : List UInt8} (h : Bld B w b v (Lib.byteCells l)) (h0 : l ≠ []) (hl : l.length < 1000000000) :
    Calls Try.prog 57 #[.pointer (some ⟨b, 0, none⟩)] w fun e w' => e = .returned (.string ⟨l.toArray⟩) ∧ Below B w w' := by
  have hl0 : l.length ≠ 0 := by simpa using h0
  obtain ⟨p, hp, hbk⟩ := h.blk
  have hown := h.row
  rw [Lib.byteCells_length] at hown
  obtain ⟨g, cap, cur, rfl, hbg, hg, hnc, hcm, hcs, htake⟩ : ∃ g cap cur, v = .slice (some ⟨g, 0, none⟩) l.length cap ∧ B ≤ g ∧ w.heap[g]? = some (.cells cur 5 (0, 0)) ∧ l.length ≤ cap ∧ cap ≤ maxLen ∧ cur.size = cap * 1 ∧ cur.toList.take (l.length * 1) = Lib.byteCells l := by
    rcases hown.2 with ⟨_, hz⟩ | ⟨g, cap, cur, hv, r⟩
    · exact absurd hz hl0
    · exact ⟨g, cap, cur, hv, r⟩
  have c1 : w.drew.cell? ⟨b, 1, none⟩ = some (.slice (some ⟨g, 0, none⟩) l.length cap) := by
    have := cell_at hbk 1
    exact this
  have hSD : (Builtin.unsafeSliceData_ #[76] 121 #[.slice (some ⟨g, 0, none⟩) l.length cap]).run Try.prog w.drew = .ok (.pointer (some ⟨g, 0, none⟩)) w.drew :=
    Lib.run_unsafeSliceData_row _ _ _ _ _ _ (by omega)
  have hUS : (Builtin.unsafeString_ #[121, 3] 9 #[.pointer (some ⟨g, 0, none⟩), .int .i64 l.length]).run Try.prog w.drew = .ok (.string ⟨l.toArray⟩) (w.drew.freeze ⟨g, 0, none⟩ l.length) := by
    refine Lib.run_unsafeString_row w.drew 121 3 9 5 Try.underlying121 (by kernel_rfl) g cur.size (by have hg' : w.drew.heap[g]? = some (.cells cur 5 (0, 0)) := hg; simp [World.shape?, hg']) l h0 (by omega) (by omega) ?_
    intro j x hx
    have := hown.cells (g := g) rfl j (.int .u8 x.toNat) (by simp [Lib.byteCells, hx])
    exact this
  go_enter Try.func57, Try.ntmps57
  go_wp2
  go_region
  all_goals (go_wp2; go_ret; exact ⟨rfl, Lib.below_freeze (Below.drew (Below.refl B w)) (p := ⟨g, 0, none⟩) hbg _⟩)
end Go.Proofs.Ythinomhjhkhidaa.Bld
