/- m[k] op= v on a map from pairs to whole numbers: the entry is got (made, where it isn't there), then stored. -/
import Derived.Test.YthinomhjhkhidaaMMapT
import Derived.WideKeyEntry
namespace Go.Proofs.Ythinomhjhkhidaa.PMap
open Go.RowKit Go.Maps Go.WideMaps Go.WideElems Go.ChangeMaps Go.MapKept Base Foot
set_option linter.unusedVariables false
set_option linter.unusedSimpArgs false

theorem setBlock_grown (w : World) (b : Nat) (o : Obj) : w.grownBy (setBlock w b o) (some b) :=
  ⟨rfl, rfl, rfl, by simp [setBlock], fun i _ hi => by simp only [setBlock]; rw [Array.getElem?_setIfInBounds_ne (fun e => hi (by rw [e]))]⟩
theorem setBlock_size (w : World) (b : Nat) (o : Obj) : (setBlock w b o).heap.size = w.heap.size := by simp [setBlock]
theorem setBlock_at {w : World} {b : Nat} {x : Obj} (h : w.heap[b]? = some x) (o : Obj) : (setBlock w b o).heap[b]? = some o := by
  have := block_lt h
  simp [setBlock, Array.getElem?_setIfInBounds, this]
set_option maxRecDepth 100000 in
theorem PM.entry {T : TypeId} (hT : Try.prog.underlying T = some (.map 94 3)) {w : World} {mb : Nat} {L : List (PK × Int)} (h : PM w mb L) (hl : L.length ≤ 1000000) {p : PK} (hp : P64 p) :
    ∃ (v0 : Value) (st : Nat) (W1 : World), (Instr.mapEntry T (.map (some mb)) (vP p)).run Try.prog w = .ok (.tuple #[v0, goInt st]) W1 ∧ (∃ L1, PM W1 mb L1 ∧ (look L1 p).getD 0 = (look L p).getD 0) ∧ w.grownBy W1 (some mb) ∧ W1.heap.size = w.heap.size ∧
      ∀ n, In64 n → ∃ W2, (Instr.entryStore T (.map (some mb)) (goInt st) (.int .i64 n)).run Try.prog W1 = .ok () W2 ∧ PM W2 mb (putL L p n) ∧ w.grownBy W2 (some mb) ∧ W2.heap.size = w.heap.size := by
  obtain ⟨D, ⟨es, clock, hb, F, hs, hD⟩, hR⟩ := h
  have hown : w.ownsMap Try.prog 94 (plainElem Try.prog 3) mb L.length D := ⟨es, clock, hb, F, hs, hD⟩
  obtain ⟨v0, st, es1, cl1, h1, h2, h3⟩ := entry_then_store klaw hT zero_i hb F (key_of hp)
  refine ⟨v0, st, _, h1, ?_, setBlock_grown _ _ _, setBlock_size _ _ _, fun n hn => ?_⟩
  · rcases klaw.find w (key_of hp) es.toList F.keys with ⟨g1, g2⟩ | ⟨j, e0, g1, g2, g3⟩
    · have g4 : (Instr.mapEntry T (.map (some mb)) (vP p)).run Try.prog w = .ok (.tuple #[.int .i64 0, goInt clock]) (setBlock w mb (.map (es.push ⟨vP p, .int .i64 0, clock⟩) (clock + 1))) := by
        simp [Instr.mapEntry, run_underlying hT, MapKept.run_getObj_map hb, klaw.check w false (key_of hp), g1, zero_i, MapKept.run_setObj_map _ hb, Result.andThen, setBlock]
      have g5 : (Instr.mapUpdate T (.map (some mb)) (vP p) (.int .i64 0)).run Try.prog w = .ok () (setBlock w mb (.map (es.push ⟨vP p, .int .i64 0, clock⟩) (clock + 1))) := by
        simp [Instr.mapUpdate, run_underlying hT, MapKept.run_getObj_map hb, klaw.check w false (key_of hp), g1, MapKept.run_setObj_map _ hb, Result.andThen, setBlock]
      have hz : In64 0 := by unfold In64; omega
      obtain ⟨w', u1, u2, _⟩ := hown.update kyd hT (by unfold maxLen; omega) (key_of hp) (plainElem_int Try.underlying3 (wf_of hz))
      rw [g5] at u1
      injection u1 with _ u1
      rw [h1] at g4
      injection g4 with _ g4
      rw [g4, u1]
      refine ⟨putL L p 0, PM.of u2 (hR.put (hown.tidy kyd) hp hz), ?_⟩
      rw [look_put_same]
      have q1 := PM.look_run_t hT (⟨D, hown, hR⟩ : PM w mb L) hp
      have q2 : (Instr.lookup T (.map (some mb)) (vP p) false).run Try.prog w = .ok (.int .i64 0) w := by
        simp [Instr.lookup, run_underlying hT, MapKept.run_getObj_map hb, klaw.check w es.isEmpty (key_of hp), g1, zero_i w, Result.andThen]
      rw [q1] at q2
      injection q2 with q2
      injection q2 with _ q2
      exact q2.symm
    · have hj : es[j]? = some e0 := by simpa using g2
      have hsame : es.modify j (fun e => { e with key := vP p }) = es := by
        apply Array.ext'
        rw [Array.toList_modify, modify_eq_set _ _ _ _ g2]
        have : ({ e0 with key := vP p } : MapEntry) = e0 := by rw [← g3]
        rw [this]
        exact set_self _ _ _ g2
      have g4 : (Instr.mapEntry T (.map (some mb)) (vP p)).run Try.prog w = .ok (.tuple #[e0.val, goInt e0.born]) (setBlock w mb (.map es clock)) := by
        simp [Instr.mapEntry, run_underlying hT, MapKept.run_getObj_map hb, klaw.check w false (key_of hp), g1, hj, g3, klaw.stays w (key_of hp), hsame, MapKept.run_setObj_map _ hb, Result.andThen, setBlock]
      rw [h1] at g4
      injection g4 with _ g4
      rw [g4]
      exact ⟨L, PM.keep ⟨D, hown, hR⟩ ((setBlock_at hb _).trans hb.symm), rfl⟩
  · obtain ⟨es', cl', k1, k2⟩ := h3 (setBlock w mb (.map es1 cl1)) (.int .i64 n) (setBlock_at hb _)
    obtain ⟨w', u1, u2, u3⟩ := hown.update kyd hT (by unfold maxLen; omega) (key_of hp) (plainElem_int Try.underlying3 (wf_of hn))
    rw [k2] at u1
    injection u1 with _ u1
    refine ⟨_, k1, PM.keep (w := w') (PM.of u2 (hR.put (hown.tidy kyd) hp hn)) ?_, ⟨rfl, rfl, rfl, by simp [setBlock], fun i hi hne => ?_⟩, by simp [setBlock]⟩
    · rw [← u1, setBlock_at hb, setBlock_at (setBlock_at hb _)]
    · rw [(setBlock_grown _ _ _).block i (by rw [setBlock_size]; exact hi) hne, (setBlock_grown _ _ _).block i hi hne]
end Go.Proofs.Ythinomhjhkhidaa.PMap
