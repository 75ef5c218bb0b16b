/- Maps from pairs to whole numbers whose type bears a name of its own: PMap's laws at any such type. -/
import Derived.Test.YthinomhjhkhidaaMMap
namespace Go.Proofs.Ythinomhjhkhidaa.PMap
open Go.RowKit Go.Maps Go.WideMaps Base Foot
set_option linter.unusedVariables false

section
variable {T : TypeId} (hT : Try.prog.underlying T = some (.map 94 3))
include hT
set_option maxRecDepth 100000 in
/-- m[k] -/
theorem PM.look_run_t {w : World} {mb : Nat} {m : List (PK × Int)} (h : PM w mb m) {p : PK} (hp : P64 p) : (Instr.lookup T (.map (some mb)) (vP p) false).run Try.prog w = .ok (.int .i64 ((PMap.look m p).getD 0)) w := by
  obtain ⟨D, h1, h2⟩ := h
  obtain ⟨c, h3, h4, _⟩ := h1.lookup_int kyd hT Try.underlying3 (zero_i w) (key_of hp)
  rw [h2.at_ p hp] at h4
  have e : c = (PMap.look m p).getD 0 := by simpa using h4.symm
  rw [h3, e]
set_option maxRecDepth 100000 in
/-- len(m) -/
theorem PM.len_run_t {w : World} {mb : Nat} {m : List (PK × Int)} (h : PM w mb m) (ty : TypeId) : (Builtin.len_ #[T] ty #[.map (some mb)]).run Try.prog w = .ok (.int .i64 (m.length : Int)) w := by
  obtain ⟨D, h1, h2⟩ := h
  rw [← h2.size]
  exact h1.len hT ty
variable {ops : Array Oper} {rest : List Oper} {o : Oper} {a : Act} {Q : Exit → Act → World → Prop} {w : World}
/-- m[k] = v -/
theorem wp_put_t (hg : o.guard = none) (m x v : Operand) (hop : o.op = Op.mapUpdate T m x v) {mb : Nat} {L : List (PK × Int)} (hm : a.eval m = .map (some mb)) (h : PM w mb L) (hl : L.length ≤ 1000000) {p : PK} {n : Int} (hx : a.eval x = vP p) (hv : a.eval v = .int .i64 n) (hp : P64 p) (hn : In64 n)
    (hK : ∀ w', PM w' mb (putL L p n) → w.grownBy w' (some mb) → wpList Try.prog ops Q rest (a.put o.dst undef) w') : wpList Try.prog ops Q (o :: rest) a w := by
  obtain ⟨D, h1, h2⟩ := h
  exact wpList_mapUpdate_own w hg m x v _ hop _ _ kyd hT _ mb _ D hm h1 (by unfold maxLen; omega) _ _ _ hx hv (key_of hp) _ _ (plainElem_int Try.underlying3 (wf_of hn)) (fun w' q1 q2 => hK w' (PM.of q1 (h2.put (h1.tidy kyd) hp hn)) q2)
/-- delete(m, k) -/
theorem wp_drop_t (hg : o.guard = none) (m x : Operand) (hop : o.op = Op.call { callee := Callee.builtin Builtin.delete, args := #[m, x], argTypes := #[T, 94] }) {mb : Nat} {L : List (PK × Int)} (hm : a.eval m = .map (some mb)) (h : PM w mb L) {p : PK} (hx : a.eval x = vP p) (hp : P64 p)
    (hK : ∀ w', PM w' mb (dropL L p) → w.grownBy w' (some mb) → wpList Try.prog ops Q rest (a.put o.dst (.tuple #[])) w') : wpList Try.prog ops Q (o :: rest) a w := by
  obtain ⟨D, h1, h2⟩ := h
  exact wpList_delete_own w hg m x _ _ hop _ kyd hT _ mb _ D hm h1 _ _ hx (key_of hp) (fun w' q1 q2 => hK w' (PM.of q1 (h2.drop (h1.tidy kyd) hp)) q2.grown)
/-- range m -/
theorem wp_range_t (hg : o.guard = none) (m : Operand) (hop : o.op = Op.range T m) {mb : Nat} {K : List (PK × Int)} (hm : a.eval m = .map (some mb)) (h : PM w mb K)
    (hK : ∀ w', RG w' mb w.heap.size K [] K K.length → w.grownBy w' none → w'.heap.size = w.heap.size + 1 → wpList Try.prog ops Q rest (a.put o.dst (.pointer (some ⟨w.heap.size, 0, none⟩))) w') : wpList Try.prog ops Q (o :: rest) a w := by
  obtain ⟨D, h1, h2⟩ := h
  refine wpList_range_own w hg m _ hop _ _ kyd hT _ mb _ D hm h1 fun w' r1 r2 r3 => hK w' ?_ r2 r3
  rw [h2.size] at r1
  exact ⟨D, _, _, r1, h2, fun p hp => h2.has_ p hp, by simp⟩
end
end Go.Proofs.Ythinomhjhkhidaa.PMap
