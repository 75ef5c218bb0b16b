/- Maps from pairs of symbols to whole numbers, in memory: read as lists of entries without an order. A range over a map from pairs to whole numbers: what has come, what is left. -/
import Derived.Test.YthinomhjhkhidaaFoot
import Derived.DeepKeys4
import Derived.Maps.RangeWalk
import Derived.Maps.OwnOps
namespace Go.Proofs.Ythinomhjhkhidaa.PMap
open Go.RowKit Go.Maps Go.WideMaps Base Foot
set_option linter.unusedVariables false

abbrev PK := Int × Int
def P64 (p : PK) : Prop := In64 p.1 ∧ In64 p.2
def vP (p : PK) : Value := .agg #[.int .i64 p.1, .int .i64 p.2]
def plit (p : PK) : Lit := .string (keyBytes [.int .i64 p.1, .int .i64 p.2])
theorem laidOut : laidOutB Try.prog = true := by kernel_rfl
theorem row : (94 : TypeId) < Try.prog.types.size := of_decide_eq_true (by kernel_rfl)
theorem wide : (match Try.prog.underlying 94 with | some (.array _ _) | some (.struct _) => true | _ => false) = true := by kernel_rfl
set_option maxRecDepth 100000 in
theorem klaw : KeyLaw Try.prog 94 := deep_law_laid laidOut (m := 2) (by omega) row (by kernel_rfl) wide
theorem kyd : Keyed Try.prog 94 := Keyed.of_law klaw
theorem wf_of {a : Int} (h : In64 a) : (Lit.int .i64 a).wf = true := by
  obtain ⟨h1, h2⟩ := h
  simp [Lit.wf, IntKind.min, IntKind.max, IntKind.signed, IntKind.bits]
  omega
theorem of_wf {a : Int} (h : (Lit.int .i64 a).wf = true) : In64 a := by
  simp [Lit.wf, IntKind.min, IntKind.max, IntKind.signed, IntKind.bits] at h
  unfold In64
  omega
theorem cellsP : Try.prog.cellsOf 94 = 2 := by kernel_rfl
theorem cellsI : Try.prog.cellsOf 3 = 1 := by kernel_rfl
theorem keyTypeP : Try.prog.keyType 94 = true := by kernel_rfl
theorem infoP2 : ∃ m, Try.prog.types.size + 1 = m + 2 := ⟨Try.prog.types.size - 1, by have : (94 : Nat) < Try.prog.types.size := row; omega⟩
set_option maxRecDepth 100000 in
theorem key_of {p : PK} (h : P64 p) : keyOf Try.prog 94 (vP p) = some (plit p) := by
  obtain ⟨h1, h2⟩ := h
  obtain ⟨m, hm⟩ := infoP2
  have w1 := wf_of h1
  have w2 := wf_of h2
  have hf : (vP p).formed Try.prog 94 = true := by simp [vP, Value.formed, Try.underlying94, cellsP]
  unfold keyOf
  rw [Try.underlying94]
  simp only [keyTypeP, hf, Bool.and_self, if_true, hm]
  simp [Program.keyLits, Try.underlying94, Try.underlying3, cellsP, cellsI, vP, Value.cells, w1, w2, plit]
set_option maxRecDepth 100000 in
theorem kl_int {m : Nat} {v : Value} {ls : List Lit} (h : Try.prog.keyLits (m + 1) 3 [v] = some ls) : ∃ a, v = .int .i64 a ∧ (Lit.int .i64 a).wf = true ∧ ls = [.int .i64 a] := by
  unfold Program.keyLits at h
  rw [Try.underlying3] at h
  cases v with
  | int q a =>
    by_cases e : q = .i64
    · subst e
      by_cases w : (Lit.int .i64 a).wf = true
      · simp only [w, and_self, if_true, Option.some.injEq] at h
        exact ⟨a, rfl, w, h.symm⟩
      · simp [w] at h
    · simp [e] at h
  | _ => simp at h
set_option maxRecDepth 100000 in
theorem key_inv {v : Value} {l : Lit} (h : keyOf Try.prog 94 v = some l) : ∃ p : PK, v = vP p ∧ P64 p ∧ l = plit p := by
  obtain ⟨m, hm⟩ := infoP2
  have h0 := h
  unfold keyOf at h
  rw [Try.underlying94] at h
  simp only [keyTypeP, Bool.true_and, hm] at h
  split at h
  · rename_i hf
    cases v <;> simp [Value.formed, Try.underlying94, cellsP] at hf
    rename_i xs
    obtain ⟨xs⟩ := xs
    match xs, hf with
    | [x, y], _ =>
      rw [Option.map_eq_some_iff] at h
      obtain ⟨ls, h, _⟩ := h
      unfold Program.keyLits at h
      rw [Try.underlying94] at h
      simp only [Value.cells, cellsP, cellsI, List.length_cons, List.length_nil, List.mapM_cons, List.mapM_nil, List.drop_zero, List.drop_succ_cons, List.take_succ_cons, List.take_zero] at h
      split at h
      · rw [Option.map_eq_some_iff] at h
        obtain ⟨lss, h, _⟩ := h
        simp only [Option.bind_eq_bind, Option.bind_eq_some_iff] at h
        obtain ⟨l1, h1, l2, ⟨l3, h3, _⟩, _⟩ := h
        obtain ⟨a, rfl, w1, _⟩ := kl_int h1
        obtain ⟨c, rfl, w2, _⟩ := kl_int h3
        refine ⟨(a, c), rfl, ⟨of_wf w1, of_wf w2⟩, ?_⟩
        have := key_of (p := (a, c)) ⟨of_wf w1, of_wf w2⟩
        unfold vP at this
        rw [this] at h0
        exact (Option.some.inj h0).symm
      · cases h
  · cases h
theorem plit_key (p : PK) : WideAt.IsKeyLit (plit p) := show WideAt.IsKeyLit (.string _) from trivial
theorem plit_inj {p q : PK} (hp : P64 p) (hq : P64 q) (h : plit p = plit q) : p = q := by
  have h1 := key_of hp
  rw [h] at h1
  have := klaw.inj h1 (key_of hq)
  simp [vP] at this
  exact Prod.ext this.1 this.2

/-! ### the list of entries -/
def look (m : List (PK × Int)) (p : PK) : Option Int := (m.find? fun x => decide (x.1 = p)).map (·.2)
def dropL (m : List (PK × Int)) (p : PK) : List (PK × Int) := m.filter fun x => decide (x.1 ≠ p)
def putL (m : List (PK × Int)) (p : PK) (n : Int) : List (PK × Int) := (p, n) :: dropL m p
def Nd (m : List (PK × Int)) : Prop := (m.map (·.1)).Nodup
def Al (m : List (PK × Int)) : Prop := ∀ x ∈ m, P64 x.1 ∧ In64 x.2
theorem look_nil (p : PK) : look [] p = none := rfl
theorem look_cons (x : PK × Int) (m : List (PK × Int)) (p : PK) : look (x :: m) p = if x.1 = p then some x.2 else look m p := by
  unfold look
  by_cases h : x.1 = p <;> simp [h]
theorem look_drop_same (m : List (PK × Int)) (p : PK) : look (dropL m p) p = none := by
  induction m with
  | nil => rfl
  | cons x m ih =>
    unfold dropL at *
    by_cases h : x.1 = p
    · rw [List.filter_cons_of_neg (by simpa using h)]; exact ih
    · rw [List.filter_cons_of_pos (by simpa using h), look_cons, if_neg h, ih]
theorem look_drop_other {m : List (PK × Int)} {p q : PK} (h : q ≠ p) : look (dropL m p) q = look m q := by
  induction m with
  | nil => rfl
  | cons x m ih =>
    unfold dropL at *
    by_cases h1 : x.1 = p
    · rw [List.filter_cons_of_neg (by simpa using h1), look_cons, if_neg (by rw [h1]; exact Ne.symm h), ih]
    · rw [List.filter_cons_of_pos (by simpa using h1), look_cons, look_cons, ih]
theorem look_put_same (m : List (PK × Int)) (p : PK) (n : Int) : look (putL m p n) p = some n := by rw [putL, look_cons, if_pos rfl]
theorem look_put_other {m : List (PK × Int)} {p q : PK} (n : Int) (h : q ≠ p) : look (putL m p n) q = look m q := by
  rw [putL, look_cons, if_neg (Ne.symm h), look_drop_other h]
theorem look_some_mem {m : List (PK × Int)} {p : PK} {n : Int} (h : look m p = some n) : (p, n) ∈ m := by
  unfold look at h
  rw [Option.map_eq_some_iff] at h
  obtain ⟨x, h1, h2⟩ := h
  have := List.find?_some h1
  have hm := List.mem_of_find?_eq_some h1
  simp at this
  rw [← h2, ← this]
  exact hm
theorem look_none {m : List (PK × Int)} {p : PK} (h : look m p = none) : ∀ x ∈ m, x.1 ≠ p := by
  intro x hx e
  unfold look at h
  rw [Option.map_eq_none_iff, List.find?_eq_none] at h
  have := h x hx
  simp [e] at this
theorem mem_look {m : List (PK × Int)} (hd : Nd m) {x : PK × Int} (h : x ∈ m) : look m x.1 = some x.2 := by
  induction m with
  | nil => cases h
  | cons y m ih =>
    unfold Nd at hd
    rw [List.map_cons, List.nodup_cons] at hd
    rw [look_cons]
    rcases List.mem_cons.1 h with rfl | h
    · rw [if_pos rfl]
    · rw [if_neg (fun e => hd.1 (by rw [e]; exact List.mem_map_of_mem h)), ih hd.2 h]
theorem look_perm {m m' : List (PK × Int)} (hd : Nd m) (hp : m'.Perm m) (p : PK) : look m' p = look m p := by
  have hd' : Nd m' := (hp.map _).nodup_iff.2 hd
  cases h : look m' p with
  | none =>
    cases h2 : look m p with
    | none => rfl
    | some n => exact absurd rfl (look_none h _ (hp.mem_iff.2 (look_some_mem h2)))
  | some n => exact (mem_look hd (hp.mem_iff.1 (look_some_mem h))).symm
theorem Nd.drop {m : List (PK × Int)} (h : Nd m) (p : PK) : Nd (dropL m p) := by
  unfold Nd dropL at *
  exact h.sublist (List.Sublist.map _ List.filter_sublist)
theorem Nd.put {m : List (PK × Int)} (h : Nd m) (p : PK) (n : Int) : Nd (putL m p n) := by
  unfold Nd putL
  rw [List.map_cons, List.nodup_cons]
  refine ⟨fun hm => ?_, h.drop p⟩
  obtain ⟨x, hx, e⟩ := List.mem_map.1 hm
  have := (List.mem_filter.1 hx).2
  simp [e] at this
theorem Al.drop {m : List (PK × Int)} (h : Al m) (p : PK) : Al (dropL m p) := fun x hx => h x (List.mem_filter.1 hx).1
theorem Al.put {m : List (PK × Int)} (h : Al m) {p : PK} {n : Int} (hp : P64 p) (hn : In64 n) : Al (putL m p n) := fun x hx => by
  rcases List.mem_cons.1 hx with rfl | hx
  · exact ⟨hp, hn⟩
  · exact h.drop p x hx
theorem drop_len {m : List (PK × Int)} (h : Nd m) (p : PK) : (dropL m p).length + (if (look m p).isSome then 1 else 0) = m.length := by
  induction m with
  | nil => rfl
  | cons x m ih =>
    unfold Nd at h
    rw [List.map_cons, List.nodup_cons] at h
    have h1 := ih h.2
    rw [look_cons]
    unfold dropL at *
    by_cases e : x.1 = p
    · have hn : look m p = none := by
        cases hl : look m p with
        | none => rfl
        | some n => exact absurd (by rw [e]; exact List.mem_map_of_mem (f := fun x : PK × Int => x.1) (look_some_mem hl)) h.1
      rw [List.filter_cons_of_neg (by simpa using e), if_pos e]
      simp [hn] at h1 ⊢
      exact h1
    · rw [List.filter_cons_of_pos (by simpa using e), if_neg e, List.length_cons, List.length_cons]
      omega

/-! ### the datum -/
structure Rd (D : DataW Unit) (m : List (PK × Int)) : Prop where
  has_ : ∀ p, P64 p → has D (plit p) = (look m p).isSome
  at_ : ∀ p, P64 p → D.atKey (plit p) (.lit (.int .i64 0)) = .lit (.int .i64 ((look m p).getD 0))
  size : Maps.size D = m.length
  nd : Nd m
  al : Al m
theorem Rd.nil : Rd (.map []) [] := ⟨fun _ _ => rfl, fun _ _ => rfl, rfl, List.nodup_nil, fun _ h => by cases h⟩
theorem Rd.perm {D : DataW Unit} {m m' : List (PK × Int)} (h : Rd D m) (hp : m'.Perm m) : Rd D m' :=
  ⟨fun p h1 => by rw [look_perm h.nd hp, h.has_ p h1], fun p h1 => by rw [look_perm h.nd hp, h.at_ p h1], by rw [h.size, hp.length_eq], (hp.map _).nodup_iff.2 h.nd, fun x hx => h.al x (hp.mem_iff.1 hx)⟩
theorem Rd.put {D : DataW Unit} {m : List (PK × Int)} (h : Rd D m) (hD : Tidy D) {p : PK} (hp : P64 p) {n : Int} (hn : In64 n) : Rd (D.put (plit p) (.lit (.int .i64 n))) (putL m p n) := by
  refine ⟨fun q hq => ?_, fun q hq => ?_, ?_, h.nd.put p n, h.al.put hp hn⟩
  · by_cases e : q = p
    · rw [e, has_put_same hD.isMap (plit_key p), look_put_same]; rfl
    · rw [has_put_other (fun e2 => e (plit_inj hq hp e2)), h.has_ q hq, look_put_other n e]
  · by_cases e : q = p
    · rw [e, atKey_put_same hD.isMap (plit_key p), look_put_same]; rfl
    · rw [atKey_put_other (fun e2 => e (plit_inj hq hp e2)), h.at_ q hq, look_put_other n e]
  · rw [size_put hD, h.has_ p hp, h.size, putL, List.length_cons]
    have := drop_len h.nd p
    cases hl : (look m p).isSome <;> simp [hl] at this ⊢ <;> omega
theorem Rd.drop {D : DataW Unit} {m : List (PK × Int)} (h : Rd D m) (hD : Tidy D) {p : PK} (hp : P64 p) : Rd (D.del (plit p)) (dropL m p) := by
  refine ⟨fun q hq => ?_, fun q hq => ?_, ?_, h.nd.drop p, h.al.drop p⟩
  · by_cases e : q = p
    · rw [e, has_del_same, look_drop_same]; rfl
    · rw [has_del_other (fun e2 => e (plit_inj hq hp e2)), h.has_ q hq, look_drop_other e]
  · by_cases e : q = p
    · rw [e, atKey_del_same, look_drop_same]; rfl
    · rw [atKey_del_other (fun e2 => e (plit_inj hq hp e2)), h.at_ q hq, look_drop_other e]
  · have h1 := size_del (k := plit p) hD
    have h2 := drop_len h.nd p
    rw [h.has_ p hp, h.size] at h1
    cases hl : (look m p).isSome <;> simp [hl] at h1 h2 <;> omega

/-! ### in memory -/
/-- block mb of w is a map with these entries -/
def PM (w : World) (mb : Nat) (m : List (PK × Int)) : Prop := ∃ D : DataW Unit, w.ownsMap Try.prog 94 (plainElem Try.prog 3) mb m.length D ∧ Rd D m
theorem tight {w : World} {b n : Nat} {D : DataW Unit} {P : Program} {k : TypeId} {R : Value → Option (DataW Unit × List MemPlace)} (h : w.ownsMap P k R b n D) : w.ownsMap P k R b (Maps.size D) D := by
  obtain ⟨es, clock, hb, F, _, rfl⟩ := h
  exact ⟨es, clock, hb, F, by simp [Maps.size, Go.length_sorted], rfl⟩
theorem PM.of {w : World} {mb n : Nat} {D : DataW Unit} {m : List (PK × Int)} (h : w.ownsMap Try.prog 94 (plainElem Try.prog 3) mb n D) (hr : Rd D m) : PM w mb m := ⟨D, by rw [← hr.size]; exact tight h, hr⟩
theorem PM.made (w : World) : PM (w.alloc (.map #[] 0)) w.heap.size [] := ⟨_, World.ownsMap_made _ _ _ _, Rd.nil⟩
theorem PM.keep {w w' : World} {mb : Nat} {m : List (PK × Int)} (h : PM w mb m) (hk : w'.heap[mb]? = w.heap[mb]?) : PM w' mb m := by
  obtain ⟨D, h1, h2⟩ := h
  exact ⟨D, map_keep h1 hk, h2⟩
theorem PM.lt {w : World} {mb : Nat} {m : List (PK × Int)} (h : PM w mb m) : mb < w.heap.size := by
  obtain ⟨D, h1, _⟩ := h
  exact h1.lt
theorem PM.below {w w' : World} {mb : Nat} {m : List (PK × Int)} (h : PM w mb m) (hb : Below w.heap.size w w') : PM w' mb m := h.keep (hb.block _ h.lt)
theorem PM.perm {w : World} {mb : Nat} {m m' : List (PK × Int)} (h : PM w mb m) (hp : m'.Perm m) : PM w mb m' := by
  obtain ⟨D, h1, h2⟩ := h
  exact ⟨D, by rw [hp.length_eq]; exact h1, h2.perm hp⟩
theorem PM.nd {w : World} {mb : Nat} {m : List (PK × Int)} (h : PM w mb m) : Nd m := by obtain ⟨D, _, h2⟩ := h; exact h2.nd
theorem PM.al {w : World} {mb : Nat} {m : List (PK × Int)} (h : PM w mb m) : Al m := by obtain ⟨D, _, h2⟩ := h; exact h2.al
theorem PM.map {w : World} {mb : Nat} {m : List (PK × Int)} (h : PM w mb m) : ∃ es cl, w.heap[mb]? = some (.map es cl) := by
  obtain ⟨D, ⟨es, cl, h1, _⟩, _⟩ := h
  exact ⟨es, cl, h1⟩
theorem zero_i (w : World) : (zeroValue 3).run Try.prog w = .ok (.int .i64 0) w := by kernel_rfl

set_option maxRecDepth 100000 in
/-- m[k] -/
theorem PM.look_run {w : World} {mb : Nat} {m : List (PK × Int)} (h : PM w mb m) {p : PK} (hp : P64 p) : (Instr.lookup 88 (.map (some mb)) (vP p) false).run Try.prog w = .ok (.int .i64 ((PMap.look m p).getD 0)) w := by
  obtain ⟨D, h1, h2⟩ := h
  obtain ⟨c, h3, h4, _⟩ := h1.lookup_int kyd Try.underlying88 Try.underlying3 (zero_i w) (key_of hp)
  rw [h2.at_ p hp] at h4
  have e : c = (PMap.look m p).getD 0 := by simpa using h4.symm
  rw [h3, e]
set_option maxRecDepth 100000 in
/-- len(m) -/
theorem PM.len_run {w : World} {mb : Nat} {m : List (PK × Int)} (h : PM w mb m) (ty : TypeId) : (Builtin.len_ #[88] ty #[.map (some mb)]).run Try.prog w = .ok (.int .i64 (m.length : Int)) w := by
  obtain ⟨D, h1, h2⟩ := h
  rw [← h2.size]
  exact h1.len Try.underlying88 ty
section
variable {ops : Array Oper} {rest : List Oper} {o : Oper} {a : Act} {Q : Exit → Act → World → Prop} {w : World}
/-- m[k] = v -/
theorem wp_put (hg : o.guard = none) (m x v : Operand) (hop : o.op = Op.mapUpdate 88 m x v) {mb : Nat} {L : List (PK × Int)} (hm : a.eval m = .map (some mb)) (h : PM w mb L) (hl : L.length ≤ 1000000) {p : PK} {n : Int} (hx : a.eval x = vP p) (hv : a.eval v = .int .i64 n) (hp : P64 p) (hn : In64 n)
    (hK : ∀ w', PM w' mb (putL L p n) → w.grownBy w' (some mb) → wpList Try.prog ops Q rest (a.put o.dst undef) w') : wpList Try.prog ops Q (o :: rest) a w := by
  obtain ⟨D, h1, h2⟩ := h
  exact wpList_mapUpdate_own w hg m x v _ hop _ _ kyd Try.underlying88 _ mb _ D hm h1 (by unfold maxLen; omega) _ _ _ hx hv (key_of hp) _ _ (plainElem_int Try.underlying3 (wf_of hn)) (fun w' q1 q2 => hK w' (PM.of q1 (h2.put (h1.tidy kyd) hp hn)) q2)
/-- delete(m, k) -/
theorem wp_drop (hg : o.guard = none) (m x : Operand) (hop : o.op = Op.call { callee := Callee.builtin Builtin.delete, args := #[m, x], argTypes := #[88, 94] }) {mb : Nat} {L : List (PK × Int)} (hm : a.eval m = .map (some mb)) (h : PM w mb L) {p : PK} (hx : a.eval x = vP p) (hp : P64 p)
    (hK : ∀ w', PM w' mb (dropL L p) → w.grownBy w' (some mb) → wpList Try.prog ops Q rest (a.put o.dst (.tuple #[])) w') : wpList Try.prog ops Q (o :: rest) a w := by
  obtain ⟨D, h1, h2⟩ := h
  exact wpList_delete_own w hg m x _ _ hop _ kyd Try.underlying88 _ mb _ D hm h1 _ _ hx (key_of hp) (fun w' q1 q2 => hK w' (PM.of q1 (h2.drop (h1.tidy kyd) hp)) q2.grown)
end
end Go.Proofs.Ythinomhjhkhidaa.PMap

namespace Go.Proofs.Ythinomhjhkhidaa.PMap
open Go.RowKit Go.Maps Go.WideMaps Base Foot
set_option linter.unusedVariables false

/-- the range r over the map b of entries K: acc has come, rest is left -/
def RG (w : World) (b r : Nat) (K acc rest : List (PK × Int)) (cnt : Nat) : Prop :=
  ∃ (D : DataW Unit) (n : Nat) (left : Lit → Bool), w.ranges Try.prog 94 (plainElem Try.prog 3) b r n D left cnt ∧ Rd D K ∧ (∀ p, P64 p → left (plit p) = (look rest p).isSome) ∧ (acc ++ rest).Perm K
theorem RG.cnt {w : World} {b r : Nat} {K acc rest : List (PK × Int)} {cnt : Nat} (h : RG w b r K acc rest cnt) : w.rangeLeft b r = cnt := by
  obtain ⟨D, n, left, h1, _⟩ := h
  exact h1.left_eq
theorem RG.pm {w : World} {b r : Nat} {K acc rest : List (PK × Int)} {cnt : Nat} (h : RG w b r K acc rest cnt) : PM w b K := by
  obtain ⟨D, n, left, h1, h2, _⟩ := h
  exact PM.of h1.owns h2
theorem RG.kept {w w' : World} {b r : Nat} {K acc rest : List (PK × Int)} {cnt : Nat} (h : RG w b r K acc rest cnt) (hb : w'.heap[b]? = w.heap[b]?) (hr : w'.heap[r]? = w.heap[r]?) : RG w' b r K acc rest cnt := by
  obtain ⟨D, n, left, ⟨es, clock, since, seen, c0, h1, h2, h3, h4, h5, h6⟩, h7⟩ := h
  exact ⟨D, n, left, ⟨es, clock, since, seen, c0, hb.trans h1, h2, h3, h4, hr.trans h5, h6⟩, h7⟩
theorem RG.perm {w : World} {b r : Nat} {K acc rest : List (PK × Int)} {cnt : Nat} (h : RG w b r K acc rest cnt) : (acc ++ rest).Perm K := by
  obtain ⟨D, n, left, _, _, _, h4⟩ := h
  exact h4
theorem RG.iter {w : World} {b r : Nat} {K acc rest : List (PK × Int)} {cnt : Nat} (h : RG w b r K acc rest cnt) : ∃ since seen c0, w.heap[r]? = some (.mapIter (some b) since seen c0) := by
  obtain ⟨D, n, left, ⟨es, clock, since, seen, c0, h1, h2, h3, h4, h5, h6⟩, h7⟩ := h
  exact ⟨since, seen, c0, h5⟩
theorem RG.al {w : World} {b r : Nat} {K acc rest : List (PK × Int)} {cnt : Nat} (h : RG w b r K acc rest cnt) : Al K := by
  obtain ⟨D, n, left, _, h2, _⟩ := h
  exact h2.al
section
variable {ops : Array Oper} {rest' : List Oper} {o : Oper} {a : Act} {Q : Exit → Act → World → Prop} {w : World}
/-- range m -/
theorem wp_range (hg : o.guard = none) (m : Operand) (hop : o.op = Op.range 88 m) {mb : Nat} {K : List (PK × Int)} (hm : a.eval m = .map (some mb)) (h : PM w mb K)
    (hK : ∀ w', RG w' mb w.heap.size K [] K K.length → w.grownBy w' none → w'.heap.size = w.heap.size + 1 → wpList Try.prog ops Q rest' (a.put o.dst (.pointer (some ⟨w.heap.size, 0, none⟩))) w') : wpList Try.prog ops Q (o :: rest') a w := by
  obtain ⟨D, h1, h2⟩ := h
  refine wpList_range_own w hg m _ hop _ _ kyd Try.underlying88 _ mb _ D hm h1 fun w' r1 r2 r3 => hK w' ?_ r2 r3
  rw [h2.size] at r1
  exact ⟨D, _, _, r1, h2, fun p hp => h2.has_ p hp, by simp⟩
/-- the next entry -/
theorem wp_next (hg : o.guard = none) (it : Operand) (hop : o.op = Op.next it false) {b r cnt : Nat} {K acc rest : List (PK × Int)} (hit : a.eval it = .pointer (some ⟨r, 0, none⟩)) (h : RG w b r K acc rest cnt)
    (hDone : rest = [] → wpList Try.prog ops Q rest' (a.put o.dst (.tuple #[.bool false])) w)
    (hMore : ∀ (x : PK) (c : Int) (rest2 : List (PK × Int)) (w' : World) (cnt' : Nat), P64 x → In64 c → (x, c) ∈ rest → RG w' b r K (acc ++ [(x, c)]) rest2 cnt' → cnt' < cnt → w.grownBy w' (some r) → w'.heap.size = w.heap.size →
      (Instr.entry (.pointer (some ⟨r, 0, none⟩))).run Try.prog w' = .ok (.tuple #[vP x, .int .i64 c]) w' → wpList Try.prog ops Q rest' (a.put o.dst (.tuple #[.bool true, vP x, .int .i64 c])) w') :
    wpList Try.prog ops Q (o :: rest') a w := by
  obtain ⟨D, n, left, h1, h2, h3, h4⟩ := h
  have hal : Al rest := fun x hx => h2.al x (h4.mem_iff.1 (List.mem_append_right _ hx))
  have hndr : Nd rest := by
    have : Nd (acc ++ rest) := (h4.map _).nodup_iff.2 h2.nd
    unfold Nd at *
    rw [List.map_append] at this
    exact (List.nodup_append.1 this).2.1
  refine wpList_next_ranges w hg it hop _ kyd (plainElem Try.prog 3) vP (Value.int .i64) (fun key kl hkey => ?_) (fun v y hv => ?_) b r n D left cnt hit h1 (fun h0 hl => hDone ?_) ?_
  · obtain ⟨p, rfl, _⟩ := key_inv hkey
    exact ⟨p, rfl⟩
  · obtain ⟨c, rfl, _⟩ := plainElem_int_inv Try.underlying3 hv
    exact ⟨c, rfl⟩
  · cases rest with
    | nil => rfl
    | cons x t =>
      have := h3 x.1 (hal x (by simp)).1
      rw [hl, look_cons, if_pos rfl] at this
      cases this
  · intro x c kl y w' cnt' hkey hlk hv hat hrg hlt hgr hsz hen
    obtain ⟨p, e1, hp, rfl⟩ := key_inv hkey
    have e2 : x = p := by
      simp [vP] at e1
      exact Prod.ext e1.1 e1.2
    subst e2
    obtain ⟨c', e3, rfl, hwc⟩ := plainElem_int_inv Try.underlying3 hv
    injection e3 with _ e3
    subst e3
    rw [h3 x hp] at hlk
    obtain ⟨c2, hc2⟩ := Option.isSome_iff_exists.1 hlk
    have hm := look_some_mem hc2
    have hmK : (x, c2) ∈ K := h4.mem_iff.1 (List.mem_append_right _ hm)
    have hlK := mem_look h2.nd hmK
    have hc := h2.at_ x hp
    rw [hat, hlK] at hc
    have e4 : c = c2 := by simpa using hc
    subst e4
    have hperm : ∀ (l : List (PK × Int)), Nd l → (x, c) ∈ l → ((x, c) :: dropL l x).Perm l := by
      intro l
      induction l with
      | nil => intro _ h; cases h
      | cons z t ih =>
        intro hd hz
        have hd2 := hd
        unfold Nd at hd2
        rw [List.map_cons, List.nodup_cons] at hd2
        by_cases e : z.1 = x
        · have ez : (x, c) = z := by
            rcases List.mem_cons.1 hz with h | h
            · exact h
            · exact absurd (by rw [e]; exact List.mem_map_of_mem (f := fun x : PK × Int => x.1) h) hd2.1
          subst ez
          have : dropL ((x, c) :: t) x = t := by
            unfold dropL
            rw [List.filter_cons_of_neg (by simp)]
            refine List.filter_eq_self.2 fun u hu => ?_
            have : u.1 ≠ x := fun e => hd2.1 (by have h9 := List.mem_map_of_mem (f := fun x : PK × Int => x.1) hu; simp only [e] at h9; exact h9)
            simpa using this
          rw [this]
        · have hz2 : (x, c) ∈ t := by
            rcases List.mem_cons.1 hz with h | h
            · exact absurd (by rw [← h]) e
            · exact h
          have : dropL (z :: t) x = z :: dropL t x := by unfold dropL; rw [List.filter_cons_of_pos (by simpa using e)]
          rw [this]
          exact (List.Perm.swap _ _ _).trans ((ih hd2.2 hz2).cons _)
    refine hMore x c (dropL rest x) w' cnt' hp (of_wf hwc) hm ⟨D, n, _, hrg, h2, fun q hq => ?_, ?_⟩ hlt hgr hsz hen
    · by_cases e : q = x
      · rw [e, look_drop_same, WideAt.sameKey_self (plit_key x)]
        simp
      · have : (plit q).sameKey (plit x) = false := sameKey_ne (fun e2 => e (plit_inj hq hp e2))
        rw [this, look_drop_other e, h3 q hq]
        simp
    · rw [List.append_assoc]
      exact ((List.perm_append_left_iff acc).2 (by simpa using hperm rest hndr hm)).trans h4
end
end Go.Proofs.Ythinomhjhkhidaa.PMap
