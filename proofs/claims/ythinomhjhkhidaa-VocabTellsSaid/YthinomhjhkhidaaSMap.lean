/- Maps from texts to whole numbers, in memory: read as lists of entries without an order. Written by gen_smap.py out of MMap. -/
import Derived.Test.YthinomhjhkhidaaFoot
import Derived.DeepKeys4
import Derived.Maps.RangeWalk
import Derived.Maps.OwnOps
import Derived.StringKeys
import Derived.Sort.KeysCollected
namespace Go.Proofs.Ythinomhjhkhidaa.SMap
open Go.RowKit Go.Maps Go.WideMaps Base Foot
set_option linter.unusedVariables false

def SS (p : ByteArray) : Prop := p.size ≤ maxLen
def slit (p : ByteArray) : Lit := .string p.data.toList
theorem kyd : Keyed Try.prog 9 := string_keyed Try.underlying9
theorem key_of {p : ByteArray} (h : SS p) : keyOf Try.prog 9 (.string p) = some (slit p) := keyOf_string_mk Try.underlying9 h
theorem slit_key (p : ByteArray) : WideAt.IsKeyLit (slit p) := show WideAt.IsKeyLit (.string _) from trivial
theorem data_inj {p q : ByteArray} (h : p.data.toList = q.data.toList) : p = q := by cases p; cases q; simpa using h
theorem slit_inj {p q : ByteArray} (hp : SS p) (hq : SS q) (h : slit p = slit q) : p = q := by
  unfold slit at h
  injection h with h
  exact data_inj h
theorem wf_of {a : Int} (h : In64 a) : (Lit.int .i64 a).wf = true := by
  obtain ⟨h1, h2⟩ := h
  simp [Lit.wf, IntKind.min, IntKind.max, IntKind.signed, IntKind.bits]
  omega
/-! ### the list of entries -/
def look (m : List (ByteArray × Int)) (p : ByteArray) : Option Int := (m.find? fun x => decide (x.1 = p)).map (·.2)
def dropL (m : List (ByteArray × Int)) (p : ByteArray) : List (ByteArray × Int) := m.filter fun x => decide (x.1 ≠ p)
def putL (m : List (ByteArray × Int)) (p : ByteArray) (n : Int) : List (ByteArray × Int) := (p, n) :: dropL m p
def Nd (m : List (ByteArray × Int)) : Prop := (m.map (·.1)).Nodup
def Al (m : List (ByteArray × Int)) : Prop := ∀ x ∈ m, SS x.1 ∧ In64 x.2
theorem look_nil (p : ByteArray) : look [] p = none := rfl
theorem look_cons (x : ByteArray × Int) (m : List (ByteArray × Int)) (p : ByteArray) : look (x :: m) p = if x.1 = p then some x.2 else look m p := by
  unfold look
  by_cases h : x.1 = p <;> simp [h]
theorem look_drop_same (m : List (ByteArray × Int)) (p : ByteArray) : look (dropL m p) p = none := by
  induction m with
  | nil => rfl
  | cons x m ih =>
    unfold dropL at *
    by_cases h : x.1 = p
    · rw [List.filter_cons_of_neg (by simpa using h)]; exact ih
    · rw [List.filter_cons_of_pos (by simpa using h), look_cons, if_neg h, ih]
theorem look_drop_other {m : List (ByteArray × Int)} {p q : ByteArray} (h : q ≠ p) : look (dropL m p) q = look m q := by
  induction m with
  | nil => rfl
  | cons x m ih =>
    unfold dropL at *
    by_cases h1 : x.1 = p
    · rw [List.filter_cons_of_neg (by simpa using h1), look_cons, if_neg (by rw [h1]; exact Ne.symm h), ih]
    · rw [List.filter_cons_of_pos (by simpa using h1), look_cons, look_cons, ih]
theorem look_put_same (m : List (ByteArray × Int)) (p : ByteArray) (n : Int) : look (putL m p n) p = some n := by rw [putL, look_cons, if_pos rfl]
theorem look_put_other {m : List (ByteArray × Int)} {p q : ByteArray} (n : Int) (h : q ≠ p) : look (putL m p n) q = look m q := by
  rw [putL, look_cons, if_neg (Ne.symm h), look_drop_other h]
theorem look_some_mem {m : List (ByteArray × Int)} {p : ByteArray} {n : Int} (h : look m p = some n) : (p, n) ∈ m := by
  unfold look at h
  rw [Option.map_eq_some_iff] at h
  obtain ⟨x, h1, h2⟩ := h
  have := List.find?_some h1
  have hm := List.mem_of_find?_eq_some h1
  simp at this
  rw [← h2, ← this]
  exact hm
theorem look_none {m : List (ByteArray × Int)} {p : ByteArray} (h : look m p = none) : ∀ x ∈ m, x.1 ≠ p := by
  intro x hx e
  unfold look at h
  rw [Option.map_eq_none_iff, List.find?_eq_none] at h
  have := h x hx
  simp [e] at this
theorem mem_look {m : List (ByteArray × Int)} (hd : Nd m) {x : ByteArray × Int} (h : x ∈ m) : look m x.1 = some x.2 := by
  induction m with
  | nil => cases h
  | cons y m ih =>
    unfold Nd at hd
    rw [List.map_cons, List.nodup_cons] at hd
    rw [look_cons]
    rcases List.mem_cons.1 h with rfl | h
    · rw [if_pos rfl]
    · rw [if_neg (fun e => hd.1 (by rw [e]; exact List.mem_map_of_mem h)), ih hd.2 h]
theorem look_perm {m m' : List (ByteArray × Int)} (hd : Nd m) (hp : m'.Perm m) (p : ByteArray) : look m' p = look m p := by
  have hd' : Nd m' := (hp.map _).nodup_iff.2 hd
  cases h : look m' p with
  | none =>
    cases h2 : look m p with
    | none => rfl
    | some n => exact absurd rfl (look_none h _ (hp.mem_iff.2 (look_some_mem h2)))
  | some n => exact (mem_look hd (hp.mem_iff.1 (look_some_mem h))).symm
theorem Nd.drop {m : List (ByteArray × Int)} (h : Nd m) (p : ByteArray) : Nd (dropL m p) := by
  unfold Nd dropL at *
  exact h.sublist (List.Sublist.map _ List.filter_sublist)
theorem Nd.put {m : List (ByteArray × Int)} (h : Nd m) (p : ByteArray) (n : Int) : Nd (putL m p n) := by
  unfold Nd putL
  rw [List.map_cons, List.nodup_cons]
  refine ⟨fun hm => ?_, h.drop p⟩
  obtain ⟨x, hx, e⟩ := List.mem_map.1 hm
  have := (List.mem_filter.1 hx).2
  simp [e] at this
theorem Al.drop {m : List (ByteArray × Int)} (h : Al m) (p : ByteArray) : Al (dropL m p) := fun x hx => h x (List.mem_filter.1 hx).1
theorem Al.put {m : List (ByteArray × Int)} (h : Al m) {p : ByteArray} {n : Int} (hp : SS p) (hn : In64 n) : Al (putL m p n) := fun x hx => by
  rcases List.mem_cons.1 hx with rfl | hx
  · exact ⟨hp, hn⟩
  · exact h.drop p x hx
theorem drop_len {m : List (ByteArray × Int)} (h : Nd m) (p : ByteArray) : (dropL m p).length + (if (look m p).isSome then 1 else 0) = m.length := by
  induction m with
  | nil => rfl
  | cons x m ih =>
    unfold Nd at h
    rw [List.map_cons, List.nodup_cons] at h
    have h1 := ih h.2
    rw [look_cons]
    unfold dropL at *
    by_cases e : x.1 = p
    · have hn : look m p = none := by
        cases hl : look m p with
        | none => rfl
        | some n => exact absurd (by rw [e]; exact List.mem_map_of_mem (f := fun x : ByteArray × Int => x.1) (look_some_mem hl)) h.1
      rw [List.filter_cons_of_neg (by simpa using e), if_pos e]
      simp [hn] at h1 ⊢
      exact h1
    · rw [List.filter_cons_of_pos (by simpa using e), if_neg e, List.length_cons, List.length_cons]
      omega

/-! ### the datum -/
structure Rd (D : DataW Unit) (m : List (ByteArray × Int)) : Prop where
  has_ : ∀ p, SS p → has D (slit p) = (look m p).isSome
  at_ : ∀ p, SS p → D.atKey (slit p) (.lit (.int .i64 0)) = .lit (.int .i64 ((look m p).getD 0))
  size : Maps.size D = m.length
  nd : Nd m
  al : Al m
theorem Rd.nil : Rd (.map []) [] := ⟨fun _ _ => rfl, fun _ _ => rfl, rfl, List.nodup_nil, fun _ h => by cases h⟩
theorem Rd.perm {D : DataW Unit} {m m' : List (ByteArray × Int)} (h : Rd D m) (hp : m'.Perm m) : Rd D m' :=
  ⟨fun p h1 => by rw [look_perm h.nd hp, h.has_ p h1], fun p h1 => by rw [look_perm h.nd hp, h.at_ p h1], by rw [h.size, hp.length_eq], (hp.map _).nodup_iff.2 h.nd, fun x hx => h.al x (hp.mem_iff.1 hx)⟩
theorem Rd.put {D : DataW Unit} {m : List (ByteArray × Int)} (h : Rd D m) (hD : Tidy D) {p : ByteArray} (hp : SS p) {n : Int} (hn : In64 n) : Rd (D.put (slit p) (.lit (.int .i64 n))) (putL m p n) := by
  refine ⟨fun q hq => ?_, fun q hq => ?_, ?_, h.nd.put p n, h.al.put hp hn⟩
  · by_cases e : q = p
    · rw [e, has_put_same hD.isMap (slit_key p), look_put_same]; rfl
    · rw [has_put_other (fun e2 => e (slit_inj hq hp e2)), h.has_ q hq, look_put_other n e]
  · by_cases e : q = p
    · rw [e, atKey_put_same hD.isMap (slit_key p), look_put_same]; rfl
    · rw [atKey_put_other (fun e2 => e (slit_inj hq hp e2)), h.at_ q hq, look_put_other n e]
  · rw [size_put hD, h.has_ p hp, h.size, putL, List.length_cons]
    have := drop_len h.nd p
    cases hl : (look m p).isSome <;> simp [hl] at this ⊢ <;> omega
theorem Rd.drop {D : DataW Unit} {m : List (ByteArray × Int)} (h : Rd D m) (hD : Tidy D) {p : ByteArray} (hp : SS p) : Rd (D.del (slit p)) (dropL m p) := by
  refine ⟨fun q hq => ?_, fun q hq => ?_, ?_, h.nd.drop p, h.al.drop p⟩
  · by_cases e : q = p
    · rw [e, has_del_same, look_drop_same]; rfl
    · rw [has_del_other (fun e2 => e (slit_inj hq hp e2)), h.has_ q hq, look_drop_other e]
  · by_cases e : q = p
    · rw [e, atKey_del_same, look_drop_same]; rfl
    · rw [atKey_del_other (fun e2 => e (slit_inj hq hp e2)), h.at_ q hq, look_drop_other e]
  · have h1 := size_del (k := slit p) hD
    have h2 := drop_len h.nd p
    rw [h.has_ p hp, h.size] at h1
    cases hl : (look m p).isSome <;> simp [hl] at h1 h2 <;> omega

/-! ### in memory -/
/-- block mb of w is a map with these entries -/
def PM (w : World) (mb : Nat) (m : List (ByteArray × Int)) : Prop := ∃ D : DataW Unit, w.ownsMap Try.prog 9 (plainElem Try.prog 3) mb m.length D ∧ Rd D m
theorem tight {w : World} {b n : Nat} {D : DataW Unit} {P : Program} {k : TypeId} {R : Value → Option (DataW Unit × List MemPlace)} (h : w.ownsMap P k R b n D) : w.ownsMap P k R b (Maps.size D) D := by
  obtain ⟨es, clock, hb, F, _, rfl⟩ := h
  exact ⟨es, clock, hb, F, by simp [Maps.size, Go.length_sorted], rfl⟩
theorem PM.of {w : World} {mb n : Nat} {D : DataW Unit} {m : List (ByteArray × Int)} (h : w.ownsMap Try.prog 9 (plainElem Try.prog 3) mb n D) (hr : Rd D m) : PM w mb m := ⟨D, by rw [← hr.size]; exact tight h, hr⟩
theorem PM.made (w : World) : PM (w.alloc (.map #[] 0)) w.heap.size [] := ⟨_, World.ownsMap_made _ _ _ _, Rd.nil⟩
theorem PM.keep {w w' : World} {mb : Nat} {m : List (ByteArray × Int)} (h : PM w mb m) (hk : w'.heap[mb]? = w.heap[mb]?) : PM w' mb m := by
  obtain ⟨D, h1, h2⟩ := h
  exact ⟨D, map_keep h1 hk, h2⟩
theorem PM.lt {w : World} {mb : Nat} {m : List (ByteArray × Int)} (h : PM w mb m) : mb < w.heap.size := by
  obtain ⟨D, h1, _⟩ := h
  exact h1.lt
theorem PM.below {w w' : World} {mb : Nat} {m : List (ByteArray × Int)} (h : PM w mb m) (hb : Below w.heap.size w w') : PM w' mb m := h.keep (hb.block _ h.lt)
theorem PM.perm {w : World} {mb : Nat} {m m' : List (ByteArray × Int)} (h : PM w mb m) (hp : m'.Perm m) : PM w mb m' := by
  obtain ⟨D, h1, h2⟩ := h
  exact ⟨D, by rw [hp.length_eq]; exact h1, h2.perm hp⟩
theorem PM.nd {w : World} {mb : Nat} {m : List (ByteArray × Int)} (h : PM w mb m) : Nd m := by obtain ⟨D, _, h2⟩ := h; exact h2.nd
theorem PM.al {w : World} {mb : Nat} {m : List (ByteArray × Int)} (h : PM w mb m) : Al m := by obtain ⟨D, _, h2⟩ := h; exact h2.al
theorem PM.map {w : World} {mb : Nat} {m : List (ByteArray × Int)} (h : PM w mb m) : ∃ es cl, w.heap[mb]? = some (.map es cl) := by
  obtain ⟨D, ⟨es, cl, h1, _⟩, _⟩ := h
  exact ⟨es, cl, h1⟩
theorem zero_i (w : World) : (zeroValue 3).run Try.prog w = .ok (.int .i64 0) w := by kernel_rfl

set_option maxRecDepth 100000 in
/-- m[k] -/
theorem PM.look_run {w : World} {mb : Nat} {m : List (ByteArray × Int)} (h : PM w mb m) {p : ByteArray} (hp : SS p) : (Instr.lookup 73 (.map (some mb)) (.string p) false).run Try.prog w = .ok (.int .i64 ((SMap.look m p).getD 0)) w := by
  obtain ⟨D, h1, h2⟩ := h
  obtain ⟨c, h3, h4, _⟩ := h1.lookup_int kyd Try.underlying73 Try.underlying3 (zero_i w) (key_of hp)
  rw [h2.at_ p hp] at h4
  have e : c = (SMap.look m p).getD 0 := by simpa using h4.symm
  rw [h3, e]
set_option maxRecDepth 100000 in
/-- len(m) -/
theorem PM.len_run {w : World} {mb : Nat} {m : List (ByteArray × Int)} (h : PM w mb m) (ty : TypeId) : (Builtin.len_ #[73] ty #[.map (some mb)]).run Try.prog w = .ok (.int .i64 (m.length : Int)) w := by
  obtain ⟨D, h1, h2⟩ := h
  rw [← h2.size]
  exact h1.len Try.underlying73 ty
section
variable {ops : Array Oper} {rest : List Oper} {o : Oper} {a : Act} {Q : Exit → Act → World → Prop} {w : World}
/-- m[k] = v -/
theorem wp_put (hg : o.guard = none) (m x v : Operand) (hop : o.op = Op.mapUpdate 73 m x v) {mb : Nat} {L : List (ByteArray × Int)} (hm : a.eval m = .map (some mb)) (h : PM w mb L) (hl : L.length ≤ 1000000) {p : ByteArray} {n : Int} (hx : a.eval x = .string p) (hv : a.eval v = .int .i64 n) (hp : SS p) (hn : In64 n)
    (hK : ∀ w', PM w' mb (putL L p n) → w.grownBy w' (some mb) → wpList Try.prog ops Q rest (a.put o.dst undef) w') : wpList Try.prog ops Q (o :: rest) a w := by
  obtain ⟨D, h1, h2⟩ := h
  exact wpList_mapUpdate_own w hg m x v _ hop _ _ kyd Try.underlying73 _ mb _ D hm h1 (by unfold maxLen; omega) _ _ _ hx hv (key_of hp) _ _ (plainElem_int Try.underlying3 (wf_of hn)) (fun w' q1 q2 => hK w' (PM.of q1 (h2.put (h1.tidy kyd) hp hn)) q2)
/-- delete(m, k) -/
theorem wp_drop (hg : o.guard = none) (m x : Operand) (hop : o.op = Op.call { callee := Callee.builtin Builtin.delete, args := #[m, x], argTypes := #[73, 9] }) {mb : Nat} {L : List (ByteArray × Int)} (hm : a.eval m = .map (some mb)) (h : PM w mb L) {p : ByteArray} (hx : a.eval x = .string p) (hp : SS p)
    (hK : ∀ w', PM w' mb (dropL L p) → w.grownBy w' (some mb) → wpList Try.prog ops Q rest (a.put o.dst (.tuple #[])) w') : wpList Try.prog ops Q (o :: rest) a w := by
  obtain ⟨D, h1, h2⟩ := h
  exact wpList_delete_own w hg m x _ _ hop _ kyd Try.underlying73 _ mb _ D hm h1 _ _ hx (key_of hp) (fun w' q1 q2 => hK w' (PM.of q1 (h2.drop (h1.tidy kyd) hp)) q2.grown)
end
/-- the datum's keys, as lists of bytes -/
theorem keys_perm {w : World} {mb n : Nat} {D : DataW Unit} {m : List (ByteArray × Int)} (h : w.ownsMap Try.prog 9 (plainElem Try.prog 3) mb n D) (hr : Rd D m) : (m.map fun x => x.1.data.toList).Perm (strKeys D) := by
  refine Collected.perm (left := fun _ => false) (P := Try.prog) (k := 9) ⟨?_, fun x => ?_⟩ h kyd Try.underlying9 (fun _ => rfl)
  · have h1 := hr.nd
    unfold Nd at h1
    have h2 : (m.map fun x => x.1.data.toList) = (m.map (·.1)).map fun p => p.data.toList := by rw [List.map_map]; rfl
    rw [h2]
    exact List.pairwise_map.2 (h1.imp fun {p q} hne e => hne (data_inj e))
  · constructor
    · intro hx
      obtain ⟨y, hy, rfl⟩ := List.mem_map.1 hx
      have h1 := hr.has_ y.1 (hr.al y hy).1
      rw [mem_look hr.nd hy] at h1
      exact ⟨h1, rfl⟩
    · rintro ⟨hx, _⟩
      have hle : x.length ≤ maxLen := by
        obtain ⟨es, hD, hpw, _⟩ := h.entries kyd
        have hk := h.keysOf
        obtain ⟨es', hD', hko⟩ := hk
        obtain rfl : es = es' := by rw [hD] at hD'; simpa using hD'
        rw [hD, has_eq, List.any_eq_true] at hx
        obtain ⟨p, hp, hs⟩ := hx
        obtain ⟨v, hv⟩ := hko p hp
        obtain ⟨y, _, hy, hl⟩ := Maps.keyOf_str Try.underlying9 hv
        rw [hy] at hs
        have : y = x := by simpa [Lit.sameKey] using hs
        rw [← this]; exact hl
      have h1 := hr.has_ ⟨x.toArray⟩ (by show (ByteArray.mk x.toArray).size ≤ maxLen; simpa [ByteArray.size] using hle)
      have e : slit ⟨x.toArray⟩ = .string x := by unfold slit; simp
      rw [e, hx] at h1
      obtain ⟨c, hc⟩ := Option.isSome_iff_exists.1 h1.symm
      exact List.mem_map.2 ⟨_, look_some_mem hc, by simp⟩
end Go.Proofs.Ythinomhjhkhidaa.SMap
