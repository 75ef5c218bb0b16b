/- A range over a map from pairs to whole numbers: what has come, what is left. -/
import Derived.Test.YthpdamkpefgmaaaPMap
namespace Go.Proofs.Ythpdamkpefgmaaa.PMap
open Go.RowKit Go.Maps Go.WideMaps Base Foot
set_option linter.unusedVariables false

/-- the range r over the map b of entries K: acc has come, rest is left -/
def RG (w : World) (b r : Nat) (K acc rest : List (PK × Int)) (cnt : Nat) : Prop :=
  ∃ (D : DataW Unit) (n : Nat) (left : Lit → Bool), w.ranges Try.prog 41 (plainElem Try.prog 3) b r n D left cnt ∧ Rd D K ∧ (∀ p, P64 p → left (plit p) = (look rest p).isSome) ∧ (acc ++ rest).Perm K
theorem RG.cnt {w : World} {b r : Nat} {K acc rest : List (PK × Int)} {cnt : Nat} (h : RG w b r K acc rest cnt) : w.rangeLeft b r = cnt := by
  obtain ⟨D, n, left, h1, _⟩ := h
  exact h1.left_eq
theorem RG.pm {w : World} {b r : Nat} {K acc rest : List (PK × Int)} {cnt : Nat} (h : RG w b r K acc rest cnt) : PM w b K := by
  obtain ⟨D, n, left, h1, h2, _⟩ := h
  exact PM.of h1.owns h2
theorem RG.kept {w w' : World} {b r : Nat} {K acc rest : List (PK × Int)} {cnt : Nat} (h : RG w b r K acc rest cnt) (hb : w'.heap[b]? = w.heap[b]?) (hr : w'.heap[r]? = w.heap[r]?) : RG w' b r K acc rest cnt := by
  obtain ⟨D, n, left, ⟨es, clock, since, seen, c0, h1, h2, h3, h4, h5, h6⟩, h7⟩ := h
  exact ⟨D, n, left, ⟨es, clock, since, seen, c0, hb.trans h1, h2, h3, h4, hr.trans h5, h6⟩, h7⟩
theorem RG.perm {w : World} {b r : Nat} {K acc rest : List (PK × Int)} {cnt : Nat} (h : RG w b r K acc rest cnt) : (acc ++ rest).Perm K := by
  obtain ⟨D, n, left, _, _, _, h4⟩ := h
  exact h4
theorem RG.iter {w : World} {b r : Nat} {K acc rest : List (PK × Int)} {cnt : Nat} (h : RG w b r K acc rest cnt) : ∃ since seen c0, w.heap[r]? = some (.mapIter (some b) since seen c0) := by
  obtain ⟨D, n, left, ⟨es, clock, since, seen, c0, h1, h2, h3, h4, h5, h6⟩, h7⟩ := h
  exact ⟨since, seen, c0, h5⟩
theorem RG.al {w : World} {b r : Nat} {K acc rest : List (PK × Int)} {cnt : Nat} (h : RG w b r K acc rest cnt) : Al K := by
  obtain ⟨D, n, left, _, h2, _⟩ := h
  exact h2.al
section
variable {ops : Array Oper} {rest' : List Oper} {o : Oper} {a : Act} {Q : Exit → Act → World → Prop} {w : World}
/-- range m -/
theorem wp_range (hg : o.guard = none) (m : Operand) (hop : o.op = Op.range 97 m) {mb : Nat} {K : List (PK × Int)} (hm : a.eval m = .map (some mb)) (h : PM w mb K)
    (hK : ∀ w', RG w' mb w.heap.size K [] K K.length → w.grownBy w' none → w'.heap.size = w.heap.size + 1 → wpList Try.prog ops Q rest' (a.put o.dst (.pointer (some ⟨w.heap.size, 0, none⟩))) w') : wpList Try.prog ops Q (o :: rest') a w := by
  obtain ⟨D, h1, h2⟩ := h
  refine wpList_range_own w hg m _ hop _ _ kyd Try.underlying97 _ mb _ D hm h1 fun w' r1 r2 r3 => hK w' ?_ r2 r3
  rw [h2.size] at r1
  exact ⟨D, _, _, r1, h2, fun p hp => h2.has_ p hp, by simp⟩
/-- the next entry -/
theorem wp_next (hg : o.guard = none) (it : Operand) (hop : o.op = Op.next it false) {b r cnt : Nat} {K acc rest : List (PK × Int)} (hit : a.eval it = .pointer (some ⟨r, 0, none⟩)) (h : RG w b r K acc rest cnt)
    (hDone : rest = [] → wpList Try.prog ops Q rest' (a.put o.dst (.tuple #[.bool false])) w)
    (hMore : ∀ (x : PK) (c : Int) (rest2 : List (PK × Int)) (w' : World) (cnt' : Nat), P64 x → In64 c → (x, c) ∈ rest → RG w' b r K (acc ++ [(x, c)]) rest2 cnt' → cnt' < cnt → w.grownBy w' (some r) → w'.heap.size = w.heap.size →
      (Instr.entry (.pointer (some ⟨r, 0, none⟩))).run Try.prog w' = .ok (.tuple #[vP x, .int .i64 c]) w' → wpList Try.prog ops Q rest' (a.put o.dst (.tuple #[.bool true, vP x, .int .i64 c])) w') :
    wpList Try.prog ops Q (o :: rest') a w := by
  obtain ⟨D, n, left, h1, h2, h3, h4⟩ := h
  have hal : Al rest := fun x hx => h2.al x (h4.mem_iff.1 (List.mem_append_right _ hx))
  have hndr : Nd rest := by
    have : Nd (acc ++ rest) := (h4.map _).nodup_iff.2 h2.nd
    unfold Nd at *
    rw [List.map_append] at this
    exact (List.nodup_append.1 this).2.1
  refine wpList_next_ranges w hg it hop _ kyd (plainElem Try.prog 3) vP (Value.int .i64) (fun key kl hkey => ?_) (fun v y hv => ?_) b r n D left cnt hit h1 (fun h0 hl => hDone ?_) ?_
  · obtain ⟨p, rfl, _⟩ := key_inv hkey
    exact ⟨p, rfl⟩
  · obtain ⟨c, rfl, _⟩ := plainElem_int_inv Try.underlying3 hv
    exact ⟨c, rfl⟩
  · cases rest with
    | nil => rfl
    | cons x t =>
      have := h3 x.1 (hal x (by simp)).1
      rw [hl, look_cons, if_pos rfl] at this
      cases this
  · intro x c kl y w' cnt' hkey hlk hv hat hrg hlt hgr hsz hen
    obtain ⟨p, e1, hp, rfl⟩ := key_inv hkey
    have e2 : x = p := by
      simp [vP] at e1
      exact Prod.ext e1.1 e1.2
    subst e2
    obtain ⟨c', e3, rfl, hwc⟩ := plainElem_int_inv Try.underlying3 hv
    injection e3 with _ e3
    subst e3
    rw [h3 x hp] at hlk
    obtain ⟨c2, hc2⟩ := Option.isSome_iff_exists.1 hlk
    have hm := look_some_mem hc2
    have hmK : (x, c2) ∈ K := h4.mem_iff.1 (List.mem_append_right _ hm)
    have hlK := mem_look h2.nd hmK
    have hc := h2.at_ x hp
    rw [hat, hlK] at hc
    have e4 : c = c2 := by simpa using hc
    subst e4
    have hperm : ∀ (l : List (PK × Int)), Nd l → (x, c) ∈ l → ((x, c) :: dropL l x).Perm l := by
      intro l
      induction l with
      | nil => intro _ h; cases h
      | cons z t ih =>
        intro hd hz
        have hd2 := hd
        unfold Nd at hd2
        rw [List.map_cons, List.nodup_cons] at hd2
        by_cases e : z.1 = x
        · have ez : (x, c) = z := by
            rcases List.mem_cons.1 hz with h | h
            · exact h
            · exact absurd (by rw [e]; exact List.mem_map_of_mem (f := fun x : PK × Int => x.1) h) hd2.1
          subst ez
          have : dropL ((x, c) :: t) x = t := by
            unfold dropL
            rw [List.filter_cons_of_neg (by simp)]
            refine List.filter_eq_self.2 fun u hu => ?_
            have : u.1 ≠ x := fun e => hd2.1 (by have h9 := List.mem_map_of_mem (f := fun x : PK × Int => x.1) hu; simp only [e] at h9; exact h9)
            simpa using this
          rw [this]
        · have hz2 : (x, c) ∈ t := by
            rcases List.mem_cons.1 hz with h | h
            · exact absurd (by rw [← h]) e
            · exact h
          have : dropL (z :: t) x = z :: dropL t x := by unfold dropL; rw [List.filter_cons_of_pos (by simpa using e)]
          rw [this]
          exact (List.Perm.swap _ _ _).trans ((ih hd2.2 hz2).cons _)
    refine hMore x c (dropL rest x) w' cnt' hp (of_wf hwc) hm ⟨D, n, _, hrg, h2, fun q hq => ?_, ?_⟩ hlt hgr hsz hen
    · by_cases e : q = x
      · rw [e, look_drop_same, WideAt.sameKey_self (plit_key x)]
        simp
      · have : (plit q).sameKey (plit x) = false := sameKey_ne (fun e2 => e (plit_inj hq hp e2))
        rw [this, look_drop_other e, h3 q hq]
        simp
    · rw [List.append_assoc]
      exact ((List.perm_append_left_iff acc).2 (by simpa using hperm rest hndr hm)).trans h4
end
end Go.Proofs.Ythpdamkpefgmaaa.PMap
