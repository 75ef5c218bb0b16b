/- maps.DeleteFunc at pairs, walked: on every order in which the entries may come. -/
import Derived.Test.YtaecngdabgnamaaMIter
import Derived.Deep.DrawnRows
namespace Go.Proofs.Ytaecngdabgnamaa.PMap
open Go.RowKit Go.Maps Go.WideMaps Base Foot
set_option linter.unusedVariables false
set_option linter.unusedSimpArgs false
attribute [local go_sem ↓] Go.wp_at_zero Go.wp_at_succ

theorem drop_id {m : List (PK × Int)} {p : PK} (h : ∀ x ∈ m, x.1 ≠ p) : dropL m p = m := List.filter_eq_self.2 fun x hx => by simpa using h x hx
theorem drop_app (a b : List (PK × Int)) (p : PK) : dropL (a ++ b) p = dropL a p ++ dropL b p := by unfold dropL; rw [List.filter_append]
section
variable {ops : Array Oper} {rest' : List Oper} {o : Oper} {a : Act} {Q : Exit → Act → World → Prop} {w : World}
/-- delete(m, k) in a round, of the entry that has just come -/
theorem wp_delete_rg {T : TypeId} (hT : Try.prog.underlying T = some (.map 23 3)) (hg : o.guard = none) (m x : Operand) (hop : o.op = Op.call { callee := Callee.builtin Builtin.delete, args := #[m, x], argTypes := #[T, 23] })
    {b r cnt : Nat} {K acc rest : List (PK × Int)} {p : PK} {c : Int} (hm : a.eval m = .map (some b)) (h : RG w b r K (acc ++ [(p, c)]) rest cnt) (hp : P64 p) (hx : a.eval x = vP p)
    (hK : ∀ w' cnt', RG w' b r (dropL K p) acc rest cnt' → cnt' ≤ cnt → w.grownBy w' (some b) → wpList Try.prog ops Q rest' (a.put o.dst (.tuple #[])) w') :
    wpList Try.prog ops Q (o :: rest') a w := by
  obtain ⟨D, n, left, h1, h2, h3, h4⟩ := h
  have hnd : Nd (acc ++ [(p, c)] ++ rest) := (h4.map _).nodup_iff.2 h2.nd
  have hacc : ∀ y ∈ acc, y.1 ≠ p := by
    intro y hy e
    unfold Nd at hnd
    rw [List.append_assoc, List.map_append, List.nodup_append] at hnd
    exact hnd.2.2 y.1 (List.mem_map_of_mem hy) p (by simp) e
  have hrest : ∀ y ∈ rest, y.1 ≠ p := by
    intro y hy e
    unfold Nd at hnd
    rw [List.map_append, List.nodup_append] at hnd
    exact hnd.2.2 p (by simp) y.1 (List.mem_map_of_mem hy) e.symm
  have htd : Tidy D := h1.owns.tidy kyd
  refine wpList_delete_ranges w hg m x T _ hop _ kyd hT _ b r n D left cnt hm h1 _ _ hx (key_of hp) fun w' cnt' q1 q2 q3 => hK w' cnt' ⟨_, n, _, q1, h2.drop htd hp, fun q hq => ?_, ?_⟩ q2 q3.grown
  · by_cases e : q = p
    · subst e
      rw [WideAt.sameKey_self (plit_key q)]
      have : look rest q = none := by
        cases hl : look rest q with
        | none => rfl
        | some z => exact absurd rfl (hrest _ (look_some_mem hl))
      rw [this]
      simp
    · have : (plit q).sameKey (plit p) = false := sameKey_ne (fun e2 => e (plit_inj hq hp e2))
      rw [this, h3 q hq]
      simp
  · have := (h4.filter (fun x => decide (x.1 ≠ p)))
    change (dropL (acc ++ [(p, c)] ++ rest) p).Perm (dropL K p) at this
    rw [drop_app, drop_app, drop_id hacc, drop_id hrest] at this
    have e : dropL [(p, c)] p = [] := by unfold dropL; simp
    rw [e, List.append_nil] at this
    exact this
end
theorem RG.grown {w w' : World} {b r : Nat} {K acc rest : List (PK × Int)} {cnt : Nat} (h : RG w b r K acc rest cnt) (hb : Below w.heap.size w w') : RG w' b r K acc rest cnt := by
  obtain ⟨since, seen, c0, h1⟩ := h.iter
  obtain ⟨es, cl, h2⟩ := h.pm.map
  exact h.kept (hb.block _ (block_lt h2)) (hb.block _ (block_lt h1))
theorem Foot_below {w w' : World} (h : Below w.heap.size w w') : w.grownBy w' none := ⟨h.os, h.tape, h.output, h.size, fun k hk _ => h.block k hk⟩
set_option maxHeartbeats 3200000 in
set_option maxRecDepth 100000 in
theorem delfunc_any {w : World} {b : Nat} {K : List (PK × Int)} (h : PM w b K) (g : Nat) (cb : Array Value) (pd : PK → Int → Bool)
    (eg : ∀ args w, (callFunc g args).run Try.prog w = .ok (.enter g args) w)
    (hdel : ∀ (W : World) (p : PK) (c : Int), w.grownBy W (some b) → P64 p → Calls Try.prog g (#[vP p, .int .i64 c] ++ cb) W fun e w' => e = .returned (.bool (pd p c)) ∧ Below W.heap.size W w') :
    Calls Try.prog 51 #[.map (some b), .func (.func g) #[] cb] w fun e w' => e = .returned (.tuple #[]) ∧ PM w' b (K.filter fun x => !pd x.1 x.2) ∧ w.grownBy w' (some b) := by
  have hT : Try.prog.underlying 67 = some (.map 23 3) := Try.underlying67
  have HD := Lib.hid hdel
  clear hdel
  go_enter Try.func51, Try.ntmps51
  go_wp2_with (at_range; refine wp_range_t hT rfl _ rfl rfl h ?_; intro w0 hrg0 hg0 hs0)
  go_frame
  go_loopw [8] (fun _ wr => ∃ (Kc acc rest dn : List (PK × Int)) (cnt : Nat), RG wr b w.heap.size Kc acc rest cnt ∧ (dn ++ rest).Perm K ∧ acc = dn.filter (fun x => !pd x.1 x.2) ∧ w.grownBy wr (some b)) (fun _ wr => wr.rangeLeft b w.heap.size)
  case atStart => exact ⟨K, [], K, [], _, hrg0, by simp, rfl, hg0.but _⟩
  case round =>
    obtain ⟨Kc, acc, rest, dn, cnt, hrg, hdn, hacc, hgw⟩ := hrel
    have HDN := Lib.hid hdn
    have HAC := Lib.hid hacc
    clear hdn hacc hrg0 h
    go_wp2_with (at_next; refine wp_next rfl _ rfl rfl hrg ?_ ?_)
    · intro hnil
      go_wp2_with fail
      go_end0
      subst hnil
      have hdn := HDN.out
      have hpm := hrg.perm
      rw [List.append_nil] at hdn hpm
      refine ⟨rfl, hrg.pm.perm ?_, hgw⟩
      exact ((hdn.filter _).symm).trans (by rw [← HAC.out]; exact hpm)
    · intro x1 x2 c rest2 w1 cnt1 hx hc hin hrg1 hlt hg1 hs1 hen
      have hpr : rest.Perm (((x1, x2), c) :: rest2) := by
        have q1 := hrg.perm
        have q2 := hrg1.perm
        have q3 := q1.trans q2.symm
        rw [List.append_assoc] at q3
        exact (List.perm_append_left_iff acc).1 q3
      have hdn2 : (dn ++ [((x1, x2), c)] ++ rest2).Perm K := by
        rw [List.append_assoc]
        exact ((List.perm_append_left_iff dn).2 (by simpa using hpr.symm)).trans HDN.out
      have HDN2 := Lib.hid hdn2
      have xb := heap_alloc_new w1 (.cells #[.int .i64 x1, .int .i64 x2] 23)
      have x0 := cell_at xb 0
      have x3 := cell_at xb 1
      simp only [List.getElem?_toArray, List.getElem?_cons_zero, List.getElem?_cons_succ] at x0 x3
      have hba := (Below.refl _ w1).alloc (Nat.le_refl _) (.cells #[.int .i64 x1, .int .i64 x2] 23)
      have hgw2 : w.grownBy (w1.alloc (.cells #[.int .i64 x1, .int .i64 x2] 23)) (some b) := (hgw.andThen hg1 (fun j hj => by cases hj; exact Or.inl (Nat.le_refl _))).andThen (World.grownBy_alloc _ _ none) (fun j hj => by cases hj)
      have hc1 := HD.out _ (x1, x2) c hgw2 hx
      have hrg2 := hrg1.grown hba
      have hcl := hrg.cnt
      clear hpr hdn2 hs1 hrg hgw hg1 hrg1
      unfold vP at hen hc1
      have HBA := Lib.hid hba
      have HR2 := Lib.hid hrg2
      have HG2 := Lib.hid hgw2
      clear hba hrg2 hgw2 xb
      cases hp : pd (x1, x2) c <;> rw [hp] at hc1
      · go_wp2_with fail
        refine hc1.mono ?_
        rintro e w2 ⟨rfl, hb2⟩
        go_wp2_with fail
        have hrg3 := HR2.out.grown hb2
        go_roundw
        case rel =>
          refine ⟨Kc, _, rest2, _, cnt1, hrg3, HDN2.out, ?_, HG2.out.andThen (Foot_below hb2) (fun j hj => by cases hj)⟩
          rw [HAC.out, List.filter_append]
          simp [hp]
        case measure => rw [hrg3.cnt, hcl]; exact hlt
      · go_wp2_with fail
        refine hc1.mono ?_
        rintro e w2 ⟨rfl, hb2⟩
        have hrg3 := HR2.out.grown hb2
        have x1' := (hb2.cell (World.block_lt_of_cell? _ _ x0)).trans x0
        have x3' := (hb2.cell (World.block_lt_of_cell? _ _ x3)).trans x3
        go_wp2_with (at_delete; refine wp_delete_rg hT rfl _ _ rfl rfl hrg3 hx rfl ?_; intro w3 cnt3 hrg4 hle hg4; go_frame)
        go_roundw
        case rel =>
          refine ⟨_, _, rest2, _, cnt3, hrg4, HDN2.out, ?_, (HG2.out.andThen (Foot_below hb2) (fun j hj => by cases hj)).andThen hg4 (fun j hj => by cases hj; exact Or.inr rfl)⟩
          rw [HAC.out, List.filter_append]
          simp [hp]
        case measure => rw [hrg4.cnt, hcl]; omega
end Go.Proofs.Ytaecngdabgnamaa.PMap
