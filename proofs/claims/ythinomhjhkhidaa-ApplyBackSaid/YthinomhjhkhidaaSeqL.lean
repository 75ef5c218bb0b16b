/- Layer 11: the ledger as a list that rises, walked. -/
import Derived.Test.YthinomhjhkhidaaSeqN2
import Derived.Test.YthinomhjhkhidaaSeqC
import Derived.Test.YthinomhjhkhidaaSortK
import Derived.Test.YthinomhjhkhidaaShelf
namespace Go.Proofs.Ythinomhjhkhidaa.SeqM
open Go.RowKit Go.Maps Go.Sort Go.Proofs.YthinomhjhkhidaaW.PrintWords Go.Proofs.YthinomhjhkhidaaW.PrintLast Go.Proofs.YthinomhjhkhidaaW.PrintMore Base Foot ExtTail PMap SeqPure SortK
set_option linter.unusedVariables false
set_option linter.unusedSimpArgs false
attribute [local go_sem ↓] Go.wp_at_zero Go.wp_at_succ

abbrev tCh : TypeId := 131
theorem infoCh : (Try.prog.info? tCh).map (fun i => (i.zero, i.size, i.bytes)) = some (some (.agg #[.int .i64 0, .int .i64 0, .int .i64 0]), 3, 24) := by kernel_rfl
theorem isAggCh (w : World) : (isAgg tCh).run Try.prog w = .ok true w := by kernel_rfl
theorem sizeCh (w : World) : (Go.sizeOf tCh).run Try.prog w = .ok 3 w := by kernel_rfl
abbrev FV : Value := .func (.func 91) #[] #[]
theorem sort_any {w : World} {B : Nat} {v : Value} {l : List (PK × Int)} (h : w.ownsRow B tCh 3 v l.length (l.flatMap encG)) (hl : l.length ≤ 1000000) :
    Calls Try.prog 90 #[v, FV] w fun e w' => e = .returned (.tuple #[]) ∧ ∃ l' : List (PK × Int), l'.Perm l ∧ (l'.Pairwise fun x y => ¬ befP y.1 x.1) ∧ w'.ownsRow B tCh 3 v l'.length (l'.flatMap encG) ∧ Upd (fun k => v.ownBlock = some k) (fun k => v.ownBlock = some k) w w' := by
  have L := Try.sortCh
  rcases h.2 with ⟨rfl, h0⟩ | ⟨g, cap, cur, rfl, hB, hg, hc, hm, hs, ht⟩
  · have hl0 : l = [] := List.eq_nil_of_length_eq_zero h0
    subst hl0
    have hcon := AnyF.slices_SortFunc_none L none 0 FV w
    change Calls Try.prog 90 _ _ _ at hcon
    exact hcon.mono fun e w' ⟨he, hw⟩ => by
      subst hw
      exact ⟨he, [], .refl _, .nil, h, Upd.refl⟩
  · have eg : ∀ args w, (callFunc 91 args).run Try.prog w = .ok (.enter 91 args) w := enters_of Try.func91 (by kernel_rfl) rfl
    have hcon := AnyQ.slices_SortFunc L 3 isAggCh sizeCh encG (fun _ => rfl) (fun x v hv => by simp [encG] at hv; rcases hv with rfl | rfl | rfl <;> rfl) cfG swoG 91 #[] g 0 cap l.toArray w eg (fun _ _ _ _ x y => cmp_any x y _) (holds_own encG_len h) (block_lt hg) (by simp; omega)
    change Calls Try.prog 90 _ _ _ at hcon
    rw [List.size_toArray] at hcon
    refine hcon.mono fun e w' ⟨he, d', n, os, hp, hso, hw⟩ => ?_
    obtain ⟨p1, p2, p3⟩ := hp
    have hd : d'.size = l.length := by simpa using p1
    have hperm : d'.toList.Perm l := by
      have e1 : d'.extract 0 l.length = d' := by rw [← hd]; exact Array.extract_size
      have e2 : l.toArray.extract 0 l.length = l.toArray := by simp
      rw [e1, e2] at p3
      exact p3
    have ho := own_sorted encG_len h hperm.length_eq n os
    rw [Array.toArray_toList] at ho
    refine ⟨he, d'.toList, hperm, ?_, by rw [hw, show d'.toList.length = l.length from hperm.length_eq]; have := ho.1; rw [hperm.length_eq] at this; exact this, ?_⟩
    · rw [List.pairwise_iff_getElem]
      intro i j hi hj hij
      have hi' : i < d'.size := by simpa using hi
      have hj' : j < d'.size := by simpa using hj
      have := hso i j (Nat.zero_le _) hij (by rw [← hd]; exact hj')
      rw [cfG_lt, getElem!_pos d' i hi', getElem!_pos d' j hj'] at this
      simpa using this
    · rw [hw]
      obtain ⟨u1, u2, u3, u4, u5, u6⟩ := ho.2
      exact ⟨u1, u2, u3, u4, fun k hk hne => u5 k hk (fun e => hne (by rw [e]; rfl)), fun k hk => .inl hk⟩
theorem rise_of {l : List (PK × Int)} (hn : Nd l) (h : l.Pairwise fun x y => ¬ befP y.1 x.1) : Rise l := by
  unfold Nd at hn
  rw [List.nodup_iff_pairwise_ne, List.pairwise_map] at hn
  exact (hn.and h).imp fun {x y} ⟨h1, h2⟩ => (befP.tri h1).resolve_right h2
theorem buildG (a b c : Int) (w : World) : (Instr.build tCh #[(0, .agg #[.int .i64 a, .int .i64 b]), (1, .int .i64 c)]).run Try.prog w = .ok (.agg #[.int .i64 a, .int .i64 b, .int .i64 c]) w := run_build w _ _ _ (by kernel_rfl)
attribute [-go_sem] Instr.build
attribute [local go_sem high] buildG
set_option maxHeartbeats 3200000 in
set_option maxRecDepth 100000 in
theorem list_any {w : World} {mb : Nat} {m : List (PK × Int)} (h : PM w mb m) (hl : m.length ≤ 900000) :
    Calls Try.prog 81 #[.map (some mb)] w fun e w' => ∃ (v : Value) (l : List (PK × Int)), e = .returned v ∧ l.Perm m ∧ Rise l ∧ w'.ownsRow w.heap.size tCh 3 v l.length (l.flatMap encG) ∧ Below w.heap.size w w' := by
  obtain ⟨i0, hi, hz0, hzA, hz2⟩ := info_parts infoCh
  have hT : Try.prog.underlying 132 = some (.map 94 3) := Try.underlying132
  have HM := Lib.hid h
  go_enter Try.func81, Try.ntmps81
  go_wp2_with (at_range; refine wp_range_t hT rfl _ rfl rfl h ?_; intro w0 hrg0 hg0 hs0)
  go_frame
  have hb0 : Below w.heap.size w w0 := ⟨hg0.os, hg0.tape, hg0.output, hg0.size, fun k hk => hg0.block k hk (by simp)⟩
  go_loopw [3] (fun v3 wr => ∃ (acc rest : List (PK × Int)) (cnt : Nat) (ov : Value), ov = v3 ∧ RG wr mb w.heap.size m acc rest cnt ∧ wr.ownsRow w.heap.size tCh 3 ov acc.length (acc.flatMap encG) ∧ Below w.heap.size w wr) (fun _ wr => wr.rangeLeft mb w.heap.size)
  case atStart => exact ⟨[], m, m.length, _, rfl, hrg0, World.ownsRow_nil _ _ _ _, hb0⟩
  case round =>
    obtain ⟨acc, rest, cnt, ov, rfl, hrg, hrow, hbw⟩ := hrel
    have hpm := hrg.perm
    have hll : acc.length + rest.length = m.length := by have := hpm.length_eq; simpa using this
    have HPM := Lib.hid hpm
    clear hpm hrg0 h
    go_wp2_with (at_next; refine wp_next rfl _ rfl rfl hrg ?_ ?_)
    · intro hnil
      subst hnil
      have hperm : acc.Perm m := by simpa using HPM.out
      have HPERM := Lib.hid hperm
      have HROW := Lib.hid hrow
      have hsort := Lib.hid (sort_any hrow (by omega))
      obtain ⟨A, cap, rfl⟩ := own_slc hrow
      clear hperm hrow hrg
      go_wp2_with fail
      refine hsort.out.mono ?_
      rintro e w2 ⟨rfl, l, p1, p2, p3, u2⟩
      have hb2 := hbw.trans (u2.below hbw.size (fun k hk => (HROW.out.lt k hk).1))
      have hP := p1.trans HPERM.out
      have hnd : Nd l := (hP.map _).nodup_iff.2 HM.out.nd
      have HR := Lib.hid (rise_of hnd p2)
      have HP := Lib.hid hP
      have HO := Lib.hid p3
      clear p1 p2 p3 u2 hP hnd hsort
      go_wp2_with fail
      go_ret
      exact ⟨_, l, rfl, HP.out, HR.out, HO.out, hb2⟩
    · intro x1 x2 c rest2 w1 cnt1 hx hc hmem hrg1 hlt hg1 hs1 hen
      have hb1 : Below w.heap.size w w1 := hbw.grown hg1 hbw.size (fun k hk => by cases hk; exact Nat.le_refl _)
      have hrow1 : w1.ownsRow w.heap.size tCh 3 ov acc.length (acc.flatMap encG) := own_keep hrow (fun k hk => hg1.block k (hrow.lt k hk).2 (fun e => by
        cases e
        obtain ⟨_, _, _, e2⟩ := hrg.iter
        have := own_cells hrow hk e2
        cases this))
      unfold vP at hen
      unfold vP
      have hlr : acc.length < 900000 := by
        have : rest ≠ [] := fun e => by rw [e] at hmem; cases hmem
        have := List.length_pos_iff.2 this
        omega
      have hz1 : w.heap.size ≤ wr.heap.size := hbw.size
      have hnw : ((w1.alloc (.cells #[.int .i64 x1, .int .i64 x2] 94))).heap.size = wr.heap.size + 1 := by simp [hs1]
      have HNW := Lib.hid hnw
      clear hnw
      go_wp2_with (at_builtin; refine wpList_append_own_at _ rfl _ _ 110 rfl w.heap.size tCh i0 _ 3 24 Try.underlying110 hi hz0 hzA hz2 rfl (by decide) _ _ _ rfl ((hrow1.alloc _).alloc _) ⟨wr.heap.size + 1, 0, none⟩ 1 1 [.int .i64 x1, .int .i64 x2, .int .i64 c] rfl rfl (news_alloc HNW.out) (by simp [Value.oneCell']) (by unfold maxLen; omega) (by omega) (by simp; omega) ?_; intro v' w2 hown2 hgrow2 _ hat2)
      have hb2 : Below w.heap.size w w2 := ((hb1.alloc hb1.size _).alloc (by simp; have := hb1.size; omega) _).grown hgrow2 (by simp; have := hb1.size; omega) (fun k hk => (hrow1.lt k hk).1)
      have hne : ∀ k, k < wr.heap.size → (∃ o : Obj, wr.heap[k]? = some o ∧ o.isCells = false) → w2.heap[k]? = w1.heap[k]? := fun k hk ho => by
        rw [hgrow2.block k (by simp; omega) (fun e => ?_)]
        · rw [Below.heap_alloc _ _ _ (by simp; omega), Below.heap_alloc _ _ _ (by omega)]
        · obtain ⟨o, ho1, ho2⟩ := ho
          have := own_cells hrow e.symm ho1
          rw [ho2] at this; cases this
      obtain ⟨es, cl, hmap⟩ := hrg.pm.map
      obtain ⟨sn, se, c0, hit⟩ := hrg.iter
      have hrg2 := hrg1.kept (hne mb (block_lt hmap) ⟨_, hmap, rfl⟩) (hne _ (block_lt hit) ⟨_, hit, rfl⟩)
      have hm1 := hrg2.cnt
      have hm0 := hrg.cnt
      go_roundw
      case rel => exact ⟨acc ++ [((x1, x2), c)], rest2, _, _, rfl, hrg2, by simpa [encG] using hown2, hb2⟩
      case measure => rw [hm1, hm0]; exact hlt
end Go.Proofs.Ythinomhjhkhidaa.SeqM
