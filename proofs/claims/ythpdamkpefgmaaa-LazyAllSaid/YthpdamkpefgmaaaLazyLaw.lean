/- Layer 15, the laws: a nil queue, what is compared, the document's example. -/
import Derived.Test.YthpdamkpefgmaaaLazyPop
import Derived.Test.YthpdamkpefgmaaaWEqStruct
namespace Go.Proofs.Ythpdamkpefgmaaa.LazyLaw
open Go.RowKit Go.Shelf Go.Maps Go.Proofs.YthpdamkpefgmaaaW.PrintWords Go.Proofs.YthpdamkpefgmaaaW.PrintLast Go.Proofs.YthpdamkpefgmaaaW.PrintMore Base Foot Src RangeSt ExtTail SymPure Sym PairW BetOrd HeapPure Heap3 PMap LazyQ LazyPut LazyPop
set_option linter.unusedVariables false
set_option linter.unusedSimpArgs false
attribute [local go_sem ↓] Go.wp_at_zero Go.wp_at_succ
attribute [-go_sem] Instr.build
theorem buildP (a b : Int) (w : World) : (Instr.build 41 #[(0, .int .i64 a), (1, .int .i64 b)]).run Try.prog w = .ok (.agg #[.int .i64 a, .int .i64 b]) w := run_build w _ _ _ (by kernel_rfl)
attribute [local go_sem high] buildI buildI0 buildS0 buildP

theorem eqP (d : Nat) (w : World) (x0 y0 x1 y1 : Int) :
    (Op.equalIn (d + 2) 41 (.agg #[.int .i64 x0, .int .i64 x1]) (.agg #[.int .i64 y0, .int .i64 y1])).run Try.prog w = .ok (x0 == y0 && (x1 == y1)) w := by
  refine eqA_of Try.underlying41 (by kernel_rfl) ?_
  refine eqf_cons (by rfl) (by go_simp; rfl) (by go_simp; rfl) (by go_simp) ?_
  exact eqf_last (by rfl) (by go_simp; rfl) (by go_simp; rfl) (by go_simp)
theorem eqIt (d : Nat) (w : World) (x0 y0 x1 y1 x2 y2 : Int) :
    (Op.equalIn (d + 3) 48 (.agg #[.int .i64 x0, .int .i64 x1, .int .i64 x2]) (.agg #[.int .i64 y0, .int .i64 y1, .int .i64 y2])).run Try.prog w = .ok ((x0 == y0 && (x1 == y1)) && (x2 == y2)) w := by
  refine eqA_of Try.underlying48 (by kernel_rfl) ?_
  refine eqf_cons (a := .agg #[.int .i64 x0, .int .i64 x1]) (b := .agg #[.int .i64 y0, .int .i64 y1]) (by rfl) (by go_simp) (by go_simp) (eqP d w x0 y0 x1 y1) ?_
  exact eqf_last (by rfl) (by go_simp; rfl) (by go_simp; rfl) (by go_simp)
theorem eqSt (d : Nat) (w : World) (x0 y0 x1 y1 x2 y2 x3 y3 x4 y4 x5 y5 : Int) :
    (Op.equalIn (d + 2) 36 (.agg #[.int .i64 x0, .int .i64 x1, .int .i64 x2, .int .i64 x3, .int .i64 x4, .int .i64 x5]) (.agg #[.int .i64 y0, .int .i64 y1, .int .i64 y2, .int .i64 y3, .int .i64 y4, .int .i64 y5])).run Try.prog w = .ok (x0 == y0 && (x1 == y1 && (x2 == y2 && (x3 == y3 && (x4 == y4 && (x5 == y5)))))) w := by
  refine eqA_of Try.underlying36 (by kernel_rfl) ?_
  refine eqf_cons (by rfl) (by go_simp; rfl) (by go_simp; rfl) (by go_simp) ?_
  refine eqf_cons (by rfl) (by go_simp; rfl) (by go_simp; rfl) (by go_simp) ?_
  refine eqf_cons (by rfl) (by go_simp; rfl) (by go_simp; rfl) (by go_simp) ?_
  refine eqf_cons (by rfl) (by go_simp; rfl) (by go_simp; rfl) (by go_simp) ?_
  refine eqf_cons (by rfl) (by go_simp; rfl) (by go_simp; rfl) (by go_simp) ?_
  exact eqf_last (by rfl) (by go_simp; rfl) (by go_simp; rfl) (by go_simp)

set_option maxHeartbeats 400000 in
theorem put_nil (p : PK) (n : Int) (w : World) : Calls Try.prog 15 #[.pointer none, vP p, .int .i64 n] w fun e w' => e = .returned (.tuple #[]) ∧ Below w.heap.size w w' := by
  obtain ⟨p1, p2⟩ := p
  unfold vP
  go_enter Try.func15, Try.ntmps15
  go_wp2_with fail
  refine bodyPost_ret (results_none rfl _ _ _) rfl ?_
  exact ⟨rfl, (Below.refl _ _).alloc (Nat.le_refl _) _⟩
set_option maxHeartbeats 400000 in
theorem len_nil (w : World) : Calls Try.prog 22 #[.pointer none] w fun e w' => e = .returned (.int .i64 0) ∧ w = w' := by
  go_enter Try.func22, Try.ntmps22
  go_wp2
  go_ret
  exact ⟨rfl, rfl⟩
set_option maxHeartbeats 400000 in
theorem known_nil (w : World) : Calls Try.prog 23 #[.pointer none] w fun e w' => e = .returned (.int .i64 0) ∧ w = w' := by
  go_enter Try.func23, Try.ntmps23
  go_wp2
  go_ret
  exact ⟨rfl, rfl⟩
set_option maxHeartbeats 400000 in
set_option maxRecDepth 100000 in
theorem stats_nil (w : World) : Calls Try.prog 24 #[.pointer none] w fun e w' => e = .returned (.agg #[.int .i64 0, .int .i64 0, .int .i64 0, .int .i64 0, .int .i64 0, .int .i64 0]) ∧ Below w.heap.size w w' := by
  go_enter Try.func24, Try.ntmps24
  go_wp2_with fail
  exact bodyPost_ret (v := .agg #[.int .i64 0, .int .i64 0, .int .i64 0, .int .i64 0, .int .i64 0, .int .i64 0]) (by simp [results, Try.results24, go_sem]) rfl ⟨rfl, (Below.refl _ _).alloc (Nat.le_refl _) _⟩
set_option maxHeartbeats 800000 in
set_option maxRecDepth 100000 in
theorem pop_nil (LF : Nat) (fb cb : Array Value) (w : World) : Calls Try.prog 19 #[.pointer none, .func (.func LF) fb cb] w fun e w' => e = .returned (.tuple #[.agg #[.int .i64 0, .int .i64 0, .int .i64 0], .bool false]) ∧ Below w.heap.size w w' := by
  go_enter Try.func19, Try.ntmps19
  go_wp2_with fail
  have k2 := alloc_blk (x := .cells #[.bool false] 4) (heap_alloc_new ((w.alloc (.cells #[.pointer none] 24)).alloc (.cells #[.func (.func LF) fb cb] 46)) (.cells #[.int .i64 0, .int .i64 0, .int .i64 0] 48))
  have k3 := heap_alloc_new (((w.alloc (.cells #[.pointer none] 24)).alloc (.cells #[.func (.func LF) fb cb] 46)).alloc (.cells #[.int .i64 0, .int .i64 0, .int .i64 0] 48)) (.cells #[.bool false] 4)
  simp only [World.size_alloc] at k2 k3
  have r0 := cell_at k2 0
  have r1 := cell_at k2 1
  have r2 := cell_at k2 2
  have r3 := cell_at k3 0
  simp only [List.getElem?_toArray, List.getElem?_cons_zero, List.getElem?_cons_succ] at r0 r1 r2 r3
  exact bodyPost_ret (v := .tuple #[.agg #[.int .i64 0, .int .i64 0, .int .i64 0], .bool false]) (by simp [results, Try.f19, Try.results19, go_sem, r0, r1, r2, r3]) rfl ⟨rfl, ((((Below.refl _ _).alloc (Nat.le_refl _) _).alloc (by simp) _).alloc (by simp; omega) _).alloc (by simp; omega) _⟩
set_option maxHeartbeats 800000 in
set_option maxRecDepth 100000 in
theorem pop_dead (q : Nat) (w : World) : Calls Try.prog 19 #[qp q, .nilFunc] w fun e w' => e = .returned (.tuple #[.agg #[.int .i64 0, .int .i64 0, .int .i64 0], .bool false]) ∧ Below w.heap.size w w' := by
  have hn := ln_eq
  unfold qp
  go_enter Try.func19, Try.ntmps19
  go_wp2_with fail
  have k2 := alloc_blk (x := .cells #[.bool false] 4) (heap_alloc_new ((w.alloc (.cells #[.pointer (some ⟨q, 0, none⟩)] 24)).alloc (.cells #[.nilFunc] 46)) (.cells #[.int .i64 0, .int .i64 0, .int .i64 0] 48))
  have k3 := heap_alloc_new (((w.alloc (.cells #[.pointer (some ⟨q, 0, none⟩)] 24)).alloc (.cells #[.nilFunc] 46)).alloc (.cells #[.int .i64 0, .int .i64 0, .int .i64 0] 48)) (.cells #[.bool false] 4)
  simp only [World.size_alloc] at k2 k3
  have r0 := cell_at k2 0
  have r1 := cell_at k2 1
  have r2 := cell_at k2 2
  have r3 := cell_at k3 0
  simp only [List.getElem?_toArray, List.getElem?_cons_zero, List.getElem?_cons_succ] at r0 r1 r2 r3
  exact bodyPost_ret (v := .tuple #[.agg #[.int .i64 0, .int .i64 0, .int .i64 0], .bool false]) (by simp [results, Try.f19, Try.results19, go_sem, r0, r1, r2, r3]) rfl ⟨rfl, ((((Below.refl _ _).alloc (Nat.le_refl _) _).alloc (by simp) _).alloc (by simp; omega) _).alloc (by simp; omega) _⟩
theorem live1 : Live 51 #[] (fun _ => 2) (fun _ => True) (fun _ => False) :=
  ⟨enters_of Try.func51 (by kernel_rfl) rfl, fun w p _ hp => by
    obtain ⟨p1, p2⟩ := p
    unfold vP
    go_enter Try.func51, Try.ntmps51
    go_wp2
    go_ret
    exact ⟨rfl, (Below.refl _ _).alloc (Nat.le_refl _) _⟩, fun _ _ _ _ => trivial, fun _ _ _ h => h.elim⟩
def ex2 : List It := [((97, 98), 2), ((97, 98), 3)]
theorem ex_bet : betB [] ((97, 98), 3) ((97, 98), 2) = true := by simp [betB, cmpIt, CmpW.orI, CmpW.cmpI]
theorem ex_pop {pr rest : List It} {x : It} (hp : (pr ++ [x] ++ rest).Perm ex2) (hx : x.2 = 2) (hB : Best (betB []) ex2 (pr ++ [x])) : pr = [((97, 98), 3)] ∧ x = ((97, 98), 2) ∧ rest = [] := by
  have hmem : x ∈ ex2 := hp.mem_iff.1 (by simp)
  have ex : x = ((97, 98), 2) := by
    unfold ex2 at hmem
    rcases List.mem_cons.1 hmem with h | h
    · exact h
    · rw [List.mem_singleton.1 h] at hx; cases hx
  subst ex
  have hp2 : (pr ++ rest).Perm [((97, 98), 3)] := by
    have h1 : (((97, 98), 2) :: (pr ++ rest)).Perm ex2 := (by simpa using (List.perm_middle (a := ((97, 98), (2 : Int))) (l₁ := pr) (l₂ := rest)).symm : (((97, 98), (2 : Int)) :: (pr ++ rest)).Perm (pr ++ [((97, 98), 2)] ++ rest)).trans hp
    exact (List.perm_cons _).1 h1
  rw [List.perm_singleton] at hp2
  cases pr with
  | nil =>
    simp at hp2
    obtain ⟨r2, h1, h2⟩ := hB [] _ [] rfl
    have h3 : r2.Perm [((97, 98), 3)] := (List.perm_cons ((97, 98), (2 : Int))).1 (by simpa [ex2] using h1)
    rw [List.perm_singleton] at h3
    have := h2 ((97, 98), 3) (by rw [h3]; simp)
    rw [ex_bet] at this; cases this
  | cons a t =>
    simp at hp2
    exact ⟨by rw [hp2.1, hp2.2.1], rfl, hp2.2.2⟩

theorem fieldS (a b c d e f : Int) (w : World) : (Instr.field 36 (.agg #[.int .i64 a, .int .i64 b, .int .i64 c, .int .i64 d, .int .i64 e, .int .i64 f]) 3).run Try.prog w = .ok (.int .i64 d) w := by kernel_rfl
attribute [local go_sem high] eqIt eqSt fieldS
set_option maxHeartbeats 3200000 in
set_option maxRecDepth 100000 in
theorem awake_any (w : World) : Calls Try.prog 11 #[] w fun e w' => e = .returned (.bool true) ∧ Below w.heap.size w w' := by
  go_enter Try.func11, Try.ntmps11
  go_wp2_with fail
  refine (Sym.new_any w).mono ?_
  rintro e w1 ⟨rfl, s1, b1⟩
  go_wp2_with fail
  refine (LazyPut.new_any s1).mono ?_
  rintro e w2 ⟨q, bh, mb, rfl, q2, b2⟩
  have b02 := b1.trans (b2.mono b1.size)
  unfold qp
  go_wp2_with fail
  have hz2 := b02.size
  have b23 : Below w2.heap.size w2 (w2.alloc (.cells #[.int .i64 97, .int .i64 98] 41)) := (Below.refl _ _).alloc (Nat.le_refl _) _
  have q3 := QueT.below q2 b23
  have hlt := QueT.lt q2
  have x3 := heap_alloc_new w2 (.cells #[.int .i64 97, .int .i64 98] 41)
  have b03 := b02.trans (b23.mono hz2)
  generalize hwp : w2.heap.size = bp at *
  generalize w2.alloc (.cells #[.int .i64 97, .int .i64 98] 41) = w3 at *
  have hP : P64 (97, 98) := ⟨⟨by decide, by decide⟩, ⟨by decide, by decide⟩⟩
  refine (put_high q3 (97, 98) hP 3 (by decide) ⟨by decide, by decide⟩ (by simp) (by simp) (by simp [Sts.zero]) (by simp [Sts.zero])).mono ?_
  rintro e w4 ⟨rfl, bh4, hl4, q4, u4⟩
  rw [pushL_no (.inl (by simp)), pushS_no (.inl (by simp))] at q4
  have b04 : Below w.heap.size w w4 := b03.trans (u4.below b03.size (fun k hk => by have := (QueT.lt q3 k hk).1; have := b1.size; omega))
  have x4 := (u4.block bp (block_lt x3) (fun hf => by have := (hlt bp hf).2; omega)).trans x3
  have hlt4 : ∀ k, QFoot q bh4 hl4 mb k → k ≠ bp := fun k hk e => by
    rcases u4.new k hk with h | h
    · have := (hlt k h).2; omega
    · have := block_lt x3; omega
  have c0 := cell_at x4 0
  have c1 := cell_at x4 1
  simp only [List.getElem?_toArray, List.getElem?_cons_zero, List.getElem?_cons_succ] at c0 c1
  have Q4 := Lib.hid q4
  have HLT4 := Lib.hid hlt4
  clear q3 u4 x3 b03 hlt q2 b23 hlt4 s1 q4
  go_wp2_with fail
  refine (put_high Q4.out (97, 98) hP 2 (by decide) ⟨by decide, by decide⟩ (by simp) (by simp [putL, dropL]) (by simp [Sts.zero]) (by simp [Sts.zero])).mono ?_
  rintro e w5 ⟨rfl, bh5, hl5, q5, u5⟩
  rw [pushL_no (.inl (by simp)), pushS_no (.inl (by simp))] at q5
  have b05 : Below w.heap.size w w5 := b04.trans (u5.below b04.size (fun k hk => by have := (QueT.lt Q4.out k hk).1; have := b1.size; omega))
  have x5 := (u5.block bp (block_lt x4) (fun hf => HLT4.out bp hf rfl)).trans x4
  have hlt5 : ∀ k, QFoot q bh5 hl5 mb k → k ≠ bp := fun k hk e => by
    rcases u5.new k hk with h | h
    · exact HLT4.out k h e
    · have := block_lt x4; omega
  have Q5 := Lib.hid q5
  have HLT5 := Lib.hid hlt5
  clear u5 x4 b04 Q4 HLT4 hlt5 c0 c1 q5
  go_wp2_with fail
  refine (pop_any Q5.out live1 trivial (fun k h => h.elim) (by simp [Sts.zero]) (fun x hx => by
    have : x.1 = (97, 98) := by
      rcases List.mem_cons.1 hx with h | h
      · rw [h]
      · rw [List.mem_singleton.1 h]
    rw [this]; exact hP)).mono ?_
  rintro e w6 ⟨hl6, pre, g6, u6, hB, hcase⟩
  have b06 : Below w.heap.size w w6 := b05.trans (u6.below b05.size (fun k hk => by have := (QueT.lt Q5.out k hk).1; have := b1.size; omega))
  have x6 := (u6.block bp (block_lt x5) (fun hf => HLT5.out bp hf rfl)).trans x5
  rcases hcase with ⟨rfl, hperm, hst, _⟩ | ⟨pr, x, rest, rfl, rfl, hperm, hst, hx, q6⟩
  · exact absurd rfl (hst ((97, 98), 2) (hperm.mem_iff.2 (by simp)))
  · obtain ⟨rfl, rfl, rfl⟩ := ex_pop hperm hx hB
    have c0 := cell_at x6 0
    have c1 := cell_at x6 1
    simp only [List.getElem?_toArray, List.getElem?_cons_zero, List.getElem?_cons_succ] at c0 c1
    have Q6 := Lib.hid q6
    have hbp : bp < w6.heap.size := block_lt x6
    clear x5 b05 Q5 HLT5 g6 hB hperm hst hx q6 u6
    dsimp only
    go_wp2_with fail
    have b7 : Below w6.heap.size w6 (w6.alloc (.cells #[.int .i64 97, .int .i64 98, .int .i64 2] 48)) := (Below.refl _ _).alloc (Nat.le_refl _) _
    have b07 := b06.trans (b7.mono b06.size)
    have q7 := QueT.below Q6.out b7
    have Q7 := Lib.hid q7
    clear q7 Q6 b06 b7 x6 c0 c1
    generalize w6.alloc (.cells #[.int .i64 97, .int .i64 98, .int .i64 2] 48) = w7 at *
    refine (stats_any Q7.out).mono ?_
    rintro e w8 ⟨rfl, b8⟩
    have q8 := QueT.below Q7.out b8
    have b08 := b07.trans (b8.mono b07.size)
    simp only [Sts.zero, List.length_cons, List.length_append, List.length_nil]
    go_wp2_with fail
    refine (qlen_any q8).mono ?_
    rintro e w9 ⟨rfl, rfl⟩
    go_wp2_with fail
    go_ret
    exact ⟨rfl, b08⟩
end Go.Proofs.Ythpdamkpefgmaaa.LazyLaw
