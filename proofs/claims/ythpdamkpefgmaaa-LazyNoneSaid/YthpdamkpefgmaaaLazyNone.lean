/- LazyNone: of a nil queue nothing is got; without what is live nothing is taken. No condition. -/
import Derived.Test.YthpdamkpefgmaaaLazyLaw
import Derived.Test.YthpdamkpefgmaaaOpen
import Derived.Lib.SmallJoins
namespace Go.Proofs.Ythpdamkpefgmaaa.LazyNone
open Go.RowKit Go.ChangeShapes Go.WideShapes Go.Deep Go.Shelf Go.Maps Go.Proofs.YthpdamkpefgmaaaW.PrintWords Go.Proofs.YthpdamkpefgmaaaW.PrintLast Go.Proofs.YthpdamkpefgmaaaW.PrintMore Base Foot Src RangeSt ExtTail SymPure Sym PairW BetOrd HeapPure Heap3 PMap LazyQ LazyPut LazyPop LazyLaw
set_option linter.unusedVariables false
set_option linter.unusedSimpArgs false
attribute [local go_sem ↓] Go.wp_at_zero Go.wp_at_succ
attribute [-go_sem] Instr.build
attribute [local go_sem high] buildI buildI0 buildS0 buildP eqIt eqSt

/-- the empty queue behind one Put -/
theorem put_one {B : Nat} {w : World} {q tb : Nat} {lv mv : Value} {T : List J} {bh : Nat} {hl : Value} {mb : Nat} (h : QueT B w q tb lv mv T bh hl mb [] [] Sts.zero) (p : PK) (hp : P64 p) (n : Int) (hn : In64 n) :
    Calls Try.prog 15 #[qp q, vP p, .int .i64 n] w fun e w' => e = .returned (.tuple #[]) ∧ ∃ bh' hl' L K s, QueT B w' q tb lv mv T bh' hl' mb L K s ∧ Upd (QFoot q bh hl mb) (QFoot q bh' hl' mb) w w' ∧ (L.length : Int) = (if 1 ≤ n then 1 else 0) ∧ (K.length : Int) = (if 1 ≤ n then 1 else 0) := by
  by_cases h1 : 1 ≤ n
  · refine (put_high h p hp n h1 hn (by simp) (by simp) (by simp [Sts.zero]) (by simp [Sts.zero])).mono ?_
    rintro e w' ⟨rfl, bh', hl', q1, u1⟩
    rw [pushL_no (.inl (by simp))] at q1
    exact ⟨rfl, bh', hl', _, _, _, q1, u1, by simp [h1], by simp [h1, putL, dropL]⟩
  · refine (put_low h p hp n (by omega)).mono ?_
    rintro e w' ⟨rfl, q1, u1⟩
    exact ⟨rfl, bh, hl, _, _, _, q1, u1, by simp [h1], by simp [h1, dropL]⟩

set_option maxHeartbeats 3200000 in
set_option maxRecDepth 100000 in
theorem law_any (p : PK) (hp : P64 p) (n : Int) (hn : In64 n) (w : World) :
    Calls Try.prog 5 #[vP p, .int .i64 n] w fun e w' => e = .returned (.bool true) ∧ Below w.heap.size w w' := by
  obtain ⟨p1, p2⟩ := p
  have hmf : ∀ (fn : Fn) (first cap : Array Value) (w : World), (Instr.makeFunc fn first cap).run Try.prog w = .ok (.func fn first cap) w := fun _ _ _ _ => rfl
  have b0 : Below w.heap.size w ((w.alloc (.cells #[.int .i64 p1, .int .i64 p2] 41)).alloc (.cells #[.int .i64 n] 3)) := ((Below.refl _ _).alloc (Nat.le_refl _) _).alloc (by simp) _
  have k0 := alloc_blk (x := .cells #[.int .i64 n] 3) (heap_alloc_new w (.cells #[.int .i64 p1, .int .i64 p2] 41))
  have k1 := heap_alloc_new (w.alloc (.cells #[.int .i64 p1, .int .i64 p2] 41)) (.cells #[.int .i64 n] 3)
  simp only [World.size_alloc] at k1
  unfold vP
  go_enter Try.func5, Try.ntmps5
  go_wp2_with fail
  generalize (w.alloc (.cells #[.int .i64 p1, .int .i64 p2] 41)).alloc (.cells #[.int .i64 n] 3) = w0 at *
  refine (awake_any _).mono ?_
  rintro e w1 ⟨rfl, b1⟩
  have b01 := b0.trans (b1.mono b0.size)
  replace k0 := (b1.block _ (block_lt k0)).trans k0
  replace k1 := (b1.block _ (block_lt k1)).trans k1
  have c0 := cell_at k0 0
  have c1 := cell_at k0 1
  have cn := cell_at k1 0
  simp only [List.getElem?_toArray, List.getElem?_cons_zero, List.getElem?_cons_succ] at c0 c1 cn
  go_wp2_with fail
  refine (put_nil (p1, p2) n _).mono ?_
  rintro e w2 ⟨rfl, b2⟩
  have b02 := b01.trans (b2.mono b01.size)
  replace k0 := (b2.block _ (block_lt k0)).trans k0
  replace k1 := (b2.block _ (block_lt k1)).trans k1
  clear c0 c1 cn b0 b1 b2 b01
  go_wp2_with fail
  refine (pop_nil _ _ _ _).mono ?_
  rintro e w3 ⟨rfl, b3⟩
  have b03 := b02.trans (b3.mono b02.size)
  replace k0 := (b3.block _ (block_lt k0)).trans k0
  replace k1 := (b3.block _ (block_lt k1)).trans k1
  clear b02 b3
  go_wp2_with fail
  have b04 := b03.alloc b03.size (.cells #[.int .i64 0, .int .i64 0, .int .i64 0] 48)
  have k6 := heap_alloc_new w3 (.cells #[.int .i64 0, .int .i64 0, .int .i64 0] 48)
  replace k0 := alloc_blk (x := .cells #[.int .i64 0, .int .i64 0, .int .i64 0] 48) k0
  replace k1 := alloc_blk (x := .cells #[.int .i64 0, .int .i64 0, .int .i64 0] 48) k1
  have hz3 := b03.size
  generalize hw4 : w3.alloc (.cells #[.int .i64 0, .int .i64 0, .int .i64 0] 48) = w4 at *
  clear hw4 b03
  generalize hr6 : w3.heap.size = r6 at *
  clear hr6
  refine (Sym.new_any w4).mono ?_
  rintro e w5 ⟨rfl, s5, b5⟩
  have b05 := b04.trans (b5.mono b04.size)
  replace k0 := (b5.block _ (block_lt k0)).trans k0
  replace k1 := (b5.block _ (block_lt k1)).trans k1
  replace k6 := (b5.block _ (block_lt k6)).trans k6
  clear b04 b5
  go_wp2_with fail
  refine (LazyPut.new_any s5).mono ?_
  rintro e w6 ⟨q, bh, mb, rfl, q6, b6⟩
  have b06 := b05.trans (b6.mono b05.size)
  have hb5 := b05.size
  have l0 := block_lt k0
  have l1 := block_lt k1
  have l6 := block_lt k6
  replace k0 := (b6.block _ l0).trans k0
  replace k1 := (b6.block _ l1).trans k1
  replace k6 := (b6.block _ l6).trans k6
  have c0 := cell_at k0 0
  have c1 := cell_at k0 1
  have cn := cell_at k1 0
  simp only [List.getElem?_toArray, List.getElem?_cons_zero, List.getElem?_cons_succ] at c0 c1 cn
  have Q6 := Lib.hid q6
  clear b05 b6 q6
  unfold qp
  go_wp2_with fail
  refine (put_one Q6.out (p1, p2) hp n hn).mono ?_
  rintro e w7 ⟨rfl, bh7, hl7, L, K, s, q7, u7, hL, hK⟩
  have hge := fun k hk => (QueT.lt Q6.out k hk).1
  have b07 : Below w.heap.size w w7 := b06.trans (u7.below b06.size (fun k hk => by have := hge k hk; omega))
  replace k0 := (u7.block _ (block_lt k0) (fun hf => by have := hge _ hf; omega)).trans k0
  replace k1 := (u7.block _ (block_lt k1) (fun hf => by have := hge _ hf; omega)).trans k1
  replace k6 := (u7.block _ (block_lt k6) (fun hf => by have := hge _ hf; omega)).trans k6
  have Q7 := Lib.hid q7
  have HL := Lib.hid hL
  have HK := Lib.hid hK
  clear q7 u7 b06 Q6 hL hK hge c0 c1 cn l0 l1 l6
  go_wp2_with fail
  refine (pop_dead q _).mono ?_
  rintro e w8 ⟨rfl, b8⟩
  have b08 := b07.trans (b8.mono b07.size)
  have q8 := QueT.below Q7.out b8
  replace k1 := (b8.block _ (block_lt k1)).trans k1
  replace k6 := (b8.block _ (block_lt k6)).trans k6
  have b9 : Below w8.heap.size w8 (w8.alloc (.cells #[.int .i64 0, .int .i64 0, .int .i64 0] 48)) := (Below.refl _ _).alloc (Nat.le_refl _) _
  have b09 := b08.trans (b9.mono b08.size)
  have q9 := QueT.below q8 b9
  have k9 := heap_alloc_new w8 (.cells #[.int .i64 0, .int .i64 0, .int .i64 0] 48)
  have l1 := block_lt k1
  have l6 := block_lt k6
  have cn := cell_at k1 0
  have e0 := cell_at k6 0
  have e1 := cell_at k6 1
  have e2 := cell_at k6 2
  simp only [List.getElem?_toArray, List.getElem?_cons_zero, List.getElem?_cons_succ] at cn e0 e1 e2
  have Q9 := Lib.hid q9
  clear q8 b8 b07 b08 b9 q9 k0 Q7
  by_cases hn1 : 1 ≤ n
  all_goals
    simp only [hn1, if_true, if_false] at HL HK
    go_wp2_with fail
    generalize hw9 : w8.alloc (.cells #[.int .i64 0, .int .i64 0, .int .i64 0] 48) = w9 at *
    clear hw9
    generalize hr9 : w8.heap.size = r9 at *
    clear hr9
    refine (LazyLaw.len_nil _).mono ?_
    rintro e w10 ⟨rfl, rfl⟩
    go_wp2_with fail
    refine (LazyLaw.known_nil _).mono ?_
    rintro e w10 ⟨rfl, rfl⟩
    go_wp2_with fail
    refine (LazyLaw.stats_nil _).mono ?_
    rintro e w10 ⟨rfl, b10⟩
    have q10 := QueT.below Q9.out b10
    have bb10 := b09.trans (b10.mono b09.size)
    have k10 := (b10.block _ (block_lt k9)).trans k9
    have d0 := cell_at k10 0
    have d1 := cell_at k10 1
    have d2 := cell_at k10 2
    simp only [List.getElem?_toArray, List.getElem?_cons_zero, List.getElem?_cons_succ] at d0 d1 d2
    have Q10 := Lib.hid q10
    clear Q9 q10 b10 b09 k9 k10
    go_wp2_with fail
    refine (qlen_any Q10.out).mono ?_
    rintro e w11 ⟨rfl, rfl⟩
    rw [HL.out]
    go_wp2_with fail
    refine (known_any Q10.out).mono ?_
    rintro e w11 ⟨rfl, rfl⟩
    rw [HK.out]
    go_wp2_with fail
    go_ret
    exact ⟨rfl, bb10⟩
section
variable {H : Type} {enc' : TypeId × Value → H} {w : World} {base : Nat} {spare : Nat → Bool} {held : Bool}
set_option maxRecDepth 100000 in
theorem agg_Pair {r : Reach} {b0 : Nat} {v : Value} {d : DataW H} {p : List MemPlace} (hv : Value.okWide Try.prog w r b0 41 v) (h : DataW.Trod enc' Try.prog w base spare held 41 v d p) :
    ∃ x : PK, v = vP x ∧ P64 x := by
  obtain ⟨v0, v1, y0, y1, n, rfl, _, _, h0, h1⟩ := Joins.open_agg2 Try.underlying41 (by kernel_rfl) (by kernel_rfl) hv h
  obtain ⟨k0, e0, _, w0⟩ := DataW.trod_int Try.underlying3 h0
  obtain ⟨k1, e1, _, w1⟩ := DataW.trod_int Try.underlying3 h1
  cases e0
  cases e1
  exact ⟨(k0, k1), rfl, OpenArg.wf_in w0, OpenArg.wf_in w1⟩
end
theorem walk (W : World) (p : PK) (hp : P64 p) (n : Int) (hn : (Lit.int .i64 n).wf = true) : Calls Try.prog 5 #[vP p, .int .i64 n] W fun e w' => e = .returned (.bool true) ∧ Below W.heap.size W w' := law_any p hp n (of_wf hn) W
end Go.Proofs.Ythpdamkpefgmaaa.LazyNone
