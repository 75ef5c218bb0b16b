/- DeltaNone: a nil count has nothing, and takes nothing; a zero one takes pairs; what is put and taken again is gone. No condition. -/
import Derived.Test.YtaecngdabgnamaaDeltaApply
import Derived.Test.YtaecngdabgnamaaAgg
namespace Go.Proofs.Ytaecngdabgnamaa.DeltaNone
open Go.RowKit Go.Maps Go.ChangeShapes Go.WideShapes Go.Deep Go.Proofs.YtaecngdabgnamaaW.PrintWords Go.Proofs.YtaecngdabgnamaaW.PrintLast Go.Proofs.YtaecngdabgnamaaW.PrintMore Base Foot ExtTail PMap DMath Delta
set_option linter.unusedVariables false
set_option linter.unusedSimpArgs false
attribute [local go_sem ↓] Go.wp_at_zero Go.wp_at_succ

theorem buildP (a b : Int) (w : World) : (Instr.build 23 #[(0, .int .i64 a), (1, .int .i64 b)]).run Try.prog w = .ok (.agg #[.int .i64 a, .int .i64 b]) w := run_build w _ _ _ (by kernel_rfl)
theorem buildG (a b c : Int) (w : World) : (Instr.build 47 #[(0, .agg #[.int .i64 a, .int .i64 b]), (1, .int .i64 c)]).run Try.prog w = .ok (.agg #[.int .i64 a, .int .i64 b, .int .i64 c]) w := run_build w _ _ _ (by kernel_rfl)
theorem buildD (w : World) : (Instr.build 69 #[]).run Try.prog w = .ok (.agg #[.map none]) w := run_build w _ _ _ (by kernel_rfl)
attribute [-go_sem] Instr.build
attribute [local go_sem high] buildP buildG buildD

theorem sum_put {a b : Int} (ha : 0 ≤ a ∧ a ≤ 65535) (hb : 0 ≤ b ∧ b ≤ 65535) : sumD 0 a b = some (a * b) ∧ sumD (a * b) (-a) b = some 0 ∧ 0 ≤ a * b ∧ a * b ≤ 4294836225 := by
  have h1 : 0 ≤ a * b := Int.mul_nonneg ha.1 hb.1
  have h2 : a * b ≤ 65535 * 65535 := Int.mul_le_mul ha.2 hb.2 hb.1 (by omega)
  have h3 : -a * b = -(a * b) := Int.neg_mul a b
  refine ⟨?_, ?_, h1, by omega⟩
  · unfold sumD
    rw [if_pos ⟨by omega, by omega, by omega⟩, Int.zero_add]
  · unfold sumD
    rw [h3, if_pos ⟨by omega, by omega, by omega⟩]
    congr 1
    omega
theorem res_nil (p : PK) : res [] p = 0 := rfl
theorem set_zero (p : PK) (r : Int) : setL (setL [] p r) p 0 = [] := by
  unfold setL
  rw [if_pos rfl]
  split
  · rfl
  · rw [drop_put]; rfl
/-- adding, then taking away -/
theorem put_any {w : World} {b : Nat} {mv : Value} (h : DT w b mv []) (p : PK) (hp : P64 p) (x t : Int) (hx : 0 ≤ x ∧ x ≤ 65535) (ht : 0 ≤ t ∧ t ≤ 65535) :
    Calls Try.prog 23 #[.pointer (some ⟨b, 0, none⟩), vP p, .int .i64 x, .int .i64 t] w fun e w' => e = .returned (.int .i64 0) ∧ ∃ mv', DT w' b mv' (setL [] p (x * t)) ∧ Upd (DFoot b mv) (DFoot b mv') w w' :=
  add_ok h (by simp) p hp x t (x * t) (by unfold In64; omega) ⟨ht.1, by omega⟩ (by rw [res_nil]; exact (sum_put hx ht).1)
theorem take_any {w : World} {b : Nat} {mv : Value} (p : PK) (hp : P64 p) (x t : Int) (h : DT w b mv (setL [] p (x * t))) (hx : 0 ≤ x ∧ x ≤ 65535) (ht : 0 ≤ t ∧ t ≤ 65535) :
    Calls Try.prog 23 #[.pointer (some ⟨b, 0, none⟩), vP p, .int .i64 (-x), .int .i64 t] w fun e w' => e = .returned (.int .i64 0) ∧ ∃ mv', DT w' b mv' [] ∧ Upd (DFoot b mv) (DFoot b mv') w w' := by
  have hl : (setL [] p (x * t)).length < 1000000 := by
    unfold setL
    split
    · simp [dropL]
    · simp [putL, dropL]
  have := add_ok h hl p hp (-x) t 0 (by unfold In64; omega) ⟨ht.1, by omega⟩ (by rw [set_res, if_pos rfl]; exact (sum_put hx ht).2.1)
  rw [set_zero] at this
  exact this
set_option maxHeartbeats 1600000 in
set_option maxRecDepth 100000 in
theorem awake_any (w : World) : Calls Try.prog 21 #[] w fun e w' => e = .returned (.bool true) ∧ Below w.heap.size w w' := by
  have hp : P64 (97, 98) := ⟨by unfold In64; decide, by unfold In64; decide⟩
  go_enter Try.func21, Try.ntmps21
  go_wp2_with fail
  refine (new_any w).mono ?_
  rintro e w1 ⟨rfl, h1, b1⟩
  have hba := (Below.refl _ w1).alloc (Nat.le_refl _) (.cells #[.int .i64 97, .int .i64 98] 23)
  have hbx := heap_alloc_new w1 (.cells #[.int .i64 97, .int .i64 98] 23)
  have x0 := cell_at hbx 0
  have x1 := cell_at hbx 1
  simp only [List.getElem?_toArray, List.getElem?_cons_zero, List.getElem?_cons_succ] at x0 x1
  have h2 := h1.below hba
  have hs1 : w.heap.size < w1.heap.size := block_lt h1.blk
  have ha := put_any h2 (97, 98) hp 2 3 (by omega) (by omega)
  have HB := Lib.hid (b1.trans (hba.mono b1.size))
  have HD := Lib.hid h2
  have HX := Lib.hid hbx
  unfold vP at ha
  clear h1 b1 hba hbx h2
  go_wp2_with fail
  refine ha.mono ?_
  rintro e w2 ⟨rfl, mv2, h2, u2⟩
  have hx2 := (u2.block _ (block_lt HX.out) (HD.out.not_cells HX.out (by decide))).trans HX.out
  have x0 := cell_at hx2 0
  have x1 := cell_at hx2 1
  simp only [List.getElem?_toArray, List.getElem?_cons_zero, List.getElem?_cons_succ] at x0 x1
  have hg := get_any h2 (97, 98) hp
  rw [set_res, if_pos rfl] at hg
  unfold vP at hg
  have HB2 := Lib.hid (HB.out.trans (u2.below (B := w.heap.size) (by simp; omega) (foot_new _)))
  have g2 := foot_ge u2 (foot_new _) (by simp; omega)
  have HA := Lib.hid h2
  have HX2 := Lib.hid hx2
  clear ha h2 u2 hx2 HX
  go_wp2_with fail
  refine hg.mono ?_
  rintro e w3 ⟨rfl, b3⟩
  have h3 := HA.out.below b3
  have hx3 := (b3.block _ (block_lt HX2.out)).trans HX2.out
  have y0 := cell_at hx3 0
  have y1 := cell_at hx3 1
  simp only [List.getElem?_toArray, List.getElem?_cons_zero, List.getElem?_cons_succ] at y0 y1
  have ht := take_any (97, 98) hp 2 3 h3 (by omega) (by omega)
  unfold vP at ht
  have HB3 := Lib.hid (HB2.out.trans (b3.mono HB2.out.size))
  have HLT := Lib.hid h3.lt
  clear hg b3 h3 hx3 HA
  go_wp2_with fail
  refine ht.mono ?_
  rintro e w4 ⟨rfl, mv4, h4, u4⟩
  have hl := len_any h4
  have HB4 := Lib.hid (HB3.out.trans (u4.below HB3.out.size g2))
  clear ht h4 u4
  go_wp2_with fail
  refine hl.mono ?_
  rintro e w5 ⟨rfl, rfl⟩
  go_wp2_with fail
  go_ret
  exact ⟨rfl, HB4.out⟩
theorem res64_0 (p : PK) : (PMap.look ([] : List (PK × Int)) p).isSome = false := rfl
set_option maxHeartbeats 3200000 in
set_option maxRecDepth 100000 in
/-- a nil count takes no change -/
theorem apply_nil (w : World) (p : PK) (hp : P64 p) (x3 : Int) (g cp : Nat) (hg : w.heap[g]? = some (.cells #[.int .i64 p.1, .int .i64 p.2, .int .i64 x3] 47 (0, 0))) (t : Int) :
    Calls Try.prog 30 #[.pointer none, .slice (some ⟨g, 0, none⟩) 1 cp, .int .i64 t] w fun e w' => e = .returned (.tuple #[.slice none 0 0, .int .i64 1]) ∧ Below w.heap.size w w' := by
  obtain ⟨x1, x2⟩ := p
  simp only at hg
  have hmm := @run_makeMap Try.prog
  have hb1 := ((Below.refl _ w).alloc (Nat.le_refl _) (.cells #[.pointer none] 49)).alloc (by simp) (.map #[] 0)
  have hb2 := hb1.alloc hb1.size (.cells #[.int .i64 x1, .int .i64 x2, .int .i64 x3] 47)
  have hm0 := PM.made (w.alloc (.cells #[.pointer none] 49))
  have hbx := alloc_blk (x := .cells #[.int .i64 x1, .int .i64 x2, .int .i64 x3] 47) (alloc_blk (x := .map #[] 0) (heap_alloc_new w (.cells #[.pointer none] 49)))
  simp only [World.size_alloc] at hm0
  have hm2 := hm0.below ((Below.refl _ _).alloc (Nat.le_refl _) (.cells #[.int .i64 x1, .int .i64 x2, .int .i64 x3] 47))
  have hsz : ((w.alloc (.cells #[.pointer none] 49)).alloc (.map #[] 0)).heap.size = w.heap.size + 2 := by simp
  have hxb := heap_alloc_new ((w.alloc (.cells #[.pointer none] 49)).alloc (.map #[] 0)) (.cells #[.int .i64 x1, .int .i64 x2, .int .i64 x3] 47)
  simp only [World.size_alloc] at hxb
  have hg1 := (hb1.block _ (block_lt hg)).trans hg
  have y0 := cell_at hg1 0
  have y1 := cell_at hg1 1
  have y2 := cell_at hg1 2
  have z0 := cell_at hxb 0
  have z1 := cell_at hxb 1
  have z2 := cell_at hxb 2
  have z3 := cell_at hbx 0
  simp only [List.getElem?_toArray, List.getElem?_cons_zero, List.getElem?_cons_succ] at y0 y1 y2 z0 z1 z2 z3
  have lk := PM.look_ok Try.underlying67 hm2 hp
  rw [res64_0] at lk
  have e0 : (PMap.look ([] : List (PK × Int)) (x1, x2)).getD 0 = 0 := rfl
  rw [e0] at lk
  unfold vP at lk
  have HB2 := Lib.hid hb2
  have HM2 := Lib.hid hm2
  have HXB := Lib.hid hxb
  have HBX := Lib.hid hbx
  clear hb1 hb2 hm0 hm2 hbx hg1 hg e0 hxb
  go_enter Try.func30, Try.ntmps30
  go_wp2_with fail
  go_loopw [17] (fun v17 wr => v17 = .int .i64 0 ∧ wr = (w.alloc (.cells #[.pointer none] 49)).alloc (.map #[] 0)) (fun _ _ => 1)
  case atStart => exact ⟨rfl, rfl⟩
  case round =>
    obtain ⟨rfl, rfl⟩ := hrel
    go_wp2_with fail
    have hget := fun V => get_nil V (x1, x2)
    unfold vP at hget
    have hS2 := HB2.out.size
    generalize ((w.alloc (.cells #[.pointer none] 49)).alloc (.map #[] 0)).alloc (.cells #[.int .i64 x1, .int .i64 x2, .int .i64 x3] 47) = wa at *
    have g0 := fun g => Ext.cell (u := .int .i64 x1) z0 g
    have g1 := fun g => Ext.cell (u := .int .i64 x2) z1 g
    have g3 := fun g => Ext.cell (u := .pointer none) z3 g
    refine wp_region_ext_tail 7 (by kernel_rfl) (by kernel_rfl) ?_
    simp only [List.take_succ_cons, List.take_zero, List.drop_succ_cons, List.drop_zero]
    repeat (quiet_step (first | (go_at_call 25; exact ext_of (hget _))))
    refine wpQuiet_nil ?_
    rintro w6 ⟨⟨w7, b6⟩, he⟩
    have he2 : w6 = w7 := he
    subst he2
    clear he g0 g1 g3 hget
    have hK6 := HM2.out.below b6
    refine wp_put rfl _ _ _ rfl rfl hK6 (by simp) (p := (x1, x2)) (n := 0) rfl rfl hp (by unfold In64; omega) ?_
    intro w8 hK8 hg8
    have hx8 := grown_blk hg8 ((b6.block _ (block_lt HXB.out)).trans HXB.out) (by simp)
    have hc8 := grown_blk hg8 ((b6.block _ (block_lt HBX.out)).trans HBX.out) (by simp)
    have hb8 : Below w.heap.size w w8 := (HB2.out.trans (b6.mono HB2.out.size)).grown hg8 (by have := b6.size; omega) (fun k e => by cases e; omega)
    have d0 := cell_at hx8 0
    have d1 := cell_at hx8 1
    have d2 := cell_at hx8 2
    have d3 := cell_at hc8 0
    simp only [List.getElem?_toArray, List.getElem?_cons_zero, List.getElem?_cons_succ] at d0 d1 d2 d3
    have hadd := fun t => add_nil w8 (x1, x2) x3 t
    unfold vP at hadd
    clear z0 z1 z2 z3 lk y0 y1 y2 hg8 hK6 hK8
    go_wp2_with fail
    refine (hadd t).mono ?_
    rintro e w9 ⟨rfl, b9⟩
    go_wp2_with fail
    go_ret2
    exact ⟨rfl, hb8.trans (b9.mono hb8.size)⟩
set_option maxHeartbeats 6400000 in
set_option maxRecDepth 100000 in
theorem law_any (w : World) (p : PK) (hp : P64 p) (x t : Int) (hx : 0 ≤ x ∧ x ≤ 65535) (ht : 0 ≤ t ∧ t ≤ 65535) :
    Calls Try.prog 9 #[vP p, .int .u16 x, .int .u16 t] w fun e w' => e = .returned (.bool true) ∧ Below w.heap.size w w' := by
  obtain ⟨p1, p2⟩ := p
  have hbx := heap_alloc_new w (.cells #[.int .i64 p1, .int .i64 p2] 23)
  have hb := (Below.refl _ w).alloc (Nat.le_refl _) (.cells #[.int .i64 p1, .int .i64 p2] 23)
  unfold vP
  go_enter Try.func9, Try.ntmps9
  go_wp2_with fail
  refine (awake_any _).mono ?_
  rintro e w1 ⟨rfl, b1⟩
  have hx1 := (b1.block _ (block_lt hbx)).trans hbx
  have hB1 := hb.trans (b1.mono hb.size)
  have c0 := cell_at hx1 0
  have c1 := cell_at hx1 1
  simp only [List.getElem?_toArray, List.getElem?_cons_zero, List.getElem?_cons_succ] at c0 c1
  have hx2 := alloc_blk (x := .cells #[.int .i64 p1, .int .i64 p2, .int .i64 1] 47) hx1
  have hB2 := hB1.alloc hB1.size (.cells #[.int .i64 p1, .int .i64 p2, .int .i64 1] 47)
  have hapn := apply_nil (w1.alloc (.cells #[.int .i64 p1, .int .i64 p2, .int .i64 1] 47)) (p1, p2) hp 1 w1.heap.size 1 (heap_alloc_new _ _) 1
  have HX2 := Lib.hid hx2
  have HB2 := Lib.hid hB2
  clear hbx hb b1 hx1 hB1 hx2 hB2
  go_wp2_with fail
  refine hapn.mono ?_
  rintro e w2 ⟨rfl, b2⟩
  have hx2 := (b2.block _ (block_lt HX2.out)).trans HX2.out
  have hB3 := HB2.out.trans (b2.mono HB2.out.size)
  have c0 := cell_at hx2 0
  have c1 := cell_at hx2 1
  simp only [List.getElem?_toArray, List.getElem?_cons_zero, List.getElem?_cons_succ] at c0 c1
  have hadd := add_nil w2 (p1, p2) 1 1
  unfold vP at hadd
  clear hapn b2 HX2 HB2
  go_wp2_with fail
  refine hadd.mono ?_
  rintro e w3 ⟨rfl, b3⟩
  have hx3 := (b3.block _ (block_lt hx2)).trans hx2
  have hB4 := hB3.trans (b3.mono hB3.size)
  have c0 := cell_at hx3 0
  have c1 := cell_at hx3 1
  simp only [List.getElem?_toArray, List.getElem?_cons_zero, List.getElem?_cons_succ] at c0 c1
  have hget := get_nil w3 (p1, p2)
  unfold vP at hget
  clear hadd b3 hx2 hB3
  go_wp2_with fail
  refine hget.mono ?_
  rintro e w4 ⟨rfl, b4⟩
  have hx4 := (b4.block _ (block_lt hx3)).trans hx3
  have hB5 := hB4.trans (b4.mono hB4.size)
  clear hget b4 hx3 hB4
  go_wp2_with fail
  refine (len_nil w4).mono ?_
  rintro e w5 ⟨rfl, rfl⟩
  go_wp2_with fail
  refine (all_nil _).mono ?_
  rintro e w6 ⟨rfl, rfl⟩
  obtain ⟨hx1, hx2⟩ := hx
  obtain ⟨ht1, ht2⟩ := ht
  have hxw := IntWalk.i64_in x (by omega)
  have htw := IntWalk.i64_in t (by omega)
  have hbw : w.heap.size < w6.heap.size := block_lt hx4
  have hD := heap_alloc_new w6 (.cells #[.map none] 69)
  have hDT : DT (w6.alloc (.cells #[.map none] 69)) w6.heap.size (.map none) [] := ⟨hD, .inl ⟨rfl, rfl⟩, fun _ h => by cases h⟩
  have hx7 := alloc_blk (x := .cells #[.map none] 69) hx4
  have hB7 := hB5.alloc hB5.size (.cells #[.map none] 69)
  have c0 := cell_at hx7 0
  have c1 := cell_at hx7 1
  simp only [List.getElem?_toArray, List.getElem?_cons_zero, List.getElem?_cons_succ] at c0 c1
  have hput := put_any hDT (p1, p2) hp x t ⟨hx1, hx2⟩ ⟨ht1, ht2⟩
  have hsp := sum_put ⟨hx1, hx2⟩ ⟨ht1, ht2⟩
  obtain ⟨_, _, q1, q2⟩ := hsp
  unfold vP at hput
  have HDT := Lib.hid hDT
  have HX7 := Lib.hid hx7
  have HB7 := Lib.hid hB7
  clear hD hDT hx7 hB7 hB5 hx4
  go_wp2_with fail
  refine hput.mono ?_
  rintro e w7 ⟨rfl, mv7, h7, u7⟩
  have hx8 := (u7.block _ (block_lt HX7.out) (HDT.out.not_cells HX7.out (by decide))).trans HX7.out
  have g7 : ∀ k, DFoot w6.heap.size mv7 k → w.heap.size ≤ k := foot_ge u7 (fun k hk => by have := foot_new _ k hk; omega) (by simp; omega)
  have HB8 := Lib.hid (HB7.out.trans (u7.below (B := w.heap.size) (by simp; omega) (fun k hk => by have := foot_new _ k hk; omega)))
  have c0 := cell_at hx8 0
  have c1 := cell_at hx8 1
  simp only [List.getElem?_toArray, List.getElem?_cons_zero, List.getElem?_cons_succ] at c0 c1
  have hg := get_any h7 (p1, p2) hp
  rw [set_res, if_pos rfl] at hg
  unfold vP at hg
  have HD7 := Lib.hid h7
  have HX8 := Lib.hid hx8
  clear hput h7 u7 hx8 HX7 HDT HB7
  have hmw := IntWalk.i64_in (x * t) (by omega)
  go_wp2_with fail
  refine hg.mono ?_
  rintro e w8 ⟨rfl, b8⟩
  have h8 := HD7.out.below b8
  have hx9 := (b8.block _ (block_lt HX8.out)).trans HX8.out
  have HB9 := Lib.hid (HB8.out.trans (b8.mono HB8.out.size))
  have c0 := cell_at hx9 0
  have c1 := cell_at hx9 1
  simp only [List.getElem?_toArray, List.getElem?_cons_zero, List.getElem?_cons_succ] at c0 c1
  have htk := take_any (p1, p2) hp x t h8 ⟨hx1, hx2⟩ ⟨ht1, ht2⟩
  unfold vP at htk
  have HD8 := Lib.hid h8
  have HX9 := Lib.hid hx9
  clear hg b8 h8 hx9 HD7 HX8 HB8
  go_wp2_with fail
  refine htk.mono ?_
  rintro e w9 ⟨rfl, mv9, h9, u9⟩
  have hx10 := (u9.block _ (block_lt HX9.out) (HD8.out.not_cells HX9.out (by decide))).trans HX9.out
  have HB10 := Lib.hid (HB9.out.trans (u9.below HB9.out.size g7))
  have c0 := cell_at hx10 0
  have c1 := cell_at hx10 1
  simp only [List.getElem?_toArray, List.getElem?_cons_zero, List.getElem?_cons_succ] at c0 c1
  have hg := get_any h9 (p1, p2) hp
  rw [res_nil] at hg
  unfold vP at hg
  have HD9 := Lib.hid h9
  clear htk h9 u9 hx10 HX9 HD8 HB9
  go_wp2_with fail
  refine hg.mono ?_
  rintro e w10 ⟨rfl, b10⟩
  have hl := len_any (HD9.out.below b10)
  have HB11 := Lib.hid (HB10.out.trans (b10.mono HB10.out.size))
  clear hg b10
  go_wp2_with fail
  refine hl.mono ?_
  rintro e w11 ⟨rfl, rfl⟩
  go_wp2_with fail
  go_ret
  exact ⟨rfl, HB11.out⟩
theorem walk (W : World) (p : PK) (hp : P64 p) (x : Int) (hx : (Lit.int .u16 x).wf = true) (t : Int) (ht : (Lit.int .u16 t).wf = true) :
    Calls Try.prog 9 #[vP p, .int .u16 x, .int .u16 t] W fun e w' => e = .returned (.bool true) ∧ Below W.heap.size W w' := by
  have h1 : 0 ≤ x ∧ x ≤ 65535 := by simpa [Lit.wf, IntKind.min, IntKind.max, IntKind.signed, IntKind.bits] using hx
  have h2 : 0 ≤ t ∧ t ≤ 65535 := by simpa [Lit.wf, IntKind.min, IntKind.max, IntKind.signed, IntKind.bits] using ht
  exact law_any W p hp x t h1 h2
end Go.Proofs.Ytaecngdabgnamaa.DeltaNone
