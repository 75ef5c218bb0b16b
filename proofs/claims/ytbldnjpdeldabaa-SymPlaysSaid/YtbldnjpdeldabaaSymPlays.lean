/- SymPlays: through any joins each answer, what any symbol stands for, which one stands for any text, and what was joined, is what the reference says. No condition. -/
import Derived.Test.YtbldnjpdeldabaaSymMerges
import Derived.Test.YtbldnjpdeldabaaRows2
namespace Go.Proofs.Ytbldnjpdeldabaa.SymPlays
open Go.RowKit Go.Proofs.YtbldnjpdeldabaaW.PrintWords Go.Proofs.YtbldnjpdeldabaaW.PrintLast Go.Proofs.YtbldnjpdeldabaaW.PrintMore Base Foot SymPure Sym Sym2 Sym3 Sym4 Kinds SymMerges
open RefSym (RefT RFoot)
set_option linter.unusedVariables false
attribute [local go_sem ↓] Go.wp_at_zero Go.wp_at_succ
attribute [local go_sem high] eqP

theorem joinT_len (T : List J) (a c : Int) : (joinT T a c).length ≤ T.length + 1 := by unfold joinT; split <;> simp

set_option maxHeartbeats 3200000 in
set_option maxRecDepth 100000 in
theorem law_any (A : Option Addr) (cp : Nat) (l : List (Int × Int)) (id : Int) (t : ByteArray) (w : World) (hr : Kd.C kII w A l.length l) (hg : ∀ x ∈ l, In64 x.1 ∧ In64 x.2) (hid : In64 id) (ht : t.size ≤ 1000) (hl : l.length ≤ 100) :
    Calls Try.prog 4 #[.slice A l.length cp, .int .i64 id, .string t] w fun e w' => e = .returned (.bool true) ∧ Below w.heap.size w w' := by
  go_enter Try.func4, Try.ntmps4
  go_wp2_with fail
  refine (awake_any _).mono ?_
  rintro e w1 ⟨rfl, b1⟩
  go_wp2_with fail
  refine (Sym.new_any _).mono ?_
  rintro e w2 ⟨rfl, h2, b2⟩
  go_wp2_with fail
  refine (RefSym2.new_any _).mono ?_
  rintro e w3 ⟨rfl, ⟨tv0, r3⟩, b3⟩
  have h3 := h2.below b3
  have hB := b1.size
  have hB2 := b2.size
  have hap0 : Hid (∀ q, RFoot w2.heap.size tv0 (.slice none 0 0) q → ¬ Foot w1.heap.size (.slice none 0 0) (.map none) q) := fun q h1 h2' => by
    have := (r3.foot_lt q h1).1
    have := (h2.foot_lt q h2').2
    omega
  have b0 : Below w.heap.size w w3 := (b1.trans (b2.mono hB)).trans (b3.mono (Nat.le_trans hB hB2))
  generalize hq1 : w1.heap.size = B at *
  generalize hq2 : w2.heap.size = C at *
  clear hq1 hq2 b1 b2 b3 h2
  have hC : w.heap.size ≤ C := Nat.le_trans hB hB2
  go_wp2_with fail
  go_loopw [9] (fun v9 wr => ∃ (k : Nat) (T : List J) (lv mv tv pv : Value), k ≤ l.length ∧ v9 = .int .i64 (k : Int) ∧ SymT B wr B lv mv T ∧ RefT C wr C tv pv T ∧ Hid (∀ q, RFoot C tv pv q → ¬ Foot B lv mv q) ∧ T.length ≤ k ∧ Below w.heap.size w wr) (fun i _ => l.length - (intOf i).toNat)
  case atStart => exact ⟨0, [], _, _, _, _, Nat.zero_le _, rfl, h3, r3, hap0, by simp, b0⟩
  case round =>
    obtain ⟨k, T, lv, mv, tv, pv, hk, rfl, hT, hR, hap, hTk, hW⟩ := hrel
    clear h3 r3 hap0 b0
    by_cases hlt : k < l.length
    · have hx := List.getElem?_eq_getElem hlt
      obtain ⟨g1, g2⟩ := hg _ (List.getElem_mem hlt)
      obtain ⟨ad, e1, hx0, hx1⟩ := at_II hr hx
      cases e1
      have kx0 := Nat.lt_of_lt_of_le (World.block_lt_of_cell? w _ hx0) hB
      have kx1 := Nat.lt_of_lt_of_le (World.block_lt_of_cell? w _ hx1) hB
      have ky0 := Nat.lt_of_lt_of_le kx0 hB2
      have ky1 := Nat.lt_of_lt_of_le kx1 hB2
      replace hx0 := (hW.cell (World.block_lt_of_cell? w _ hx0)).trans hx0
      replace hx1 := (hW.cell (World.block_lt_of_cell? w _ hx1)).trans hx1
      generalize l[k].1 = p at *
      generalize l[k].2 = q at *
      have hTd := hT.drew
      have hf1 := fun k hk => (hT.foot_lt k hk).1
      have hBw : B ≤ wr.drew.heap.size := Nat.le_of_lt (by have := block_lt hTd.blk; exact this)
      have HJ := Lib.hid (join_any hTd p q g1 g2 (by omega))
      have HK := Lib.hid (show ∀ (w3 : World) lv3 mv3, Upd (Foot B lv mv) (Foot B lv3 mv3) wr.drew w3 → w3.cell? (ad.add (k * 2)) = some (.int .i64 p) ∧ w3.cell? ⟨(ad.add (k * 2)).block, (ad.add (k * 2)).off + 1, none⟩ = some (.int .i64 q) from fun w3 lv3 mv3 u3 => ⟨((u3.below hBw hf1).cell kx0).trans hx0, ((u3.below hBw hf1).cell (p := ⟨(ad.add (k * 2)).block, (ad.add (k * 2)).off + 1, none⟩) kx1).trans hx1⟩)
      go_wp2_with fail
      go_region_held3 (fun w' => w'.cell? (ad.add (k * 2)) = some (.int .i64 p) ∧ w'.cell? ⟨(ad.add (k * 2)).block, (ad.add (k * 2)).off + 1, none⟩ = some (.int .i64 q)) (first | exact ⟨hx0, hx1⟩ | exact ⟨y0, y1⟩)
        (first | (go_at_call 17; refine HJ.out.mono ?_; rintro e w3 ⟨rfl, lv3, mv3, h3, u3⟩; obtain ⟨y0, y1⟩ := HK.out _ _ _ u3))
      have hR3 : RefT C w3 C tv pv T := hR.keep (u3.far (fun q hq => (hR.foot_lt q hq).2) (fun q hq => hap q hq))
      have hap3 : ∀ q, RFoot C tv pv q → ¬ Foot B lv3 mv3 q := u3.apart (fun q hq => (hR.foot_lt q hq).2) (fun q hq => hap q hq)
      have hf2 := fun k hk => (hR3.foot_lt k hk).1
      have hBw3 : C ≤ w3.drew.heap.size := Nat.le_of_lt (by have := block_lt hR3.blk; exact this)
      have HR := Lib.hid (RefSym2.join_any hR3.drew p q g1 g2 (by omega))
      have HK3 := Lib.hid (show ∀ (w4 : World) lv3 mv3, Upd (RFoot C tv pv) (RFoot C lv3 mv3) w3.drew w4 → w4.cell? (ad.add (k * 2)) = some (.int .i64 p) ∧ w4.cell? ⟨(ad.add (k * 2)).block, (ad.add (k * 2)).off + 1, none⟩ = some (.int .i64 q) from fun w4 lv3 mv3 u4 => ⟨((u4.below hBw3 hf2).cell ky0).trans y0, ((u4.below hBw3 hf2).cell (p := ⟨(ad.add (k * 2)).block, (ad.add (k * 2)).off + 1, none⟩) ky1).trans y1⟩)
      have hW3 : Below w.heap.size w w3 := hW.trans ((Below.refl w.heap.size wr).drew.trans (u3.below (Nat.le_trans hB hBw) (fun k hk => Nat.le_trans hB (hf1 k hk))))
      have Hap := Lib.hid hap3
      clear hap3 hap hTd hT hR hx0 hx1 HJ HK u3
      go_wp2_with fail
      go_region_held3 (fun w' => w'.cell? (ad.add (k * 2)) = some (.int .i64 p) ∧ w'.cell? ⟨(ad.add (k * 2)).block, (ad.add (k * 2)).off + 1, none⟩ = some (.int .i64 q)) (first | exact ⟨y0, y1⟩ | exact ⟨z0, z1⟩)
        (first | (go_at_call 22; refine HR.out.mono ?_; rintro e w4 ⟨rfl, tv4, pv4, r4, u4⟩; obtain ⟨z0, z1⟩ := HK3.out _ _ _ u4))
      have h4 : SymT B w4 B lv3 mv3 (joinT T p q) := h3.keep (u4.far (fun q hq => (h3.foot_lt q hq).2) (fun q hq hr => Hap.out q hr hq))
      have hap4 : ∀ q, RFoot C tv4 pv4 q → ¬ Foot B lv3 mv3 q := fun q hq hf => u4.apart (fun q hq => (h3.foot_lt q hq).2) (fun q hq hr => Hap.out q hr hq) q hf hq
      have Hap4 := Lib.hid hap4
      have hW4 : Below w.heap.size w w4 := hW3.trans ((Below.refl w.heap.size w3).drew.trans (u4.below (Nat.le_trans hC hBw3) (fun k hk => Nat.le_trans hC (hf2 k hk))))
      clear hap4 h3 hR3 u4 HR HK3 y0 y1 hW3 Hap hf1 hf2 hBw hBw3
      have hm4 := joinT_len T p q
      obtain ⟨tg, tc, rfl, htc⟩ := r4.slice
      have c0 := cell_at r4.blk 0
      simp only [List.getElem?_toArray, List.getElem?_cons_zero] at c0
      have hlq := fun n => quiet_left (len_any (h4.keep (w' := w4.drewN n) (fun _ _ => rfl)))
      have HLQ := Lib.hid hlq
      clear hlq
      go_wp2_with fail
      go_quiet ((go_at_call 23; exact HLQ.out _))
      have h5 := h4.keep (w' := w4.drewN nq) (fun _ _ => rfl)
      have r5 := r4.keep (w' := w4.drewN nq) (fun _ _ => rfl)
      have hW5 := hW4.trans (bdrew w.heap.size w4 nq)
      generalize w4.drewN nq = w5 at *
      clear c0 HLQ h4 r4 hW4 z0 z1
      have c0 := cell_at r5.blk 0
      simp only [List.getElem?_toArray, List.getElem?_cons_zero] at c0
      have hs5 := r5.small
      by_cases hE : joinE T p q = 0
      · have hEb : (joinE T p q == 0) = true := by simp [hE]
        have htt := join_there hE
        obtain ⟨g', c', e, _, x0⟩ := r5.at htt
        cases e
        obtain ⟨i1, i2⟩ := there_iff.1 htt
        clear hE htt
        have hta := join_text r5.size (joinI T p q)
        by_cases h5000 : 5000 < (textS (joinT T p q) (joinI T p q)).size
        · go_wp2_with fail
          go_ret
          exact ⟨rfl, hW5⟩
        · go_wp2_with fail
          go_roundw
          case rel => exact ⟨k + 1, _, _, _, _, _, by omega, by go_num, h5, r5, Hap4, by omega, hW5⟩
          case measure => simp [intOf]; omega
      · have hEb : (joinE T p q == 0) = false := by simp [hE]
        clear hE
        go_wp2_with fail
        go_roundw
        case rel => exact ⟨k + 1, _, _, _, _, _, by omega, by go_num, h5, r5, Hap4, by omega, hW5⟩
        case measure => simp [intOf]; omega
    · have hgd := hT.good
      have hta := join_text hT.size id
      have hHap := Lib.hid hap
      clear hap
      go_wp2_with fail
      refine (text_any hT id hid).mono ?_
      rintro e w4 ⟨rfl, b4⟩
      have h4 := hT.below b4
      have r4 := hR.below b4
      have hW4 := hW.trans (b4.mono hW.size)
      clear hT hR hW b4
      go_wp2_with fail
      refine (Sym.find_any h4 t (by unfold maxLen; omega)).mono ?_
      rintro e w5 ⟨rfl, rfl⟩
      go_wp2_with fail
      refine (RefSym.find_any r4 t).mono ?_
      rintro e w5 ⟨rfl, rfl⟩
      go_wp2_with fail
      refine (pair_any h4 id hid).mono ?_
      rintro e w6 ⟨rfl, b6⟩
      have h6 := h4.below b6
      have r6 := r4.below b6
      have hW6 := hW4.trans (b6.mono hW4.size)
      clear h4 r4 hW4 b6
      go_wp2_with fail
      have hal := (Below.refl w6.heap.size w6).alloc (Nat.le_refl _) (.cells #[.int .i64 (pairS T id).1, .int .i64 (pairS T id).2] 30)
      have h7 := h6.below hal
      have r7 := r6.below hal
      have hW7 := hW6.trans (hal.mono hW6.size)
      have hal0 : ∀ w', Below (w6.alloc (.cells #[.int .i64 (pairS T id).1, .int .i64 (pairS T id).2] 30)).heap.size (w6.alloc (.cells #[.int .i64 (pairS T id).1, .int .i64 (pairS T id).2] 30)) w' → w'.cell? ⟨w6.heap.size, 0, none⟩ = some (.int .i64 (pairS T id).1) ∧ w'.cell? ⟨w6.heap.size, 1, none⟩ = some (.int .i64 (pairS T id).2) := fun w' b => ⟨local_at b 0 _ rfl, local_at b 1 _ rfl⟩
      have HAL := Lib.hid hal0
      clear hal hal0 h6 r6 hW6
      generalize w6.alloc (.cells #[.int .i64 (pairS T id).1, .int .i64 (pairS T id).2] 30) = w7 at *
      generalize w6.heap.size = pb at *
      have hl7 := block_lt r7.blk
      have hs7 := r7.small
      obtain ⟨tg, tc, rfl, htc⟩ := r7.slice
      have c0 := cell_at r7.blk 0
      simp only [List.getElem?_toArray, List.getElem?_cons_zero] at c0
      have tail : ∀ (w9 w10 : World) (v9 v10 : Value), w9.ownsRow w7.heap.size 98 2 v9 T.length ((mergesS T).flatMap encSS) → Below w7.heap.size w7 w9 → w10.ownsRow w9.heap.size 98 2 v10 T.length ((mergesS T).flatMap encSS) → Below w9.heap.size w9 w10 →
          ∃ A9 c9 A10 c10, v9 = .slice A9 (mergesS T).length c9 ∧ v10 = .slice A10 (mergesS T).length c10 ∧ Kd.C kSS w10 A9 (mergesS T).length (mergesS T) ∧ Kd.C kSS w10 A10 (mergesS T).length (mergesS T) := by
        intro w9 w10 v9 v10 o9 bb9 o10 bb10
        obtain ⟨A9, c9, rfl, _, k9⟩ := Rows2.owns_C kSS encSS encSS_len kSS_mk o9 (merges_len T).symm
        obtain ⟨A10, c10, rfl, _, k10⟩ := Rows2.owns_C kSS encSS encSS_len kSS_mk o10 (merges_len T).symm
        exact ⟨A9, c9, A10, c10, rfl, rfl, Kd.C_below k9 bb10, k10⟩
      have TAIL := Lib.hid tail
      clear tail hr hg hHap
      cases eh : there T id
      · have hnj : isJoined T id = false := by
          cases hj : isJoined T id
          · rfl
          · have h1 := isJoined_iff.1 hj
            have : there T id = true := there_iff.2 ⟨by omega, h1.2⟩
            rw [eh] at this; cases this
        rw [there_not eh]
        rw [hnj]
        rw [pair_not hnj] at HAL
        have EH := Lib.hid eh
        clear eh hnj
        refine (RefSym.there_any r7 id hid).mono ?_
        rintro e w8 ⟨rfl, rfl⟩
        rw [EH.out]
        go_wp2_with fail
        refine (merges_any h7).mono ?_
        rintro e w9 ⟨v9, rfl, o9, bb9⟩
        have r9 := r7.below bb9
        go_wp2_with fail
        refine (rmerges_any r9).mono ?_
        rintro e w10 ⟨v10, rfl, o10, bb10⟩
        obtain ⟨A9, c9, A10, c10, rfl, rfl, k9, k10⟩ := TAIL.out _ _ _ _ o9 bb9 o10 bb10
        go_wp2_with fail
        refine (same_yes A9 A10 c9 c10 (mergesS T) _ k9 k10).mono ?_
        rintro e w11 ⟨rfl, bb11⟩
        have r11 := (r9.below bb10).below bb11
        have hbb : Below w7.heap.size w7 w11 := (bb9.trans (bb10.mono bb9.size)).trans (bb11.mono (Nat.le_trans bb9.size bb10.size))
        obtain ⟨p0, p1⟩ := HAL.out w11 hbb
        by_cases h256 : 256 ≤ id
        · go_wp2_with fail
          refine (RefSym.there_any r11 id hid).mono ?_
          rintro e w12 ⟨rfl, rfl⟩
          rw [EH.out]
          go_wp2_with fail
          go_quiet (fail)
          go_wp2_with fail
          go_ret
          exact ⟨rfl, (hW7.trans (hbb.mono hW7.size)).trans (bdrew _ _ _)⟩
        · go_wp2_with fail
          go_quiet (fail)
          go_wp2_with fail
          go_ret
          exact ⟨rfl, (hW7.trans (hbb.mono hW7.size)).trans (bdrew _ _ _)⟩
      · obtain ⟨g', c', e, _, x0⟩ := r7.at eh
        cases e
        obtain ⟨i1, i2⟩ := there_iff.1 eh
        have hne : (id < 256) ∨ isJoined T id = true := by
          by_cases h256 : id < 256
          · exact .inl h256
          · exact .inr (isJoined_iff.2 ⟨by omega, i2⟩)
        have EH := Lib.hid eh
        clear eh
        refine (RefSym.there_any r7 id hid).mono ?_
        rintro e w8 ⟨rfl, rfl⟩
        rw [EH.out]
        have hu : ((textS T id).toList != (textS T id).toList) = false := by simp
        rcases hne with h256 | hj
        · have hnj : isJoined T id = false := by simp [isJoined]; omega
          rw [hnj]
          rw [pair_not hnj] at HAL
          clear hnj
          go_wp2_with fail
          refine (merges_any h7).mono ?_
          rintro e w9 ⟨v9, rfl, o9, bb9⟩
          have r9 := r7.below bb9
          go_wp2_with fail
          refine (rmerges_any r9).mono ?_
          rintro e w10 ⟨v10, rfl, o10, bb10⟩
          obtain ⟨A9, c9, A10, c10, rfl, rfl, k9, k10⟩ := TAIL.out _ _ _ _ o9 bb9 o10 bb10
          go_wp2_with fail
          refine (same_yes A9 A10 c9 c10 (mergesS T) _ k9 k10).mono ?_
          rintro e w11 ⟨rfl, bb11⟩
          have r11 := (r9.below bb10).below bb11
          have hbb : Below w7.heap.size w7 w11 := (bb9.trans (bb10.mono bb9.size)).trans (bb11.mono (Nat.le_trans bb9.size bb10.size))
          obtain ⟨p0, p1⟩ := HAL.out w11 hbb
          go_wp2_with fail
          go_quiet (fail)
          go_wp2_with fail
          go_ret
          exact ⟨rfl, (hW7.trans (hbb.mono hW7.size)).trans (bdrew _ _ _)⟩
        · rw [hj]
          obtain ⟨i3, _⟩ := isJoined_iff.1 hj
          have hxx := List.getElem?_eq_getElem (show (id - 256).toNat < T.length by omega)
          have HP := Lib.hid (pair_high i3 hxx)
          obtain ⟨pg, pc, hpv, hpc, hpj⟩ := own_get encP_len r7.pairs (by omega) hxx
          have q0 := hpj 0 _ rfl
          have q1 := hpj 1 _ rfl
          rw [Nat.add_zero] at q0
          subst hpv
          rw [HP.out] at HAL
          rw [HP.out]
          generalize T[(id - 256).toNat].a = xa at *
          generalize T[(id - 256).toNat].b = xb at *
          clear hxx hpj hj
          have kb := block_lt r7.blk
          have kp := (r7.pairs.lt pg rfl).2
          go_wp2_with fail
          refine (merges_any h7).mono ?_
          rintro e w9 ⟨v9, rfl, o9, bb9⟩
          have r9 := r7.below bb9
          go_wp2_with fail
          refine (rmerges_any r9).mono ?_
          rintro e w10 ⟨v10, rfl, o10, bb10⟩
          obtain ⟨A9, c9, A10, c10, rfl, rfl, k9, k10⟩ := TAIL.out _ _ _ _ o9 bb9 o10 bb10
          go_wp2_with fail
          refine (same_yes A9 A10 c9 c10 (mergesS T) _ k9 k10).mono ?_
          rintro e w11 ⟨rfl, bb11⟩
          have r11 := (r9.below bb10).below bb11
          have hbb : Below w7.heap.size w7 w11 := (bb9.trans (bb10.mono bb9.size)).trans (bb11.mono (Nat.le_trans bb9.size bb10.size))
          obtain ⟨p0, p1⟩ := HAL.out w11 hbb
          have c1 := cell_at r11.blk 1
          simp only [List.getElem?_toArray, List.getElem?_cons_succ, List.getElem?_cons_zero] at c1
          replace q0 := (hbb.cell (p := ⟨pg, (id - 256).toNat * 2, none⟩) kp).trans q0
          replace q1 := (hbb.cell (p := ⟨pg, (id - 256).toNat * 2 + 1, none⟩) kp).trans q1
          go_wp2_with fail
          refine (RefSym.there_any r11 id hid).mono ?_
          rintro e w12 ⟨rfl, rfl⟩
          rw [EH.out]
          clear c0 x0
          go_wp2_with fail
          go_quiet (fail)
          go_wp2_with fail
          go_ret
          exact ⟨by simp, (hW7.trans (hbb.mono hW7.size)).trans (bdrew _ _ _)⟩

set_option maxHeartbeats 800000 in
set_option maxRecDepth 100000 in
theorem law_many (A : Option Addr) (cp : Nat) (l : List (Int × Int)) (id : Int) (t : ByteArray) (w : World) (hl : ¬ (l.length ≤ 100 ∧ t.size ≤ 1000)) (hs : l.length * 16 ≤ reachBytes) (ht : t.size ≤ 140737488351232) :
    Calls Try.prog 4 #[.slice A l.length cp, .int .i64 id, .string t] w fun e w' => e = .returned (.bool true) ∧ Below w.heap.size w w' := by
  unfold reachBytes at hs
  by_cases h1 : l.length ≤ 100
  · have h2 : 1000 < t.size := by omega
    clear hl
    go_enter Try.func4, Try.ntmps4
    go_wp2_with fail
    refine (awake_any _).mono ?_
    rintro e w1 ⟨rfl, b1⟩
    go_wp2_with fail
    go_ret
    exact ⟨rfl, b1⟩
  · have h2 : 100 < l.length := by omega
    clear hl h1
    go_enter Try.func4, Try.ntmps4
    go_wp2_with fail
    refine (awake_any _).mono ?_
    rintro e w1 ⟨rfl, b1⟩
    go_wp2_with fail
    go_ret
    exact ⟨rfl, b1⟩
theorem walk (W : World) (A : Option Addr) (cp : Nat) (l : List (Int × Int)) (hr : Kd.C kII W A l.length l) (hc : l.length ≤ cp) (hg : ∀ x ∈ l, In64 x.1 ∧ In64 x.2) (hs : l.length * 16 ≤ reachBytes) (id : Int) (hid : (Lit.int .i64 id).wf = true) (t : ByteArray) (ht : t.size ≤ 140737488351232) :
    Calls Try.prog 4 #[.slice A l.length cp, .int .i64 id, .string t] W fun e w' => e = .returned (.bool true) ∧ Below W.heap.size W w' := by
  by_cases h : l.length ≤ 100 ∧ t.size ≤ 1000
  · exact law_any A cp l id t W hr hg (OpenArg.wf_in hid) h.2 h.1
  · exact law_many A cp l id t W h hs ht
end Go.Proofs.Ytbldnjpdeldabaa.SymPlays
