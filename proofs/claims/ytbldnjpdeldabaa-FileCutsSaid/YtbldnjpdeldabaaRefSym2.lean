/- Layer 9: the reference's table, walked: New, Join, Merges. -/
import Derived.Test.YtbldnjpdeldabaaRefSym
import Derived.Laws.BytesArg
namespace Go.Proofs.Ytbldnjpdeldabaa.RefSym2
open Go.RowKit Base Foot SymPure Sym Sym3 RefSym
set_option linter.unusedVariables false
attribute [local go_sem ↓] Go.wp_at_zero Go.wp_at_succ

theorem infoS : (Try.prog.info? 9).map (fun i => (i.zero, i.size, i.bytes)) = some (some (.string ⟨#[]⟩), 1, 16) := by kernel_rfl
theorem infoP : (Try.prog.info? 30).map (fun i => (i.zero, i.size, i.bytes)) = some (some (.agg #[.int .i64 0, .int .i64 0]), 2, 16) := by kernel_rfl
theorem conv_byte (w : World) (k : Nat) (hk : k < 256) (bl : Nat) (h : w.heap[bl]? = some (.cells #[.int .u8 (k : Int)] 5 (0, 0))) :
    (convert 77 9 (.slice (some ⟨bl, 0, none⟩) 1 1)).run Try.prog w = .ok (.string (byteS (k : Int))) w := by
  have := run_convert_bytes_arg (P := Try.prog) (w := w) 77 5 Try.underlying77 Try.underlying5 bl 0 1 1 [(k : Int)] rfl (by
    intro i hi
    obtain rfl : i = 0 := by omega
    rw [cell_at h]
    rfl) _ Try.underlying9
  rw [this]
  rfl
/-- the reference's table while it is being made: k texts -/
structure RefK (B : Nat) (w : World) (tv : Value) (k : Nat) : Prop where
  blk : w.heap[B]? = some (.cells #[tv, .slice none 0 0] 45 (0, 0))
  texts : w.ownsRow B 9 1 tv k ((byteTexts.take k).flatMap encS)
theorem take_bytes {k : Nat} (h : k < 256) : (byteTexts.take (k + 1)).flatMap encS = (byteTexts.take k).flatMap encS ++ [.string (byteS (k : Int))] := by
  have hl : k < byteTexts.length := by rw [byteTexts_len]; exact h
  rw [List.take_succ_eq_append_getElem hl, List.flatMap_append]
  have := byteTexts_get h
  rw [List.getElem?_eq_getElem hl] at this
  injection this with this
  rw [this]
  rfl
theorem refK_step {B k g cap : Nat} {w1 : World} {v : Value} (hk : k < 256) (h : w1.heap[B]? = some (.cells #[v, .slice none 0 0] 45 (0, 0)))
    (hown : w1.ownsRow B 9 1 (.slice (some ⟨g, 0, none⟩) (k + 1) cap) (k + 1) ((byteTexts.take k).flatMap encS ++ [.string (byteS (k : Int))])) :
    RefK B (w1.setCell ⟨B, 0, none⟩ (.slice (some ⟨g, 0, none⟩) (k + 1) cap)) (.slice (some ⟨g, 0, none⟩) (k + 1) cap) (k + 1) := by
  refine ⟨by rw [set_at h]; rfl, ?_⟩
  rw [take_bytes hk]
  have hne := Foot.row_not_cells hown h (by decide)
  exact own_keep hown (fun q hq => set_blk_eq (fun e => hne (by rw [hq, e])))
set_option maxHeartbeats 1600000 in
set_option maxRecDepth 100000 in
theorem new_any (w : World) : Calls Try.prog 21 #[] w fun e w' => e = .returned (.pointer (some ⟨w.heap.size, 0, none⟩)) ∧ (∃ tv, RefT w.heap.size w' w.heap.size tv (.slice none 0 0) []) ∧ Below w.heap.size w w' := by
  obtain ⟨i0, hi, hz0, hz1, hz2⟩ := info_parts infoS
  go_enter Try.func21, Try.ntmps21
  go_wp2_with fail
  generalize hB : w.heap.size = B
  have HB := Lib.hid hB
  have h0 : RefK B (w.alloc (.cells #[.slice none 0 0, .slice none 0 0] 45)) (.slice none 0 0) 0 := by
    rw [← hB]
    exact ⟨heap_alloc_new _ _, World.ownsRow_nil _ _ _ _⟩
  have b0 : Below B w (w.alloc (.cells #[.slice none 0 0, .slice none 0 0] 45)) := (Below.refl _ _).alloc (by omega) _
  clear hB
  go_loopw [2] (fun v2 wr => ∃ (k : Nat) (tv : Value), k ≤ 256 ∧ v2 = .int .i64 (k : Int) ∧ RefK B wr tv k ∧ Below B w wr) (fun i _ => 256 - (intOf i).toNat)
  case atStart => exact ⟨0, _, by omega, rfl, h0, b0⟩
  case round =>
    obtain ⟨k, tv, hk, rfl, hK, hW⟩ := hrel
    by_cases hlt : k < 256
    · have c0 := cell_at hK.blk 0
      simp only [List.getElem?_toArray, List.getElem?_cons_zero] at c0
      have hwr : IntKind.u8.wrap (k : Int) = (k : Int) := by rw [IntKind.wrap_u8]; omega
      have hcv := conv_byte ((wr.alloc (.cells #[.int .u8 (k : Int)] 5)).drew) k hlt wr.heap.size (by have := heap_alloc_new wr (.cells #[.int .u8 (k : Int)] 5); exact this)
      go_wp2_with fail
      have hst := hK.texts
      have hBs := block_lt hK.blk
      have HBK := Lib.hid hK.blk
      have hne : some B ≠ tv.ownBlock := fun e => Foot.row_not_cells hst hK.blk (by decide) e.symm
      go_region_law (first | (refine step_append_lies _ (by rfl) _ _ _ (by rfl) B 9 i0 _ 1 16 Try.underlying43 hi hz0 hz1 hz2 rfl (by omega) tv k _ (by rfl) (by exact ((hst.alloc _).alloc _).drew) ⟨wr.heap.size + 1, 0, none⟩ 1 1 [.string (byteS (k : Int))] (by rfl) (by rfl) (by exact news_alloc (by simp)) (by simp [Value.oneCell']) (by omega) (by unfold maxLen; omega) (by omega) (by simp; omega) (wr.heap.size + 2) (by simp) ?_; intro g1 cap1 w1 hown1 hgrow1 hat1 hlt1; have e1 := grown_blk hgrow1 (alloc_blk (alloc_blk HBK.out)) hne; have d0 := cell_at e1 0; have d1 := frozen_at e1 0; simp only [List.getElem?_toArray, List.getElem?_cons_zero] at d0))
      all_goals
        go_wp2_with fail
        go_roundw
        case rel => exact ⟨k + 1, _, by omega, by go_num, refK_step hlt e1 hown1, (((hW.alloc (Nat.le_of_lt hBs) _).alloc (by simp; omega) _).drew.grown hgrow1 (by simp; omega) (fun q hq => (hst.lt q hq).1)).setCell (Nat.le_refl _) _⟩
        case measure => simp [intOf]; omega
    · obtain rfl : k = 256 := by omega
      go_wp2
      go_ret
      refine ⟨by rw [HB.out]; rfl, ⟨tv, ?_⟩, by rw [HB.out]; exact hW⟩
      rw [HB.out]
      exact ⟨Nat.le_refl _, hK.blk, by have h := hK.texts; rw [List.take_of_length_le (by rw [byteTexts_len]; omega)] at h; simpa [allTexts] using h, World.ownsRow_nil _ _ _ _, by simp, by simp, .nil⟩

set_option maxHeartbeats 1600000 in
set_option maxRecDepth 100000 in
theorem join_no {B : Nat} {w : World} {b : Nat} {tv pv : Value} {T : List J} (h : RefT B w b tv pv T) (a c : Int) (ha : In64 a) (hc : In64 c) (hE : joinE T a c ≠ 0) :
    Calls Try.prog 22 #[.pointer (some ⟨b, 0, none⟩), .int .i64 a, .int .i64 c] w fun e w' => e = .returned (.tuple #[.int .i64 0, .int .i64 (joinE T a c)]) ∧ Below w.heap.size w w' := by
  have hta := Sym2.join_text h.size a
  have htc := Sym2.join_text h.size c
  have HE := Lib.hid hE
  have hs := h.small
  clear hE
  cases e1 : there T a
  · have HJ := Lib.hid (show joinE T a c = 1 from by unfold joinE; rw [if_pos (.inl e1)])
    go_enter Try.func22, Try.ntmps22
    go_wp2_with fail
    refine (there_any h a ha).mono ?_
    rintro e w1 ⟨rfl, rfl⟩
    rw [e1]
    clear e1
    go_wp2_with fail
    go_ret2
    exact ⟨by rw [HJ.out]; rfl, Below.refl _ _⟩
  · cases e2 : there T c
    · have HJ := Lib.hid (show joinE T a c = 1 from by unfold joinE; rw [if_pos (.inr e2)])
      go_enter Try.func22, Try.ntmps22
      go_wp2_with fail
      refine (there_any h a ha).mono ?_
      rintro e w1 ⟨rfl, rfl⟩
      rw [e1]
      go_wp2_with fail
      refine (there_any h c hc).mono ?_
      rintro e w1 ⟨rfl, rfl⟩
      rw [e2]
      clear e1 e2
      go_wp2_with fail
      go_ret2
      exact ⟨by rw [HJ.out]; rfl, Below.refl _ _⟩
    · obtain ⟨g, cap, rfl, hcap, x1⟩ := h.at e1
      obtain ⟨g', cap', e, _, x2⟩ := h.at e2
      cases e
      have c0 := cell_at h.blk 0
      simp only [List.getElem?_toArray, List.getElem?_cons_zero] at c0
      obtain ⟨i1, i2⟩ := there_iff.1 e1
      obtain ⟨i3, i4⟩ := there_iff.1 e2
      have E1 := Lib.hid e1
      have E2 := Lib.hid e2
      clear e1 e2
      by_cases h3 : 65536 < (textS T a).size + (textS T c).size
      · have HJ := Lib.hid (show joinE T a c = 4 from by unfold joinE; rw [if_neg (by simp [E1.out, E2.out]), if_pos h3])
        have h3i : (65536 : Int) < (((textS T a).size : Nat) : Int) + (((textS T c).size : Nat) : Int) := by omega
        clear h3
        go_enter Try.func22, Try.ntmps22
        go_wp2_with fail
        refine (there_any h a ha).mono ?_
        rintro e w1 ⟨rfl, rfl⟩
        rw [E1.out]
        go_wp2_with fail
        refine (there_any h c hc).mono ?_
        rintro e w1 ⟨rfl, rfl⟩
        rw [E2.out]
        go_wp2_with fail
        go_quiet (fail)
        go_wp2_with fail
        go_ret2
        exact ⟨by rw [HJ.out]; rfl, bdrew _ _ _⟩
      · cases h4 : (findS T (textS T a ++ textS T c)).2
        · exfalso
          exact HE.out (by unfold joinE; rw [if_neg (by simp [E1.out, E2.out]), if_neg h3, if_neg (by simp [h4])])
        · have HJ := Lib.hid (show joinE T a c = 8 from by unfold joinE; rw [if_neg (by simp [E1.out, E2.out]), if_neg h3, if_pos h4])
          have h3i : ¬ (65536 : Int) < (((textS T a).size : Nat) : Int) + (((textS T c).size : Nat) : Int) := by omega
          have H4 := Lib.hid h4
          clear h3 h4
          go_enter Try.func22, Try.ntmps22
          go_wp2_with fail
          refine (there_any h a ha).mono ?_
          rintro e w1 ⟨rfl, rfl⟩
          rw [E1.out]
          go_wp2_with fail
          refine (there_any h c hc).mono ?_
          rintro e w1 ⟨rfl, rfl⟩
          rw [E2.out]
          go_wp2_with fail
          go_quiet (fail)
          go_wp2_with fail
          go_quiet (fail)
          go_wp2_with fail
          refine (find_any (h.below (bdrew w.heap.size w _)) (textS T a ++ textS T c)).mono ?_
          rintro e w3 ⟨rfl, rfl⟩
          rw [H4.out]
          go_wp2_with fail
          go_ret2
          exact ⟨by rw [HJ.out]; rfl, bdrew _ _ _⟩

/-- what an append to the texts, then one to the pairs, leave -/
theorem join_end {B : Nat} {w w1 w2 : World} {b : Nat} {tv pv : Value} {T : List J} {x : J} {o : Obj} (h : RefT B w b tv pv T) (o1 : Obj) {g1 cap1 g2 cap2 : Nat}
    (hgrow1 : (w.alloc o1).grownBy w1 tv.ownBlock) (hat1 : tv.ownBlock = some g1 ∨ g1 = w.heap.size + 1)
    (hown1 : w1.ownsRow B 9 1 (.slice (some ⟨g1, 0, none⟩) (256 + T.length + 1) cap1) (256 + T.length + 1) ((allTexts T).flatMap encS ++ [.string x.s]))
    (hgrow2 : ((w1.setCell ⟨b, 0, none⟩ (.slice (some ⟨g1, 0, none⟩) (256 + T.length + 1) cap1)).alloc o).grownBy w2 pv.ownBlock) (hat2 : pv.ownBlock = some g2 ∨ g2 = w1.heap.size + 1)
    (hown2 : w2.ownsRow B 30 2 (.slice (some ⟨g2, 0, none⟩) (T.length + 1) cap2) (T.length + 1) (T.flatMap encP ++ [.int .i64 x.a, .int .i64 x.b]))
    (hb2 : w2.heap[b]? = some (.cells #[.slice (some ⟨g1, 0, none⟩) (256 + T.length + 1) cap1, pv] 45 (0, 0))) (hx : x.s.size ≤ 65536) (hn : T.length < 1000000) (hgd : Made (T ++ [x])) :
    RefT B (w2.setCell ⟨b, 1, none⟩ (.slice (some ⟨g2, 0, none⟩) (T.length + 1) cap2)) b (.slice (some ⟨g1, 0, none⟩) (256 + T.length + 1) cap1) (.slice (some ⟨g2, 0, none⟩) (T.length + 1) cap2) (T ++ [x]) ∧
      Upd (RFoot b tv pv) (RFoot b (.slice (some ⟨g1, 0, none⟩) (256 + T.length + 1) cap1) (.slice (some ⟨g2, 0, none⟩) (T.length + 1) cap2)) w (w2.setCell ⟨b, 1, none⟩ (.slice (some ⟨g2, 0, none⟩) (T.length + 1) cap2)) := by
  have hl1 := hown1.lt g1 rfl
  have hz1 := hgrow1.size
  have hz2 := hgrow2.size
  simp at hz1
  have hz2' : w1.heap.size + 1 ≤ w2.heap.size := by simpa [World.setCell] using hz2
  have ht2 : w2.heap[g1]? = w1.heap[g1]? := by
    rw [hgrow2.block g1 (by simp [World.setCell]; omega) (fun e => by
      have h3 := own_not_own hown1 (by
        have := h.pairs
        have h4 : w1.ownsRow B 30 2 pv T.length (T.flatMap encP) := own_keep this (fun k hk => by
          have hk' := this.lt k hk
          rw [hgrow1.block k (by simp; omega) (fun e2 => own_not_own h.texts this (by decide) e2.symm hk)]
          exact Below.heap_alloc _ _ _ hk'.2)
        exact h4) (by decide) (by rfl) e.symm
      exact h3)]
    rw [Below.heap_alloc _ _ _ (by simp [World.setCell]; omega)]
    have hgb : g1 ≠ b := by
      rintro rfl
      rcases hat1 with e | e
      · exact Foot.row_not_cells h.texts h.blk (by decide) e
      · have := block_lt h.blk; omega
    exact set_blk_eq hgb
  have hg2b : g2 ≠ b := by
    rintro rfl
    rcases hat2 with e | e
    · exact Foot.row_not_cells h.pairs h.blk (by decide) e
    · have := block_lt h.blk; omega
  have hg1b : g1 ≠ b := by
    rintro rfl
    rcases hat1 with e | e
    · exact Foot.row_not_cells h.texts h.blk (by decide) e
    · have := block_lt h.blk; omega
  refine ⟨⟨h.base, by rw [set_at hb2]; rfl, ?_, ?_, by simp; omega, ?_, hgd⟩, ?_⟩
  · have h5 : w2.ownsRow B 9 1 (.slice (some ⟨g1, 0, none⟩) (256 + T.length + 1) cap1) (256 + T.length + 1) ((allTexts T).flatMap encS ++ [.string x.s]) := own_keep hown1 (fun k hk => by cases hk; exact ht2)
    have h6 := own_keep (w1 := w2.setCell ⟨b, 1, none⟩ (.slice (some ⟨g2, 0, none⟩) (T.length + 1) cap2)) h5 (fun k hk => by cases hk; exact set_blk_eq hg1b)
    rw [allTexts_snoc]
    simpa [Nat.add_assoc, encS] using h6
  · have h6 := own_keep (w1 := w2.setCell ⟨b, 1, none⟩ (.slice (some ⟨g2, 0, none⟩) (T.length + 1) cap2)) hown2 (fun k hk => by cases hk; exact set_blk_eq hg2b)
    simpa [encP] using h6
  · intro y hy
    rcases List.mem_append.1 hy with h1 | h1
    · exact h.size y h1
    · rw [List.mem_singleton.1 h1]; exact hx
  · have u1 : Upd (RFoot b tv pv) (RFoot b tv pv) w w1 := (Upd.alloc (o := o1)).trans (Upd.grown hgrow1 (fun k e => .inr (.inl e)))
    have u2 : Upd (RFoot b tv pv) (RFoot b tv pv) w1 w2 := (Upd.set (p := ⟨b, 0, none⟩) (.inl rfl)).trans ((Upd.alloc (o := o)).trans (Upd.grown hgrow2 (fun k e => .inr (.inr e))))
    refine ((u1.trans u2).trans (Upd.set (p := ⟨b, 1, none⟩) (.inl rfl))).foot ?_
    rintro k (rfl | h1 | h1)
    · exact .inl (.inl rfl)
    · cases h1
      rcases hat1 with e | e
      · exact .inl (.inr (.inl e))
      · right; show w.heap.size ≤ g1; omega
    · cases h1
      rcases hat2 with e | e
      · exact .inl (.inr (.inr e))
      · right; show w.heap.size ≤ g2; omega

set_option maxHeartbeats 1600000 in
set_option maxRecDepth 100000 in
theorem join_yes {B : Nat} {w : World} {b : Nat} {tv pv : Value} {T : List J} (h : RefT B w b tv pv T) (a c : Int) (ha : In64 a) (hc : In64 c) (hE : joinE T a c = 0) (hn : T.length < 1000000) :
    Calls Try.prog 22 #[.pointer (some ⟨b, 0, none⟩), .int .i64 a, .int .i64 c] w fun e w' => e = .returned (.tuple #[.int .i64 (256 + (T.length : Int)), .int .i64 0]) ∧
      ∃ tv' pv', RefT B w' b tv' pv' (T ++ [⟨a, c, textS T a ++ textS T c⟩]) ∧ Upd (RFoot b tv pv) (RFoot b tv' pv') w w' := by
  obtain ⟨i0, hi, hz0, hz1, hz2⟩ := info_parts infoS
  obtain ⟨j0, hj, jz0, jz1, jz2⟩ := info_parts infoP
  have hta := Sym2.join_text h.size a
  have htc := Sym2.join_text h.size c
  obtain ⟨e1, e2, h3, h4⟩ := join_zero hE
  have HG := Lib.hid (Made.snoc h.good hE)
  have hs := h.small
  clear hE
  have h3i : ¬ (65536 : Int) < (((textS T a).size : Nat) : Int) + (((textS T c).size : Nat) : Int) := by omega
  have hsz2 : (textS T a ++ textS T c).size ≤ 65536 := by rw [ByteArray.size_append]; omega
  obtain ⟨g, cap, rfl, hcap, x1⟩ := h.at e1
  obtain ⟨g', cap', e, _, x2⟩ := h.at e2
  cases e
  have c0 := cell_at h.blk 0
  simp only [List.getElem?_toArray, List.getElem?_cons_zero] at c0
  obtain ⟨i1, i2⟩ := there_iff.1 e1
  obtain ⟨i3, i4⟩ := there_iff.1 e2
  have E1 := Lib.hid e1
  have E2 := Lib.hid e2
  have H4 := Lib.hid h4
  clear e1 e2 h4
  have hlb := block_lt h.blk
  have hbB := h.base
  go_enter Try.func22, Try.ntmps22
  go_wp2_with fail
  refine (there_any h a ha).mono ?_
  rintro e w1 ⟨rfl, rfl⟩
  rw [E1.out]
  go_wp2_with fail
  refine (there_any h c hc).mono ?_
  rintro e w1 ⟨rfl, rfl⟩
  rw [E2.out]
  go_wp2_with fail
  go_quiet (fail)
  go_wp2_with fail
  go_quiet (fail)
  go_wp2_with fail
  refine (find_any (h.below (bdrew w.heap.size w _)) (textS T a ++ textS T c)).mono ?_
  rintro e w3 ⟨rfl, hw3⟩
  rw [H4.out]
  obtain ⟨hd, hbw⟩ : RefT B w3 b (.slice (some ⟨g, 0, none⟩) (256 + T.length) cap) pv T ∧ Below w.heap.size w w3 := by
    rw [← hw3]
    exact ⟨h.below (bdrew w.heap.size w _), bdrew _ _ _⟩
  clear hw3 c0 x1 x2
  have c0 := cell_at hd.blk 0
  have f0 := frozen_at hd.blk 0
  simp only [List.getElem?_toArray, List.getElem?_cons_zero] at c0
  have hlb3 := block_lt hd.blk
  have hst := hd.texts
  have hsp := hd.pairs
  have HBK := Lib.hid hd.blk
  have hne1 : some b ≠ (Value.slice (some ⟨g, 0, none⟩) (256 + T.length) cap).ownBlock := fun e => Foot.row_not_cells hst hd.blk (by decide) e.symm
  have hne2 : some b ≠ pv.ownBlock := fun e => Foot.row_not_cells hsp hd.blk (by decide) e.symm
  have hapart : ∀ k, pv.ownBlock = some k → some k ≠ (Value.slice (some ⟨g, 0, none⟩) (256 + T.length) cap).ownBlock := fun k hk e => own_not_own hst hsp (by decide) e.symm hk
  have HA := Lib.hid hapart
  clear hapart
  have HNB := Lib.hid (show ∀ k, pv.ownBlock = some k → k ≠ b from fun k hk e => hne2 (by rw [hk, e]))
  have HSP := Lib.hid hsp
  have HHB := Lib.hid hd
  clear hsp
  go_wp2_with (first
    | (at_builtin; refine wpList_append_lies _ rfl (.tmp 65) (.tmp 67) 43 rfl B 9 i0 _ 1 16 Try.underlying43 hi hz0 hz1 hz2 rfl (by decide) _ _ _ (by rfl) (hst.alloc _) ⟨w3.heap.size, 0, none⟩ 1 1 [.string (textS T a ++ textS T c)] (by rfl) rfl (news_alloc rfl) (by simp [Value.oneCell']) (by omega) (by unfold maxLen; omega) (by omega) (by simp; omega) (w3.heap.size + 1) (by simp) ?_; intro g1 cap1 w4 hown4 hgrow4 hat4 hlt4; have e4 := grown_blk hgrow4 (alloc_blk HBK.out) hne1; have d0 := cell_at e4 0; have d1 := frozen_at e4 0; have d2 := cell_at e4 1; have E4 := Lib.hid e4; clear e4; simp only [List.getElem?_toArray, List.getElem?_cons_zero, List.getElem?_cons_succ] at d0 d2
       have hs4 := hgrow4.size; simp at hs4
       have hsp5 : (w4.setCell ⟨b, 0, none⟩ (.slice (some ⟨g1, 0, none⟩) (256 + T.length + 1) cap1)).ownsRow B 30 2 pv T.length (T.flatMap encP) := own_keep HSP.out (fun k hk => by
         have hk2 := (HSP.out.lt k hk).2
         rw [set_blk_eq (HNB.out k hk), hgrow4.block k (by simp; omega) (HA.out k hk)]
         exact Below.heap_alloc _ _ _ hk2)
       have hz5 : (w4.setCell ⟨b, 0, none⟩ (.slice (some ⟨g1, 0, none⟩) (256 + T.length + 1) cap1)).heap.size = w4.heap.size := by simp [World.setCell]
       have HZ5 := Lib.hid hz5
       clear hz5)
    | (at_builtin; refine wpList_append_lies _ rfl (.tmp 75) (.tmp 79) 22 rfl B 30 j0 _ 2 16 Try.underlying22 hj jz0 jz1 jz2 rfl (by decide) _ _ _ (by rfl) (hsp5.alloc _) ⟨w4.heap.size, 0, none⟩ 1 1 [.int .i64 a, .int .i64 c] (by rfl) rfl (news_alloc HZ5.out) (by simp [Value.oneCell']) (by omega) (by unfold maxLen; omega) (by omega) (by simp [HZ5.out]; omega) (w4.heap.size + 1) (by simp [HZ5.out]) ?_; intro g2 cap2 w5 hown5 hgrow5 hat5 hlt5
       have e5 : w5.heap[b]? = some (.cells #[.slice (some ⟨g1, 0, none⟩) (256 + T.length + 1) cap1, pv] 45 (0, 0)) := grown_blk hgrow5 (alloc_blk (by rw [set_at E4.out]; rfl)) hne2
       have y0 := cell_at e5 0; have y1 := frozen_at e5 1; have y2 := cell_at e5 1; have E5 := Lib.hid e5; clear e5; simp only [List.getElem?_toArray, List.getElem?_cons_zero, List.getElem?_cons_succ] at y0 y2))
  have HEND := Lib.hid (join_end (x := ⟨a, c, textS T a ++ textS T c⟩) HHB.out _ hgrow4 hat4 hown4 hgrow5 hat5 hown5 E5.out hsz2 hn HG.out)
  go_ret2
  exact ⟨rfl, _, _, HEND.out.1, (Upd.of_below hbw).trans HEND.out.2⟩
theorem join_any {B : Nat} {w : World} {b : Nat} {tv pv : Value} {T : List J} (h : RefT B w b tv pv T) (a c : Int) (ha : In64 a) (hc : In64 c) (hn : T.length < 1000000) :
    Calls Try.prog 22 #[.pointer (some ⟨b, 0, none⟩), .int .i64 a, .int .i64 c] w fun e w' => e = .returned (.tuple #[.int .i64 (joinI T a c), .int .i64 (joinE T a c)]) ∧
      ∃ tv' pv', RefT B w' b tv' pv' (joinT T a c) ∧ Upd (RFoot b tv pv) (RFoot b tv' pv') w w' := by
  by_cases hE : joinE T a c = 0
  · refine (join_yes h a c ha hc hE hn).mono ?_
    rintro e w' ⟨rfl, lv', mv', h1, h2⟩
    unfold joinI joinT
    rw [if_pos hE, if_pos hE, hE]
    exact ⟨rfl, lv', mv', h1, h2⟩
  · refine (join_no h a c ha hc hE).mono ?_
    rintro e w' ⟨rfl, h1⟩
    unfold joinI joinT
    rw [if_neg hE, if_neg hE]
    exact ⟨rfl, tv, pv, h.below h1, Upd.of_below h1⟩
end Go.Proofs.Ytbldnjpdeldabaa.RefSym2
