/- Layer 9: the calls of package sym, walked: a table in memory reads as a list of joined symbols. -/
import Derived.Test.YthinomhjhkhidaaSym2
import Derived.Laws.BytesArg
namespace Go.Proofs.Ythinomhjhkhidaa.Sym3
open Go.RowKit Go.Maps Go.WideMaps Base Foot SymPure Sym Sym2
set_option linter.unusedVariables false

theorem mapOf_put {D : DataW Unit} {T : List J} (hD : MapOf D T) (hM : IsMap D) (x : J) (hx : idx T x.s = none) :
    MapOf (D.put (.string x.s.data.toList) (.lit (.int .i64 (256 + (T.length : Int))))) (T ++ [x]) := by
  intro t
  by_cases h : t = x.s
  · subst h
    rw [has_put_same hM (show WideAt.IsKeyLit (.string _) from trivial), atKey_put_same hM (show WideAt.IsKeyLit (.string _) from trivial), idx_snoc_new hx]
    exact ⟨rfl, rfl⟩
  · have hk : (Lit.string t.data.toList) ≠ Lit.string x.s.data.toList := by
      intro e
      simp only [Lit.string.injEq] at e
      exact h (toList_inj (by rw [ByteArray.toList_eq, ByteArray.toList_eq]; exact e))
    rw [has_put_other hk, atKey_put_other hk, idx_snoc_other h]
    exact hD t

theorem join_end {B : Nat} {w3 w4 w5 : World} {b mb : Nat} {lv v' : Value} {T : List J} {D : DataW Unit} {x : J} {o : Obj} (h3 : SymT B w3 b lv (.map (some mb)) T)
    (hown : w3.ownsMap Try.prog 9 (plainElem Try.prog 3) mb T.length D) (hD : MapOf D T) (hx : idx T x.s = none) (hmb : B ≤ mb) (hgrow4 : w3.grownBy w4 (some mb))
    (hown4 : w4.ownsMap Try.prog 9 (plainElem Try.prog 3) mb (T.length + 1) (D.put (.string x.s.data.toList) (.lit (.int .i64 (256 + (T.length : Int))))))
    (hgrow5 : (w4.alloc o).grownBy w5 lv.ownBlock) (hown5 : w5.ownsRow B 120 3 v' (T.length + 1) (T.flatMap encJ ++ encJ x)) (hloc : v'.ownBlock = lv.ownBlock ∨ v'.ownBlock = some (w4.heap.size + 1))
    (hb5 : w5.heap[b]? = some (.cells #[lv, .map (some mb)] 118 (0, 0))) (hsz : x.s.size ≤ 65536) (hn : T.length < 1000000) (hgd : Made (T ++ [x])) :
    SymT B (w5.setCell ⟨b, 0, none⟩ v') b v' (.map (some mb)) (T ++ [x]) ∧ Upd (Foot b lv (.map (some mb))) (Foot b v' (.map (some mb))) w3 (w5.setCell ⟨b, 0, none⟩ v') := by
  have hbr : v'.ownBlock ≠ some b := fun e => row_not_cells hown5 hb5 (by decide) e
  have hmb3 := hown.lt
  have hmb4 := hown4.lt
  have hm5 : w5.heap[mb]? = w4.heap[mb]? := by
    rw [hgrow5.block mb (by simp; omega) (fun e => row_not_map h3.row hown e.symm rfl)]
    exact Below.heap_alloc _ _ _ hmb4
  have hbm : mb ≠ b := by
    intro e; subst e
    obtain ⟨es, cl, hm1, _⟩ := hown
    rw [h3.blk] at hm1; cases hm1
  refine ⟨⟨h3.base, ?_, ?_, ?_, by simp; omega, ?_, hgd⟩, ?_⟩
  · rw [set_at hb5]; rfl
  · have : w5.ownsRow B 120 3 v' (T ++ [x]).length ((T ++ [x]).flatMap encJ) := by simpa using hown5
    exact own_keep this (fun k hk => Below.heap_setCell _ _ _ _ (fun e => hbr (by rw [hk, e])))
  · refine .inr ⟨mb, _, rfl, hmb, ?_, mapOf_put hD hown.isMap x hx⟩
    have : (w5.setCell ⟨b, 0, none⟩ v').heap[mb]? = w4.heap[mb]? := (Below.heap_setCell _ _ _ _ hbm).trans hm5
    simpa using map_keep hown4 this
  · intro y hy
    rcases List.mem_append.1 hy with h | h
    · exact h3.size y h
    · rw [List.mem_singleton.1 h]; exact hsz
  · have u1 : Upd (Foot b lv (.map (some mb))) (Foot b lv (.map (some mb))) w3 w4 := Upd.grown hgrow4 (fun k e => by cases e; exact .inr (.inr rfl))
    have u2 : Upd (Foot b lv (.map (some mb))) (Foot b lv (.map (some mb))) (w4.alloc o) w5 := Upd.grown hgrow5 (fun k e => .inr (.inl e))
    have u3 : Upd (Foot b lv (.map (some mb))) (Foot b lv (.map (some mb))) w5 (w5.setCell ⟨b, 0, none⟩ v') := Upd.set (.inl rfl)
    refine (((u1.trans Upd.alloc).trans u2).trans u3).foot ?_
    rintro k (rfl | h1 | h1)
    · exact .inl (.inl rfl)
    · rcases hloc with e | e
      · exact .inl (.inr (.inl (e ▸ h1)))
      · rw [e] at h1; cases h1
        right
        have := hgrow4.size
        simp; omega
    · exact .inl (.inr (.inr h1))

set_option maxHeartbeats 800000 in
set_option maxRecDepth 100000 in
theorem join_yes {B : Nat} {w : World} {b : Nat} {lv mv : Value} {T : List J} (h : SymT B w b lv mv T) (a c : Int) (ha : In64 a) (hc : In64 c) (hE : joinE T a c = 0) (hn : T.length < 1000000) :
    Calls Try.prog 54 #[.pointer (some ⟨b, 0, none⟩), .int .i64 a, .int .i64 c] w fun e w' => e = .returned (.tuple #[.int .i64 (256 + (T.length : Int)), .int .i64 0]) ∧
      ∃ lv' mv', SymT B w' b lv' mv' (T ++ [⟨a, c, textS T a ++ textS T c⟩]) ∧ Upd (Foot b lv mv) (Foot b lv' mv') w w' := by
  obtain ⟨A, cap, rfl⟩ := h.slice
  obtain ⟨i0, hi, hz0, hz1, hz2⟩ := info_parts info126
  have hmm := @run_makeMap Try.prog
  have hta := join_text h.size a
  have htc := join_text h.size c
  obtain ⟨e1, e2, h3, h4⟩ := join_zero hE
  have HI := Lib.hid (find_none h4)
  have HG := Lib.hid (Made.snoc h.good hE)
  clear hE
  have h3i : ¬ (65536 : Int) < (((textS T a).size : Nat) : Int) + (((textS T c).size : Nat) : Int) := by omega
  have hsz : (textS T a ++ textS T c).size ≤ maxLen := by rw [ByteArray.size_append]; unfold maxLen; omega
  have hsz2 : (textS T a ++ textS T c).size ≤ 65536 := by rw [ByteArray.size_append]; omega
  have hkey := keyOf_string_mk (P := Try.prog) (k := 9) Try.underlying9 hsz
  go_enter Try.func54, Try.ntmps54
  go_wp2_with fail
  refine (text_any h a ha).mono ?_
  rintro e w1 ⟨rfl, b1⟩
  have h1 := h.below b1
  go_wp2_with fail
  refine (text_any h1 c hc).mono ?_
  rintro e w2 ⟨rfl, b2⟩
  have h2 := h1.below b2
  replace b2 := b1.trans (b2.mono b1.size)
  go_wp2_with fail
  refine (find_any h2 (textS T a ++ textS T c) hsz).mono ?_
  rintro e w3 ⟨rfl, rfl⟩
  rcases h2.map with ⟨rfl, hT⟩ | ⟨mb, D, rfl, hmb, hown, hD⟩
  · have HT := Lib.hid hT
    clear hT
    have hnn := fun (W : World) => run_eql_map_nil (P := Try.prog) W 73 9 3 none Try.underlying73
    have HB2 := Lib.hid h2.blk
    have hlb2 := block_lt h2.blk
    have hBs2 : B ≤ w2.heap.size := by have := h2.base; omega
    have p0 := cell_at h2.blk 0
    have p1 := cell_at h2.blk 1
    have q1 := frozen_at h2.blk 1
    simp only [List.getElem?_toArray, List.getElem?_cons_succ, List.getElem?_cons_zero] at p0 p1
    have r1 := cell_at ((Below.heap_alloc w2 (.map #[] 0) b hlb2).trans h2.blk) 1
    have r2 := frozen_at ((Below.heap_alloc w2 (.map #[] 0) b hlb2).trans h2.blk) 1
    simp only [List.getElem?_toArray, List.getElem?_cons_succ, List.getElem?_cons_zero] at r1
    go_wp2_with fail
    have hT := HT.out
    have hse : (w2.setCell ⟨b, 1, none⟩ (.map (some w2.heap.size))).heap.size = w2.heap.size := by simp [World.setCell]
    have hbB : ((w2.setCell ⟨b, 1, none⟩ (.map (some w2.heap.size))).alloc (.map #[] 0)).heap[b]? = some (.cells #[.slice A T.length cap, .map (some w2.heap.size)] 118 (0, 0)) := by
      rw [Below.heap_alloc _ _ _ (by rw [hse]; exact hlb2), set_at HB2.out]; rfl
    have hown : ((w2.setCell ⟨b, 1, none⟩ (.map (some w2.heap.size))).alloc (.map #[] 0)).ownsMap Try.prog 9 (plainElem Try.prog 3) w2.heap.size T.length (.map [] : DataW Unit) := by
      have := World.ownsMap_made (H := Unit) (w2.setCell ⟨b, 1, none⟩ (.map (some w2.heap.size))) Try.prog 9 (plainElem Try.prog 3)
      rw [hse] at this
      rw [hT]; exact this
    have h3 : SymT B ((w2.setCell ⟨b, 1, none⟩ (.map (some w2.heap.size))).alloc (.map #[] 0)) b (.slice A T.length cap) (.map (some w2.heap.size)) T :=
      ⟨h2.base, hbB, own_keep h2.row (fun k e => by
          have hk := h2.row.lt k e
          rw [Below.heap_alloc _ _ _ (by rw [hse]; exact hk.2)]
          exact Below.heap_setCell _ _ _ _ (fun e' => row_not_cells h2.row HB2.out (by decide) (by rw [e, e']))), .inr ⟨_, .map [], rfl, hBs2, hown, by rw [hT]; exact fun t => ⟨rfl, rfl⟩⟩, h2.small, h2.size, h2.good⟩
    have hU : Upd (Foot b (.slice A T.length cap) (.map none)) (Foot b (.slice A T.length cap) (.map (some w2.heap.size))) w2 ((w2.setCell ⟨b, 1, none⟩ (.map (some w2.heap.size))).alloc (.map #[] 0)) :=
      ((Upd.set (.inl rfl)).trans Upd.alloc).foot (by
        rintro k (h1 | h1 | h1)
        · exact .inl (.inl h1)
        · exact .inl (.inr (.inl h1))
        · cases h1; exact .inr (Nat.le_refl _))
    have hD : MapOf (.map [] : DataW Unit) T := by rw [hT]; exact fun t => ⟨rfl, rfl⟩
    have hmb : B ≤ w2.heap.size := hBs2
    generalize (w2.setCell ⟨b, 1, none⟩ (.map (some w2.heap.size))).alloc (.map #[] 0) = wx at *
    generalize w2.heap.size = mb at *
    clear p0 p1 q1 r1 r2 hnn hbB HB2
    clear hlb2 hBs2 hse hT HT
    have c0 := cell_at h3.blk 0
    have f0 := frozen_at h3.blk 0
    have c1 := cell_at h3.blk 1
    simp only [List.getElem?_toArray, List.getElem?_cons_succ, List.getElem?_cons_zero] at c0 c1
    go_wp2_with fail
    refine (len_any h3).mono ?_
    rintro e w3' ⟨rfl, rfl⟩
    have hbm : some b ≠ some mb := by
      intro e; cases e
      obtain ⟨es, cl, hm1, _⟩ := hown
      rw [h3.blk] at hm1; cases hm1
    have hlb := block_lt h3.blk
    have hBs : B ≤ wx.heap.size := by have := h3.base; omega
    have hrow3 := h3.row
    have HB3 := Lib.hid h3.blk
    go_wp2_with (first
      | (at_mapUpdate; refine wpList_mapUpdate_own _ rfl _ _ _ 73 rfl 9 3 law_s Try.underlying73 _ mb T.length (.map [] : DataW Unit) rfl hown (by unfold maxLen; omega) _ _ _ rfl rfl hkey _ [] (plainElem_int Try.underlying3 (WalkArith.wf_i64 (by omega))) ?_; intro w4 hown4 hgrow4; have HB4 := Lib.hid ((hgrow4.block b hlb hbm).trans HB3.out); have d0 := cell_at HB4.out 0; simp only [List.getElem?_toArray, List.getElem?_cons_zero] at d0; have hrow4 := own_keep hrow3 (fun k e => hgrow4.block k (hrow3.lt k e).2 (fun e' => row_not_map hrow3 hown e e')))
      | (at_builtin; refine wpList_append_own_at _ rfl _ _ 116 rfl B 120 i0 _ 3 32 Try.underlying116 hi hz0 hz1 hz2 rfl (by decide) _ _ _ rfl (hrow4.alloc _) ⟨w4.heap.size, 0, none⟩ 1 1 [.int .i64 a, .int .i64 c, .string (textS T a ++ textS T c)] rfl rfl (cells_new _ _ _) ?c2 ?c3 ?c4 ?c5 ?_))
    case c2 => intro u hu; simp at hu; rcases hu with rfl | rfl | rfl <;> rfl
    case c3 => unfold maxLen; omega
    case c4 => omega
    case c5 => have := hgrow4.size; simp; omega
    intro v5 w5 hown5 hgrow5 _ hloc5
    obtain ⟨g5, cap5, rfl⟩ := ownsRow_succ hown5
    have hlb4 : b < w4.heap.size := by have := hgrow4.size; omega
    have HB5 := Lib.hid ((hgrow5.block b (by simp; omega) (fun e => row_not_cells hrow3 HB3.out (by decide) e.symm)).trans ((Below.heap_alloc _ _ _ hlb4).trans HB4.out))
    have d5 := cell_at HB5.out 0
    have g5f := frozen_at HB5.out 0
    simp only [List.getElem?_toArray, List.getElem?_cons_zero] at d5
    have HEND := Lib.hid (join_end (x := ⟨a, c, textS T a ++ textS T c⟩) h3 hown hD HI.out hmb hgrow4 hown4 (o := .cells #[.int .i64 a, .int .i64 c, .string (textS T a ++ textS T c)] 120) hgrow5 hown5 hloc5 HB5.out hsz2 hn HG.out)
    go_wp2
    go_ret2
    exact ⟨rfl, _, _, HEND.out.1, ((Upd.of_below b2).trans hU).trans HEND.out.2⟩
  · have hnn := fun (W : World) => run_eql_map_nil (P := Try.prog) W 73 9 3 (some mb) Try.underlying73
    have h3 := h2

    have c0 := cell_at h3.blk 0
    have f0 := frozen_at h3.blk 0
    have c1 := cell_at h3.blk 1
    simp only [List.getElem?_toArray, List.getElem?_cons_succ, List.getElem?_cons_zero] at c0 c1
    go_wp2_with fail
    refine (len_any h3).mono ?_
    rintro e w3' ⟨rfl, rfl⟩
    have hbm : some b ≠ some mb := by
      intro e; cases e
      obtain ⟨es, cl, hm1, _⟩ := hown
      rw [h3.blk] at hm1; cases hm1
    have hlb := block_lt h3.blk
    have hBs : B ≤ w2.heap.size := by have := h3.base; omega
    have hrow3 := h3.row
    have HB3 := Lib.hid h3.blk
    go_wp2_with (first
      | (at_mapUpdate; refine wpList_mapUpdate_own _ rfl _ _ _ 73 rfl 9 3 law_s Try.underlying73 _ mb T.length D rfl hown (by unfold maxLen; omega) _ _ _ rfl rfl hkey _ [] (plainElem_int Try.underlying3 (WalkArith.wf_i64 (by omega))) ?_; intro w4 hown4 hgrow4; have HB4 := Lib.hid ((hgrow4.block b hlb hbm).trans HB3.out); have d0 := cell_at HB4.out 0; simp only [List.getElem?_toArray, List.getElem?_cons_zero] at d0; have hrow4 := own_keep hrow3 (fun k e => hgrow4.block k (hrow3.lt k e).2 (fun e' => row_not_map hrow3 hown e e')))
      | (at_builtin; refine wpList_append_own_at _ rfl _ _ 116 rfl B 120 i0 _ 3 32 Try.underlying116 hi hz0 hz1 hz2 rfl (by decide) _ _ _ rfl (hrow4.alloc _) ⟨w4.heap.size, 0, none⟩ 1 1 [.int .i64 a, .int .i64 c, .string (textS T a ++ textS T c)] rfl rfl (cells_new _ _ _) ?c2 ?c3 ?c4 ?c5 ?_))
    case c2 => intro u hu; simp at hu; rcases hu with rfl | rfl | rfl <;> rfl
    case c3 => unfold maxLen; omega
    case c4 => omega
    case c5 => have := hgrow4.size; simp; omega
    intro v5 w5 hown5 hgrow5 _ hloc5
    obtain ⟨g5, cap5, rfl⟩ := ownsRow_succ hown5
    have hlb4 : b < w4.heap.size := by have := hgrow4.size; omega
    have HB5 := Lib.hid ((hgrow5.block b (by simp; omega) (fun e => row_not_cells hrow3 HB3.out (by decide) e.symm)).trans ((Below.heap_alloc _ _ _ hlb4).trans HB4.out))
    have d5 := cell_at HB5.out 0
    have g5f := frozen_at HB5.out 0
    simp only [List.getElem?_toArray, List.getElem?_cons_zero] at d5
    have HEND := Lib.hid (join_end (x := ⟨a, c, textS T a ++ textS T c⟩) h3 hown hD HI.out hmb hgrow4 hown4 (o := .cells #[.int .i64 a, .int .i64 c, .string (textS T a ++ textS T c)] 120) hgrow5 hown5 hloc5 HB5.out hsz2 hn HG.out)
    go_wp2
    go_ret2
    exact ⟨rfl, _, _, HEND.out.1, (Upd.of_below b2).trans HEND.out.2⟩
end Go.Proofs.Ythinomhjhkhidaa.Sym3
