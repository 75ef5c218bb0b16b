/- gluepotref11: merging a pair, counting a pair, walked. -/
import Derived.Test.YtaecngdabgnamaaRefSeq
import Derived.BigQuiet
namespace Go.Proofs.Ytaecngdabgnamaa.RefSeq
open Go.RowKit Go.Maps Go.Proofs.YtaecngdabgnamaaW.PrintWords Go.Proofs.YtaecngdabgnamaaW.PrintLast Go.Proofs.YtaecngdabgnamaaW.PrintMore Base Foot ExtTail PMap SeqPure SeqM
set_option linter.unusedVariables false
set_option linter.unusedSimpArgs false
attribute [local go_sem ↓] Go.wp_at_zero Go.wp_at_succ

theorem int_cell {W : World} {B : Nat} {A : Option Addr} {cp n : Nat} {l : List Int} (h : W.ownsRow B 3 1 (.slice A n cp) n (l.flatMap SeqM.encI)) {k : Nat} {x : Int} (hx : l[k]? = some x) : ∃ g, A = some ⟨g, 0, none⟩ ∧ n ≤ cp ∧ W.cell? ⟨g, k, none⟩ = some (.int .i64 x) ∧ B ≤ g ∧ g < W.heap.size := by
  obtain ⟨g, cap, e, h1, h2⟩ := own_get (f := SeqM.encI) (sz := 1) (fun _ => rfl) h (by omega) hx
  cases e
  have h3 := h.lt g rfl
  exact ⟨g, rfl, h1, by simpa using h2 0 _ rfl, h3.1, h3.2⟩
theorem cnt_take {l : List Int} {i : Nat} {a b : Int} (h1 : l[i]? = some a) (h2 : l[i + 1]? = some b) (q : PK) : cnt (l.take (i + 2)) q = cnt (l.take (i + 1)) q + if (a, b) = q then 1 else 0 := by
  obtain ⟨g1, g2⟩ := List.getElem?_eq_some_iff.1 h1
  obtain ⟨g3, g4⟩ := List.getElem?_eq_some_iff.1 h2
  have e1 : l.take (i + 2) = l.take (i + 1) ++ [b] := by rw [List.take_succ_eq_append_getElem g3, g4]
  have e2 : (l.take (i + 1)).getLast? = some a := by rw [List.take_succ_eq_append_getElem g1, g2]; simp
  unfold cnt
  rw [e1, adj_append, e2, List.count_append, List.count_append]
  by_cases h : (a, b) = q
  · simp [lnk, adj, h]
  · have : ((a, b) == q) = false := by simpa using h
    simp [lnk, adj, h, List.count_cons]
theorem mrg_drop {l : List Int} {i : Nat} {a : Int} (h1 : l[i]? = some a) : l.drop i = a :: l.drop (i + 1) := by
  obtain ⟨g1, g2⟩ := List.getElem?_eq_some_iff.1 h1
  rw [List.drop_eq_getElem_cons g1, g2]
structure RI (p : PK) (z : Int) (l out : List Int) (i n : Nat) : Prop where
  mg : mrg p z l = (out ++ (mrg p z (l.drop i)).1, n + (mrg p z (l.drop i)).2)
  le : out.length ≤ i
  ne : n ≤ i
theorem RI.yes {p : PK} {z : Int} {l out : List Int} {i n : Nat} {a b : Int} (h : RI p z l out i n) (h1 : l[i]? = some a) (h2 : l[i + 1]? = some b) (he : (a, b) = p) : RI p z l (out ++ [z]) (i + 2) (n + 1) := by
  refine ⟨?_, by have := h.le; simp; omega, by have := h.ne; omega⟩
  rw [h.mg, mrg_drop h1, mrg_drop h2, mrg_yes he]
  simp [Nat.add_assoc, Nat.add_comm 1]
theorem RI.no {p : PK} {z : Int} {l out : List Int} {i n : Nat} {a : Int} (h : RI p z l out i n) (h1 : l[i]? = some a) (he : ∀ b, l[i + 1]? = some b → (a, b) ≠ p) : RI p z l (out ++ [a]) (i + 1) n := by
  refine ⟨?_, by have := h.le; simp; omega, by have := h.ne; omega⟩
  rw [h.mg, mrg_drop h1, mrg_no (fun t ht => he t (by rw [List.head?_drop] at ht; exact ht))]
  simp
set_option maxHeartbeats 1600000 in
set_option maxRecDepth 100000 in
theorem rmerge_any {B0 : Nat} {w : World} {v : Value} {l : List Int} (hrow : Row B0 w v l) (hl : l.length ≤ 1000000) (p : PK) (z : Int) :
    Calls Try.prog 16 #[v, vP p, .int .i64 z] w fun e w' => ∃ v', e = .returned (.tuple #[v', .int .i64 ((mrg p z l).2 : Int)]) ∧ Row w.heap.size w' v' (mrg p z l).1 ∧ Below w.heap.size w w' := by
  obtain ⟨iN, hiN, zN0, zN1, zN2⟩ := info_parts infoN
  obtain ⟨p1, p2⟩ := p
  obtain ⟨A, c, rfl⟩ := own_slc hrow
  have b0 : Below w.heap.size w (w.alloc (.cells #[.int .i64 p1, .int .i64 p2] 23)) := (Below.refl _ _).alloc (Nat.le_refl _) _
  have x0 := heap_alloc_new w (.cells #[.int .i64 p1, .int .i64 p2] 23)
  have HR := Lib.hid hrow
  clear hrow
  unfold vP
  go_enter Try.func16, Try.ntmps16
  go_wp2_with fail
  generalize w.alloc (.cells #[.int .i64 p1, .int .i64 p2] 23) = W0 at *
  go_loopw [8, 9, 10] (fun v8 v9 v10 wr => ∃ (i n : Nat) (out : List Int) (ov : Value), i ≤ l.length ∧ ov = v8 ∧ v9 = .int .i64 (n : Int) ∧ v10 = .int .i64 (i : Int) ∧ wr.ownsRow w.heap.size 3 1 ov out.length (out.flatMap SeqM.encI) ∧ Hid (RI (p1, p2) z l out i n) ∧ Below w.heap.size w wr ∧ wr.heap[w.heap.size]? = some (.cells #[.int .i64 p1, .int .i64 p2] 23 (0, 0))) (fun _ _ i _ => l.length - (intOf i).toNat)
  case atStart => exact ⟨0, 0, [], _, by omega, rfl, rfl, rfl, World.ownsRow_nil _ _ _ _, Lib.hid ⟨by simp, by simp, by simp⟩, b0, x0⟩
  case round =>
    clear x0 b0
    obtain ⟨i, n, out, ov, hi, rfl, rfl, rfl, hrow, HI, hb, hx0⟩ := hrel
    have hol := HI.out.le
    have hnl := HI.out.ne
    have hbs := hb.size
    by_cases hlt : i < l.length
    · have hli : (i : Int) < (l.length : Int) := by omega
      have hi0 : (0 : Int) ≤ (i : Int) := by omega
      have hx := List.getElem?_eq_getElem hlt
      generalize l[i] = a at hx
      obtain ⟨g, rfl, hlc, hca, hg1, hg2⟩ := int_cell HR.out hx
      have hca' := (hb.cell (p := ⟨g, i, none⟩) hg2).trans hca
      have e0 := cell_at hx0 0
      have e1 := cell_at hx0 1
      simp only [List.getElem?_toArray, List.getElem?_cons_zero, List.getElem?_cons_succ] at e0 e1
      have HX := Lib.hid hx
      have hw1 : IntKind.i64.wrap ((i : Int) + 1) = (i : Int) + 1 := IntWalk.i64_in _ (by omega)
      have hn1 : (0 : Int) ≤ (i : Int) + 1 := by omega
      have hn2 : ((i : Int) + 1).toNat = i + 1 := by omega
      have HB0 := Lib.hid hx0
      have HCA := Lib.hid hca
      clear hx hca hx0
      by_cases hlt2 : i + 1 < l.length
      · have hli2 : decide ((i : Int) + 1 < (l.length : Int)) = true := by simp; omega
        have hli3 : (i : Int) + 1 < (l.length : Int) := by omega
        have hy := List.getElem?_eq_getElem hlt2
        generalize l[i + 1] = b at hy
        obtain ⟨g', e, _, hcb, _, _⟩ := int_cell HR.out hy
        cases e
        have hcb' := (hb.cell (p := ⟨g, i + 1, none⟩) hg2).trans hcb
        have HY := Lib.hid hy
        clear hy hcb
        by_cases ha : a = p1
        · by_cases hbq : b = p2
          · subst ha hbq
            go_wp2_with fail
            go_quiet (fail)
            have hrow2 := own_keep (w1 := wr.drewN nq) hrow (fun _ _ => rfl)
            have hb2 : Below w.heap.size w (wr.drewN nq) := hb.trans (bdrew _ _ _)
            have hbs2 := hb2.size
            have HX2 := Lib.hid (show (wr.drewN nq).heap[w.heap.size]? = _ from HB0.out)
            have hca2 := (hb2.cell (p := ⟨g, i, none⟩) hg2).trans HCA.out
            have HG := Lib.hid hg2
            clear hrow hb hbs HB0
            generalize wr.drewN nq = w2 at *
            go_wp2_with (at_builtin; refine wpList_append_own_at _ rfl _ _ 33 rfl w.heap.size 3 iN _ 1 8 Try.underlying33 hiN zN0 zN1 zN2 rfl (by decide) _ _ _ rfl (hrow2.alloc _) ⟨w2.heap.size, 0, none⟩ 1 1 [.int .i64 z] rfl rfl (news_alloc rfl) (by simp [Value.oneCell']) (by unfold maxLen; omega) (by omega) (by simp; omega) ?_; intro v' w5 hown2 hgrow2 _ hat2)
            have hne : w5.heap[w.heap.size]? = some (.cells #[.int .i64 a, .int .i64 b] 23 (0, 0)) := (hgrow2.block w.heap.size (by simp; omega) (fun e => row_not_cells hrow2 HX2.out (by decide) e.symm)).trans ((Below.heap_alloc _ _ _ (block_lt HX2.out)).trans HX2.out)
            have hb5 : Below w.heap.size w w5 := (hb2.alloc hbs2 _).grown hgrow2 (by simp; omega) (fun k hk => (hrow2.lt k hk).1)
            go_roundw
            case rel => exact ⟨i + 2, n + 1, out ++ [z], v', by omega, rfl, by go_num, by go_num, by simpa using hown2, Lib.hid (HI.out.yes HX.out HY.out rfl), hb5, hne⟩
            case measure => simp [intOf]; omega
          · have hbf : (b == p2) = false := by simpa using hbq
            have HNB := Lib.hid hbq
            subst ha
            clear hbq
            go_wp2_with fail
            go_quiet (fail)
            have hrow2 := own_keep (w1 := wr.drewN nq) hrow (fun _ _ => rfl)
            have hb2 : Below w.heap.size w (wr.drewN nq) := hb.trans (bdrew _ _ _)
            have hbs2 := hb2.size
            have HX2 := Lib.hid (show (wr.drewN nq).heap[w.heap.size]? = _ from HB0.out)
            have hca2 := (hb2.cell (p := ⟨g, i, none⟩) hg2).trans HCA.out
            have HG := Lib.hid hg2
            clear hrow hb hbs HB0
            generalize wr.drewN nq = w2 at *
            go_wp2_with (at_builtin; refine wpList_append_own_at _ rfl _ _ 33 rfl w.heap.size 3 iN _ 1 8 Try.underlying33 hiN zN0 zN1 zN2 rfl (by decide) _ _ _ rfl (hrow2.alloc _) ⟨w2.heap.size, 0, none⟩ 1 1 [.int .i64 a] rfl rfl (news_alloc rfl) (by simp [Value.oneCell']) (by unfold maxLen; omega) (by omega) (by simp; omega) ?_; intro v' w5 hown2 hgrow2 _ hat2)
            have hne : w5.heap[w.heap.size]? = some (.cells #[.int .i64 a, .int .i64 p2] 23 (0, 0)) := (hgrow2.block w.heap.size (by simp; omega) (fun e => row_not_cells hrow2 HX2.out (by decide) e.symm)).trans ((Below.heap_alloc _ _ _ (block_lt HX2.out)).trans HX2.out)
            have hb5 : Below w.heap.size w w5 := (hb2.alloc hbs2 _).grown hgrow2 (by simp; omega) (fun k hk => (hrow2.lt k hk).1)
            go_roundw
            case rel => exact ⟨i + 1, n, out ++ [a], v', by omega, rfl, rfl, by go_num, by simpa using hown2, Lib.hid (HI.out.no HX.out (fun b' hb' e => by rw [HY.out] at hb'; cases hb'; exact HNB.out (Prod.mk.inj e).2)), hb5, hne⟩
            case measure => simp [intOf]; omega
        · have haf : (a == p1) = false := by simpa using ha
          have HNA := Lib.hid ha
          clear ha
          go_wp2_with fail
          go_quiet (fail)
          have hrow2 := own_keep (w1 := wr.drewN nq) hrow (fun _ _ => rfl)
          have hb2 : Below w.heap.size w (wr.drewN nq) := hb.trans (bdrew _ _ _)
          have hbs2 := hb2.size
          have HX2 := Lib.hid (show (wr.drewN nq).heap[w.heap.size]? = _ from HB0.out)
          have hca2 := (hb2.cell (p := ⟨g, i, none⟩) hg2).trans HCA.out
          have HG := Lib.hid hg2
          clear hrow hb hbs HB0
          generalize wr.drewN nq = w2 at *
          go_wp2_with (at_builtin; refine wpList_append_own_at _ rfl _ _ 33 rfl w.heap.size 3 iN _ 1 8 Try.underlying33 hiN zN0 zN1 zN2 rfl (by decide) _ _ _ rfl (hrow2.alloc _) ⟨w2.heap.size, 0, none⟩ 1 1 [.int .i64 a] rfl rfl (news_alloc rfl) (by simp [Value.oneCell']) (by unfold maxLen; omega) (by omega) (by simp; omega) ?_; intro v' w5 hown2 hgrow2 _ hat2)
          have hne : w5.heap[w.heap.size]? = some (.cells #[.int .i64 p1, .int .i64 p2] 23 (0, 0)) := (hgrow2.block w.heap.size (by simp; omega) (fun e => row_not_cells hrow2 HX2.out (by decide) e.symm)).trans ((Below.heap_alloc _ _ _ (block_lt HX2.out)).trans HX2.out)
          have hb5 : Below w.heap.size w w5 := (hb2.alloc hbs2 _).grown hgrow2 (by simp; omega) (fun k hk => (hrow2.lt k hk).1)
          go_roundw
          case rel => exact ⟨i + 1, n, out ++ [a], v', by omega, rfl, rfl, by go_num, by simpa using hown2, Lib.hid (HI.out.no HX.out (fun b' hb' e => HNA.out (Prod.mk.inj e).1)), hb5, hne⟩
          case measure => simp [intOf]; omega
      · have hli2 : decide ((i : Int) + 1 < (l.length : Int)) = false := by simp; omega
        have hli3 : ¬ (i : Int) + 1 < (l.length : Int) := by omega
        go_wp2_with fail
        go_quiet (fail)
        have hrow2 := own_keep (w1 := wr.drewN nq) hrow (fun _ _ => rfl)
        have hb2 : Below w.heap.size w (wr.drewN nq) := hb.trans (bdrew _ _ _)
        have hbs2 := hb2.size
        have HX2 := Lib.hid (show (wr.drewN nq).heap[w.heap.size]? = _ from HB0.out)
        have hca2 := (hb2.cell (p := ⟨g, i, none⟩) hg2).trans HCA.out
        have HG := Lib.hid hg2
        clear hrow hb hbs HB0
        generalize wr.drewN nq = w2 at *
        go_wp2_with (at_builtin; refine wpList_append_own_at _ rfl _ _ 33 rfl w.heap.size 3 iN _ 1 8 Try.underlying33 hiN zN0 zN1 zN2 rfl (by decide) _ _ _ rfl (hrow2.alloc _) ⟨w2.heap.size, 0, none⟩ 1 1 [.int .i64 a] rfl rfl (news_alloc rfl) (by simp [Value.oneCell']) (by unfold maxLen; omega) (by omega) (by simp; omega) ?_; intro v' w5 hown2 hgrow2 _ hat2)
        have hne : w5.heap[w.heap.size]? = some (.cells #[.int .i64 p1, .int .i64 p2] 23 (0, 0)) := (hgrow2.block w.heap.size (by simp; omega) (fun e => row_not_cells hrow2 HX2.out (by decide) e.symm)).trans ((Below.heap_alloc _ _ _ (block_lt HX2.out)).trans HX2.out)
        have hb5 : Below w.heap.size w w5 := (hb2.alloc hbs2 _).grown hgrow2 (by simp; omega) (fun k hk => (hrow2.lt k hk).1)
        go_roundw
        case rel => exact ⟨i + 1, n, out ++ [a], v', by omega, rfl, rfl, by go_num, by simpa using hown2, Lib.hid (HI.out.no HX.out (fun b' hb' e => by have := (List.getElem?_eq_some_iff.1 hb').1; omega)), hb5, hne⟩
        case measure => simp [intOf]; omega
    · obtain rfl : i = l.length := by omega
      have hnl2 : ¬ (l.length : Int) < (l.length : Int) := by omega
      have hmg := HI.out.mg
      rw [List.drop_length, show mrg (p1, p2) z [] = ([], 0) from rfl, List.append_nil, Nat.add_zero] at hmg
      have HMG := Lib.hid hmg
      have HRW := Lib.hid hrow
      obtain ⟨A8, c8, rfl⟩ := own_slc hrow
      clear hmg hrow hx0
      go_wp2_with fail
      go_ret2
      exact ⟨.slice A8 out.length c8, by rw [HMG.out]; rfl, by rw [HMG.out]; exact HRW.out, hb⟩
set_option maxHeartbeats 1600000 in
set_option maxRecDepth 100000 in
theorem count_any {B0 : Nat} {w : World} {v : Value} {l : List Int} (hrow : Row B0 w v l) (hl : l.length ≤ 1000000) (p : PK) :
    Calls Try.prog 42 #[v, vP p] w fun e w' => e = .returned (.int .i64 (cnt l p : Int)) ∧ Below w.heap.size w w' := by
  obtain ⟨p1, p2⟩ := p
  obtain ⟨A, c, rfl⟩ := own_slc hrow
  have b0 : Below w.heap.size w (w.alloc (.cells #[.int .i64 p1, .int .i64 p2] 23)) := (Below.refl _ _).alloc (Nat.le_refl _) _
  have x0 := heap_alloc_new w (.cells #[.int .i64 p1, .int .i64 p2] 23)
  have HR := Lib.hid hrow
  clear hrow
  unfold vP
  go_enter Try.func42, Try.ntmps42
  go_wp2_with fail
  generalize w.alloc (.cells #[.int .i64 p1, .int .i64 p2] 23) = W0 at *
  go_loopw [5, 6] (fun v5 v6 wr => ∃ (i : Nat), i ≤ l.length ∧ v5 = .int .i64 (cnt (l.take (i + 1)) (p1, p2) : Int) ∧ v6 = .int .i64 (i : Int) ∧ Below w.heap.size w wr ∧ wr.heap[w.heap.size]? = some (.cells #[.int .i64 p1, .int .i64 p2] 23 (0, 0))) (fun _ i _ => l.length - (intOf i).toNat)
  case atStart => exact ⟨0, by omega, by cases l <;> rfl, rfl, b0, x0⟩
  case round =>
    clear x0 b0
    obtain ⟨i, hi, rfl, rfl, hb, hx0⟩ := hrel
    have hcl := cnt_le (l.take (i + 1)) (p1, p2)
    rw [List.length_take] at hcl
    have hbs := hb.size
    have hi0 : (0 : Int) ≤ (i : Int) := by omega
    by_cases hlt2 : i + 1 < l.length
    · have hli3 : (i : Int) + 1 < (l.length : Int) := by omega
      have hx := List.getElem?_eq_getElem (l := l) (i := i) (by omega)
      generalize l[i]'(by omega) = a at hx
      obtain ⟨g, rfl, hlc, hca, hg1, hg2⟩ := int_cell HR.out hx
      have hca' := (hb.cell (p := ⟨g, i, none⟩) hg2).trans hca
      have hy := List.getElem?_eq_getElem hlt2
      generalize l[i + 1] = b at hy
      obtain ⟨g', e, _, hcb, _, _⟩ := int_cell HR.out hy
      cases e
      have hcb' := (hb.cell (p := ⟨g, i + 1, none⟩) hg2).trans hcb
      have hct := cnt_take hx hy (p1, p2)
      have e0 := cell_at hx0 0
      have e1 := cell_at hx0 1
      simp only [List.getElem?_toArray, List.getElem?_cons_zero, List.getElem?_cons_succ] at e0 e1
      have hw1 : IntKind.i64.wrap ((i : Int) + 1) = (i : Int) + 1 := IntWalk.i64_in _ (by omega)
      have hn1 : (0 : Int) ≤ (i : Int) + 1 := by omega
      have hn2 : ((i : Int) + 1).toNat = i + 1 := by omega
      have hli : (i : Int) < (l.length : Int) := by omega
      have HB0 := Lib.hid hx0
      have HCT := Lib.hid hct
      generalize cnt (l.take (i + 1)) (p1, p2) = n at *
      clear hx hy hca hcb hx0 hct
      by_cases ha : a = p1
      · by_cases hbq : b = p2
        · subst ha hbq
          go_wp2_with fail
          go_quiet (fail)
          have hb2 : Below w.heap.size w (wr.drewN nq) := hb.trans (bdrew _ _ _)
          have HX2 := Lib.hid (show (wr.drewN nq).heap[w.heap.size]? = _ from HB0.out)
          go_wp2_with fail
          go_roundw
          case rel => exact ⟨i + 1, by omega, by rw [HCT.out]; simp, by go_num, hb2, HX2.out⟩
          case measure => simp [intOf]; omega
        · have hbf : (b == p2) = false := by simpa using hbq
          have HNB := Lib.hid hbq
          subst ha
          clear hbq
          go_wp2_with fail
          go_quiet (fail)
          have hb2 : Below w.heap.size w (wr.drewN nq) := hb.trans (bdrew _ _ _)
          have HX2 := Lib.hid (show (wr.drewN nq).heap[w.heap.size]? = _ from HB0.out)
          go_wp2_with fail
          go_roundw
          case rel => exact ⟨i + 1, by omega, by rw [HCT.out, if_neg (fun e => HNB.out (Prod.mk.inj e).2)]; rfl, by go_num, hb2, HX2.out⟩
          case measure => simp [intOf]; omega
      · have haf : (a == p1) = false := by simpa using ha
        have HNA := Lib.hid ha
        clear ha
        go_wp2_with fail
        go_quiet (fail)
        have hb2 : Below w.heap.size w (wr.drewN nq) := hb.trans (bdrew _ _ _)
        have HX2 := Lib.hid (show (wr.drewN nq).heap[w.heap.size]? = _ from HB0.out)
        go_wp2_with fail
        go_roundw
        case rel => exact ⟨i + 1, by omega, by rw [HCT.out, if_neg (fun e => HNA.out (Prod.mk.inj e).1)]; rfl, by go_num, hb2, HX2.out⟩
        case measure => simp [intOf]; omega
    · have hli3 : ¬ (i : Int) + 1 < (l.length : Int) := by omega
      have htk : l.take (i + 1) = l := List.take_of_length_le (by omega)
      rw [htk]
      go_wp2_with fail
      go_ret
      exact ⟨rfl, hb⟩
theorem befB_dec (a b : PK) : decide (befP a b) = (decide (a.1 < b.1) || (a.1 == b.1 && decide (a.2 < b.2))) := by
  have e : (decide (a.1 < b.1) || (a.1 == b.1 && decide (a.2 < b.2))) = decide (a.1 < b.1 ∨ a.1 = b.1 ∧ a.2 < b.2) := by
    rw [Bool.eq_iff_iff]
    simp
  rw [e]
  exact decide_eq_decide.2 Iff.rfl
set_option maxHeartbeats 800000 in
theorem before_any (a b : PK) (w : World) : Calls Try.prog 64 #[vP a, vP b] w fun e w' => e = .returned (.bool (decide (befP a b))) ∧ Below w.heap.size w w' := by
  obtain ⟨a1, a2⟩ := a
  obtain ⟨b1, b2⟩ := b
  have hb0 : Below w.heap.size w ((w.alloc (.cells #[.int .i64 a1, .int .i64 a2] 23)).alloc (.cells #[.int .i64 b1, .int .i64 b2] 23)) := ((Below.refl _ _).alloc (Nat.le_refl _) _).alloc (by simp) _
  rw [befB_dec]
  unfold vP
  simp only
  by_cases h1 : a1 < b1
  · have e1 : decide (a1 < b1) = true := by simpa using h1
    go_enter Try.func64, Try.ntmps64
    go_wp2_with fail
    go_ret
    exact ⟨by simp [h1], hb0⟩
  · have e1 : decide (a1 < b1) = false := by simpa using h1
    by_cases h2 : a1 = b1
    · subst h2
      have e2 : (a1 == a1) = true := by simp
      go_enter Try.func64, Try.ntmps64
      go_wp2_with fail
      go_ret
      exact ⟨by simp, hb0⟩
    · have e2 : (a1 == b1) = false := by simpa using h2
      go_enter Try.func64, Try.ntmps64
      go_wp2_with fail
      go_ret
      exact ⟨by simp [h1, h2], hb0⟩
end Go.Proofs.Ytaecngdabgnamaa.RefSeq
