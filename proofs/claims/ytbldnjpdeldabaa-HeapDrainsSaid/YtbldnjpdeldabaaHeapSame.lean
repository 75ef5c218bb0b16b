/- HeapSame: items that are pushed, one by one, into a heap that had none come out by the same numbers as of a heap that had them from the beginning on. No condition. -/
import Derived.Test.YtbldnjpdeldabaaHeapA
import Derived.Test.YtbldnjpdeldabaaKinds
namespace Go.Proofs.Ytbldnjpdeldabaa.HeapSame
open Go.RowKit Go.ChangeShapes Go.WideShapes Go.Deep Go.Proofs.YtbldnjpdeldabaaW.PrintWords Go.Proofs.YtbldnjpdeldabaaW.PrintLast Go.Proofs.YtbldnjpdeldabaaW.PrintMore Base Foot Src HeapPure Heap Kinds
set_option linter.unusedVariables false
attribute [local go_sem ↓] Go.wp_at_zero Go.wp_at_succ

theorem src_II {w : World} {A : Option Addr} {l : List (Int × Int)} (h : Kd.C kII w A l.length l) : Src w 2 A l.length (l.flatMap enc) := by
  refine ⟨flat_len enc 2 enc_len l, fun hn => ?_⟩
  obtain ⟨ad, e, hall⟩ := h.2.2 hn
  refine ⟨ad, e, fun j u hu => ?_⟩
  have hj : j < (l.flatMap enc).length := (List.getElem?_eq_some_iff.1 hu).1
  rw [flat_len enc 2 enc_len] at hj
  have hjd : j / 2 < l.length := by omega
  have hx := List.getElem?_eq_getElem hjd
  obtain ⟨c, _, hK, hc⟩ := hall (j / 2) _ hx
  obtain rfl := kII_open hK
  have hg := flat_get enc 2 enc_len l (j / 2) (j % 2) (by omega)
  rw [show j / 2 * 2 + j % 2 = j by omega, hx, Option.bind_some, hu] at hg
  have := hc (j % 2) u hg.symm
  rwa [show j / 2 * kII.sz + j % 2 = j by show j / 2 * 2 + j % 2 = j; omega] at this

/-- two heaps with the same numbers: what comes out first has the same number, and so has the rest -/
theorem tops {r1 r2 : Heap.Item} {t1 t2 l1 l2 : List Heap.Item} (h1 : HeapFrom ltB (r1 :: t1) 0) (h2 : HeapFrom ltB (r2 :: t2) 0) (hp : ((r1 :: t1).map Prod.fst).Perm ((r2 :: t2).map Prod.fst)) (p1 : (r1 :: l1).Perm (r1 :: t1)) (p2 : (r2 :: l2).Perm (r2 :: t2)) :
    r1.1 = r2.1 ∧ (l1.map Prod.fst).Perm (l2.map Prod.fst) := by
  have m1 : ∀ y ∈ (r1 :: t1).map Prod.fst, y ≤ r1.1 := fun y hy => by
    obtain ⟨x, hx, rfl⟩ := List.mem_map.1 hy
    have := heap_root_mem ltB_ord h1 rfl hx
    simpa [ltB] using this
  have m2 : ∀ y ∈ (r2 :: t2).map Prod.fst, y ≤ r2.1 := fun y hy => by
    obtain ⟨x, hx, rfl⟩ := List.mem_map.1 hy
    have := heap_root_mem ltB_ord h2 rfl hx
    simpa [ltB] using this
  have e : r1.1 = r2.1 := by
    have a := m2 r1.1 (hp.mem_iff.1 (by simp))
    have b := m1 r2.1 (hp.mem_iff.2 (by simp))
    omega
  refine ⟨e, ?_⟩
  have h := ((p1.map Prod.fst).trans hp).trans (p2.map Prod.fst).symm
  simp only [List.map_cons] at h
  rw [e, List.perm_cons] at h
  exact h

set_option maxHeartbeats 3200000 in
set_option maxRecDepth 100000 in
theorem law_any (A : Option Addr) (cp : Nat) (l : List (Int × Int)) (w : World) (hr : Kd.C kII w A l.length l) (hl : l.length ≤ 200) :
    Calls Try.prog 11 #[.slice A l.length cp] w fun e w' => e = .returned (.bool true) ∧ Below w.heap.size w w' := by
  go_enter Try.func11, Try.ntmps11
  go_wp2_with fail
  refine (awake_any _).mono ?_
  rintro e w1 ⟨rfl, b1⟩
  go_wp2_with fail
  refine (new_any cmp2 _ trivial).mono ?_
  rintro e w2 ⟨rfl, h2, b2⟩
  have hB := b1.size
  generalize hBq : w1.heap.size = B at *
  clear hBq
  replace b2 := b1.trans (b2.mono hB)
  go_wp2_with fail
  go_loopw [4] (fun v4 wr => ∃ (k : Nat) (l' : List Heap.Item) (lv : Value), k ≤ l.length ∧ v4 = .int .i64 (k : Int) ∧ l'.Perm (l.take k) ∧ Hid (HeapFrom ltB l' 0) ∧ HeapT 51 IT GF B wr B lv l' (k : Int) (k : Int) ∧ Below w.heap.size w wr) (fun i _ => l.length - (intOf i).toNat)
  case atStart => exact ⟨0, [], _, by omega, rfl, by simp, fun j x y _ _ hx => by simp at hx, h2, b2⟩
  case round =>
    obtain ⟨k, l1, lv, hk, rfl, hP, hH, hT, hW⟩ := hrel
    have hlen : l1.length = k := by have := hP.length_eq; simpa [Nat.min_eq_left hk] using this
    by_cases hlt : k < l.length
    · have hx := List.getElem?_eq_getElem hlt
      obtain ⟨ad, e1, hx0, hx1⟩ := at_II hr hx
      cases e1
      replace hx0 := (hW.cell (World.block_lt_of_cell? w _ hx0)).trans hx0
      replace hx1 := (hW.cell (World.block_lt_of_cell? w _ hx1)).trans hx1
      have htk : l.take (k + 1) = l.take k ++ [l[k]] := List.take_succ_eq_append_getElem hlt
      generalize l[k] = x at *
      obtain ⟨xa, xb⟩ := x
      have HTK := Lib.hid htk
      have HX := Lib.hid hx
      clear htk hx
      have hpush := push_any cmp2 hT hH (xa, xb) (by omega) (by omega)
      unfold val at hpush
      have HPU := Lib.hid hpush
      have HLEN := Lib.hid hlen
      have hff := fun q hq => (hT.foot_lt cmp2 q hq).1
      have hBz := Nat.le_of_lt (block_lt hT.blk)
      clear hpush hlen
      simp only at hx0 hx1
      go_wp2_with fail
      refine HPU.out.mono ?_
      rintro e w3 ⟨rfl, l3, lv3, p1, p2, p3, p4⟩
      rw [HLEN.out, show max (k : Int) ((k : Int) + 1) = ((k + 1 : Nat) : Int) by omega, show (k : Int) + 1 = ((k + 1 : Nat) : Int) by omega] at p3
      have P1 := Lib.hid (show l3.Perm (l.take (k + 1)) by rw [HTK.out]; exact p1.trans ((List.Perm.cons (xa, xb) hP).trans (List.perm_append_singleton _ _).symm))
      have P3 := Lib.hid p3
      have P2 := Lib.hid p2
      clear p1 p2 p3
      go_wp2_with fail
      go_roundw
      case rel => exact ⟨k + 1, l3, lv3, by omega, by go_num, P1.out, P2.out, P3.out, hW.trans (p4.below (Nat.le_trans hB hBz) (fun q hq => Nat.le_trans hB (hff q hq)))⟩
      case measure => simp [intOf]; omega
    · obtain rfl : k = l.length := by omega
      rw [List.take_length] at hP
      have hsrc := (src_II hr).below hW
      have HLEN := Lib.hid hlen
      have HP := Lib.hid hP
      clear hlen hP
      go_wp2_with fail
      refine (lawof_any A cp l wr hsrc (by omega)).mono ?_
      rintro e w3 ⟨b3, rfl, l3, lv3, p1, p2, p3, b33⟩
      have hT3 := hT.below cmp2 b33
      have hW3 := hW.trans (b33.mono hW.size)
      have hl3 := p1.length_eq
      have hap : Hid (∀ q, HFoot B lv q → ¬ HFoot b3 lv3 q) := fun q h1 h2 => by
        have := (hT.foot_lt cmp2 q h1).2
        have := (p3.foot_lt cmp1 q h2).1
        omega
      have hzz : w.heap.size ≤ wr.heap.size := hW.size
      have HCw := Lib.hid hzz
      generalize hCq : wr.heap.size = C at *
      clear hCq hT hW b33 hsrc
      have hq2 := len_any hT3
      rw [HLEN.out] at hq2
      have hq3 := len_any p3
      rw [hl3] at hq3
      have HQ2 := Lib.hid hq2
      have HQ3 := Lib.hid hq3
      clear hq2 hq3
      go_wp2_with fail
      refine HQ2.out.mono ?_
      rintro e w4 ⟨rfl, rfl⟩
      go_wp2_with fail
      refine (pushes_any hT3).mono ?_
      rintro e w4 ⟨rfl, rfl⟩
      go_wp2_with fail
      refine (peak_any hT3).mono ?_
      rintro e w4 ⟨rfl, rfl⟩
      go_wp2_with fail
      refine HQ3.out.mono ?_
      rintro e w4 ⟨rfl, rfl⟩
      go_wp2_with fail
      refine (pushes_any p3).mono ?_
      rintro e w4 ⟨rfl, rfl⟩
      have HPP := Lib.hid (((HP.out.map Prod.fst).trans (p1.map Prod.fst).symm))
      have HL3 := Lib.hid hl3
      clear hl3 p1
      obtain ⟨wo, rfl⟩ : ∃ wo : World, wo = w3 := ⟨_, rfl⟩
      go_wp2_with fail
      go_loopw [6] (fun v6 wr => ∃ (k : Nat) (m1 m2 : List Heap.Item) (u1 u2 : Value), k ≤ l.length ∧ v6 = .int .i64 (k : Int) ∧ Hid (m1.length = l.length - k) ∧ Hid ((m1.map Prod.fst).Perm (m2.map Prod.fst)) ∧ Hid (HeapFrom ltB m1 0) ∧ Hid (HeapFrom ltB m2 0) ∧ HeapT 51 IT GF B wr B u1 m1 (l.length : Int) (l.length : Int) ∧ HeapT 72 IT GF C wr b3 u2 m2 0 (l.length : Int) ∧ Hid (∀ q, HFoot B u1 q → ¬ HFoot b3 u2 q) ∧ Below w.heap.size w wr) (fun i _ => l.length - (intOf i).toNat)
      case atStart => exact ⟨0, l1, l3, lv, lv3, by omega, rfl, by rw [HLEN.out]; rfl, HPP.out, hH, p2, hT3, p3, hap, hW3⟩
      case round =>
        obtain ⟨k, m1, m2, u1, u2, hk, rfl, hm1, hmp, hf1, hf2, hS1, hS2, hap2, hWW⟩ := hrel
        clear hT3 p3 hap hW3 hH p2
        have hm2 : m2.length = m1.length := by have := hmp.length_eq; simpa using this.symm
        by_cases hlt2 : k < l.length
        · match m1, m2, hm1, hm2 with
          | r1 :: t1, r2 :: t2, hm1, hm2 =>
            have HM2 := Lib.hid hm2
            clear hm2
            go_wp2_with fail
            refine (pop_some cmp2 hS1 hf1).mono ?_
            rintro e w5 ⟨rfl, n1, x1, q1, q2, q3, q4, q5⟩
            have hS2' := hS2.keep cmp1 (w' := w5) (fun q hq => by
              rcases hq with hq | hq
              · exact q4.block q (hS2.foot_lt cmp1 q hq).2 (fun h => hap2 q h hq)
              · exact hq.elim)
            have hap3 := q4.apart (fun q hq => (hS2.foot_lt cmp1 q hq).2) (fun q hq h => hap2 q h hq)
            have HAP3 := Lib.hid hap3
            have hff1 := fun q hq => Nat.le_trans hB (hS1.foot_lt cmp2 q hq).1
            have hW5 := hWW.trans (q4.below hWW.size hff1)
            have HQ1 := Lib.hid q1
            have HQ2' := Lib.hid q2
            have hfl := fun q hq => (hS2'.foot_lt cmp1 q hq).2
            have HFL := Lib.hid hfl
            clear hfl
            clear hS2 hap2 hap3 q4 q5 hS1 q1 q2 hff1
            obtain ⟨ra, rb⟩ := r1
            unfold val
            go_wp2_with fail
            have al5 := (Below.refl w5.heap.size w5).alloc (Nat.le_refl _) (.cells #[.int .i64 ra, .int .i64 rb] 66)
            have hS1a := q3.below cmp2 al5
            have hS2a := hS2'.below cmp1 al5
            have hW6 := hW5.trans (al5.mono hW5.size)
            have hblk := heap_alloc_new w5 (.cells #[.int .i64 ra, .int .i64 rb] 66)
            clear q3 hS2' hW5 al5
            have hxb : ¬ HFoot b3 u2 w5.heap.size := fun h => by have := HFL.out _ h; omega
            have hxl := block_lt hblk
            generalize w5.alloc (.cells #[.int .i64 ra, .int .i64 rb] 66) = w6 at *
            generalize w5.heap.size = xb1 at *
            refine (pop_some cmp1 hS2a hf2).mono ?_
            rintro e w7 ⟨rfl, n2, x2, q1, q2, q3, q4, q5⟩
            have hS1b := hS1a.keep cmp2 (w' := w7) (fun q hq => by
              rcases hq with hq | hq
              · exact q4.block q (hS1a.foot_lt cmp2 q hq).2 (fun h => HAP3.out q h hq)
              · exact hq.elim)
            have hap4 := q4.apart (fun q hq => (hS1a.foot_lt cmp2 q hq).2) (fun q hq h => HAP3.out q h hq)
            have hff2 := fun q hq => Nat.le_trans HCw.out (hS2a.foot_lt cmp1 q hq).1
            have hW7 := hW6.trans (q4.below hW6.size hff2)
            have hblk7 := (q4.block xb1 hxl hxb).trans hblk
            obtain ⟨hte, htp⟩ := tops hf1 hf2 hmp HQ1.out q1
            obtain ⟨sa, sb⟩ := r2
            simp only at hte
            subst hte
            have p0 := cell_at hblk7 0
            simp only [List.getElem?_toArray, List.getElem?_cons_zero] at p0
            have hxl7 := block_lt hblk7
            have al7 := (Below.refl w7.heap.size w7).alloc (Nat.le_refl _) (.cells #[.int .i64 ra, .int .i64 sb] 66)
            have hS1c := hS1b.below cmp2 al7
            have hS2c := q3.below cmp1 al7
            have hn1 : n1.length = l.length - (k + 1) := by
              have a := HQ1.out.length_eq
              have b : ((ra, rb) :: t1).length = l.length - k := hm1
              simp at a b
              omega
            have HN1 := Lib.hid hn1
            have HTP := Lib.hid htp
            have HAP4 := Lib.hid hap4
            have HQ4 := Lib.hid q2
            clear hn1 htp hap4 q2 q3 q4 q5 hS1a hS2a hS1b hff2 hW6 hblk7 hblk al7 q1 hm1 hmp hf1 hf2 HM2 HQ1
            unfold val
            go_wp2_with fail
            go_roundw
            case rel => exact ⟨k + 1, n1, n2, x1, x2, by omega, by go_num, HN1.out, HTP.out, HQ2'.out, HQ4.out, hS1c, hS2c, fun q h1 h2 => HAP4.out q h1 h2, hW7.alloc hW7.size _⟩
            case measure => simp [intOf]; omega
          | [], _, hm1, hm2 => exact absurd hm1 (by intro h; have h' : 0 = l.length - k := h; omega)
          | r1 :: t1, [], hm1, hm2 => simp at hm2
        · obtain rfl : k = l.length := by omega
          have e1 : m1 = [] := List.eq_nil_of_length_eq_zero (by have : m1.length = l.length - l.length := hm1; omega)
          subst e1
          go_wp2_with fail
          refine (pop_none cmp2 hS1).mono ?_
          rintro e w5 ⟨rfl, b5⟩
          have hS3 := hS1.below cmp2 (b5.alloc b5.size (.cells #[.int .i64 0, .int .i64 0] 66))
          have hW5 := (hWW.trans (b5.mono hWW.size)).alloc (Nat.le_trans hWW.size b5.size) (.cells #[.int .i64 0, .int .i64 0] 66)
          clear hS1 hS2 b5 hm2 hm1 hmp
          unfold val
          go_wp2_with fail
          have hq := len_any hS3
          simp only [List.length_nil] at hq
          refine hq.mono ?_
          rintro e w6 ⟨rfl, rfl⟩
          clear hq
          go_wp2_with fail
          go_ret
          exact ⟨rfl, hW5⟩
set_option maxHeartbeats 800000 in
set_option maxRecDepth 100000 in
theorem law_many (A : Option Addr) (cp : Nat) (l : List (Int × Int)) (w : World) (hl : ¬ l.length ≤ 200) (hs : l.length * 16 ≤ reachBytes) :
    Calls Try.prog 11 #[.slice A l.length cp] w fun e w' => e = .returned (.bool true) ∧ Below w.heap.size w w' := by
  unfold reachBytes at hs
  have hl2 : 200 < l.length := by omega
  clear hl
  go_enter Try.func11, Try.ntmps11
  go_wp2_with fail
  refine (awake_any _).mono ?_
  rintro e w1 ⟨rfl, b1⟩
  go_wp2_with fail
  go_ret
  exact ⟨rfl, b1⟩
theorem walk (W : World) (A : Option Addr) (cp : Nat) (l : List (Int × Int)) (hr : Kd.C kII W A l.length l) (hc : l.length ≤ cp) (hg : ∀ x ∈ l, In64 x.1 ∧ In64 x.2) (hs : l.length * 16 ≤ reachBytes) :
    Calls Try.prog 11 #[.slice A l.length cp] W fun e w' => e = .returned (.bool true) ∧ Below W.heap.size W w' := by
  by_cases hl : l.length ≤ 200
  · exact law_any A cp l W hr hl
  · exact law_many A cp l W hl hs
end Go.Proofs.Ytbldnjpdeldabaa.HeapSame
