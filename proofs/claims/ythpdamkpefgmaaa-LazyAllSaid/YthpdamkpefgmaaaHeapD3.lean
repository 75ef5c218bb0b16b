/- Layer 14: the heap's down, walked. -/
import Derived.Test.YthpdamkpefgmaaaHeap3
namespace Go.Proofs.Ythpdamkpefgmaaa.Heap3
open Go.RowKit Base Foot HeapPure
set_option linter.unusedVariables false
attribute [local go_sem ↓] Go.wp_at_zero Go.wp_at_succ
set_option linter.unusedSectionVars false
section
variable {fp : Value} {F : Nat} {lt : Item → Item → Bool} {I : World → Prop} {G : Nat → Prop} (hC : Cmp fp F lt I G)
include hC

set_option maxHeartbeats 6400000 in
set_option maxRecDepth 100000 in
theorem down_any {B : Nat} {w : World} {b g cap : Nat} {l : List Item} {pu pk : Int} (h : HeapT fp F I G B w b (.slice (some ⟨g, 0, none⟩) l.length cap) l pu pk) (s : Nat) (hi : s < l.length) (hu : HeapFrom lt l (s + 1)) :
    Calls Try.prog 98 #[.pointer (some ⟨b, 0, none⟩), .int .i64 (s : Int)] w fun e w' => e = .returned (.tuple #[]) ∧ ∃ l', l'.Perm l ∧ HeapFrom lt l' s ∧ HeapT fp F I G B w' b (.slice (some ⟨g, 0, none⟩) l'.length cap) l' pu pk ∧ w.grownBy w' (some g) := by
  go_enter Try.func98, Try.ntmps98
  go_wp2_with fail
  go_loopw [1] (fun v1 wr => ∃ (i : Nat) (l' : List Item), i < l'.length ∧ v1 = .int .i64 (i : Int) ∧ l'.Perm l ∧ Hid (DownInv lt l' s i) ∧ HeapT fp F I G B wr b (.slice (some ⟨g, 0, none⟩) l'.length cap) l' pu pk ∧ w.grownBy wr (some g)) (fun i _ => l.length - (intOf i).toNat)
  case atStart => exact ⟨s, l, hi, rfl, List.Perm.refl _, down_start hu, h, World.grownBy.refl _ _⟩
  case round =>
    obtain ⟨i, l', hil, rfl, hP, hU, hH, hW⟩ := hrel
    have hs := hH.small
    have hlen := hP.length_eq
    have HLEN := Lib.hid hlen
    clear hlen
    obtain ⟨wo, rfl⟩ : ∃ wo : World, wo = wr := ⟨_, rfl⟩
    have HC := Lib.hid hC
    have hstart := best_start hC.ord hil
    have HST := Lib.hid hstart
    have hent := hC.ent
    clear hstart hC
    go_wp2_with fail
    go_loopw [4, 5] (fun v4 v5 wr => ∃ (best k : Nat), v4 = .int .i64 (best : Int) ∧ v5 = .int .i64 (k : Int) ∧ Hid (BestInv lt l' i k best) ∧ best < l'.length ∧ k ≤ 2 * i + 3 ∧ HeapT fp F I G B wr b (.slice (some ⟨g, 0, none⟩) l'.length cap) l' pu pk ∧ w.grownBy wr (some g)) (fun _ v _ => 2 * i + 3 - (intOf v).toNat)
    case atStart => exact ⟨i, 2 * i + 1, rfl, by go_num, HST.out, hil, by omega, hH, hW⟩
    case round =>
      obtain ⟨best, k, rfl, rfl, hBI, hbl, hk3, hH2, hW2⟩ := hrel
      clear HST hH hW
      have c0 := cell_at hH2.blk 0
      have c1 := cell_at hH2.blk 1
      simp only [List.getElem?_toArray, List.getElem?_cons_zero, List.getElem?_cons_succ] at c0 c1
      have hF := fun q hq => (hH2.foot_lt HC.out q hq).2
      have lb := hF b (.inl rfl)
      have lg := hF g (.inr rfl)
      clear hF
      by_cases hk : k ≤ 2 * i + 2 ∧ k < l'.length
      · obtain ⟨hk1, hk2⟩ := hk
        have hx := List.getElem?_eq_getElem hk2
        have hy := List.getElem?_eq_getElem hbl
        generalize l'[k] = x at hx
        generalize l'[best] = y at hy
        obtain ⟨g1, cap1, e, hcap, hxj⟩ := own_get enc_len hH2.row (by omega) hx
        cases e
        obtain ⟨g1, cap1, e, _, hyj⟩ := own_get enc_len hH2.row (by omega) hy
        cases e
        have x0 := hxj 0 _ rfl
        have x1 := hxj 1 _ rfl
        have x2 := hxj 2 _ rfl
        have y0 := hyj 0 _ rfl
        have y1 := hyj 1 _ rfl
        have y2 := hyj 2 _ rfl
        rw [Nat.add_zero] at x0 y0
        have HX := Lib.hid hx
        have HY := Lib.hid hy
        clear hx hy hxj hyj
        have hI : I wr.drew := HC.out.keep _ _ hH2.inv (fun _ _ => rfl)
        obtain ⟨⟨xa, xb⟩, xc⟩ := x
        obtain ⟨⟨ya, yb⟩, yc⟩ := y
        have HCALL := Lib.hid (HC.out.call wr.drew ((xa, xb), xc) ((ya, yb), yc) hI)
        clear hI
        unfold val at HCALL
        simp only at x0 x1 x2 y0 y1 y2
        have HH := Lib.hid hH2
        clear hH2
        have k0 : (0 : Int) ≤ (k : Int) := by omega
        have k1 : (k : Int) < (l'.length : Int) := by omega
        have k2 : (0 : Int) ≤ (best : Int) := by omega
        have k3 : (best : Int) < (l'.length : Int) := by omega
        have k4 : (k : Int) ≤ 2 * (i : Int) + 2 := by omega
        go_wp2_with fail
        go_region_held3 (fun w' => w'.cell? ⟨b, 0, none⟩ = some (.slice (some ⟨g, 0, none⟩) l'.length cap) ∧ w'.cell? ⟨b, 1, none⟩ = some (.func (.func F) #[fp] #[]) ∧ w'.cell? ⟨g, k * 3, none⟩ = some (.int .i64 xa) ∧ w'.cell? ⟨g, k * 3 + 1, none⟩ = some (.int .i64 xb) ∧ w'.cell? ⟨g, k * 3 + 2, none⟩ = some (.int .i64 xc) ∧ w'.cell? ⟨g, best * 3, none⟩ = some (.int .i64 ya) ∧ w'.cell? ⟨g, best * 3 + 1, none⟩ = some (.int .i64 yb) ∧ w'.cell? ⟨g, best * 3 + 2, none⟩ = some (.int .i64 yc))
          (first | exact ⟨c0, c1, x0, x1, x2, y0, y1, y2⟩ | exact ⟨d0, d1, d2, d3, d6, d4, d5, d7⟩)
          (first | (refine HCALL.out.mono ?_; rintro e w1 ⟨rfl, b1⟩
                    have d0 := (b1.cell (p := ⟨b, 0, none⟩) lb).trans c0
                    have d1 := (b1.cell (p := ⟨b, 1, none⟩) lb).trans c1
                    have d2 := (b1.cell (p := ⟨g, k * 3, none⟩) lg).trans x0
                    have d3 := (b1.cell (p := ⟨g, k * 3 + 1, none⟩) lg).trans x1
                    have d4 := (b1.cell (p := ⟨g, best * 3, none⟩) lg).trans y0
                    have d5 := (b1.cell (p := ⟨g, best * 3 + 1, none⟩) lg).trans y1
                    have d6 := (b1.cell (p := ⟨g, k * 3 + 2, none⟩) lg).trans x2
                    have d7 := (b1.cell (p := ⟨g, best * 3 + 2, none⟩) lg).trans y2))
        have hb1 : Below wr.heap.size wr w1 := ⟨b1.os, b1.tape, b1.output, b1.size, b1.block⟩
        have h1 := HH.out.below HC.out hb1
        have hg1 : w.grownBy w1 (some g) := hW2.trans (grown_below hb1)
        clear b1 hb1
        cases hlt : lt ((xa, xb), xc) ((ya, yb), yc)
        · have hBI2 := best_leave hBI hk1 HX.out HY.out hlt
          have HBI := Lib.hid hBI2
          clear hBI2 hlt hBI
          go_wp2_with fail
          go_roundw
          case rel => exact ⟨best, k + 1, rfl, by go_num, HBI.out, hbl, by omega, h1, hg1⟩
          case measure => simp [intOf]; omega
        · have hBI2 := best_take HC.out.ord hBI hk1 HX.out HY.out hlt
          have HBI := Lib.hid hBI2
          clear hBI2 hlt hBI
          go_wp2_with fail
          go_roundw
          case rel => exact ⟨k, k + 1, rfl, by go_num, HBI.out, hk2, by omega, h1, hg1⟩
          case measure => simp [intOf]; omega
      · have hkd : 2 * i + 2 < k ∨ l'.length ≤ k := by omega
        have HKD := Lib.hid hkd
        have hx := List.getElem?_eq_getElem hil
        have hy := List.getElem?_eq_getElem hbl
        generalize l'[i] = x at hx
        generalize l'[best] = y at hy
        by_cases hbi : best = i
        · have hstop : HeapFrom lt l' s := by subst hbi; exact down_stop hU hBI hkd
          have HS := Lib.hid hstop
          subst hbi
          clear hstop hkd
          by_cases hk4 : k ≤ 2 * best + 2
          · have hk5 : l'.length ≤ k := by omega
            go_wp2_with fail
            refine bodyPost_ret (results_none rfl _ _ _) rfl ?_
            exact ⟨rfl, l', hP, HS.out, hH2, hW2⟩
          · go_wp2_with fail
            refine bodyPost_ret (results_none rfl _ _ _) rfl ?_
            exact ⟨rfl, l', hP, HS.out, hH2, hW2⟩
        · obtain ⟨hU2, hib⟩ := down_step HC.out.ord hU hBI hkd hbi hx hy
          have HU2 := Lib.hid hU2
          clear hU2 hkd
          obtain ⟨g1, cap1, e, hcap, hxj⟩ := own_get enc_len hH2.row (by omega) hx
          cases e
          obtain ⟨g1, cap1, e, _, hyj⟩ := own_get enc_len hH2.row (by omega) hy
          cases e
          have x0 := hxj 0 _ rfl
          have x1 := hxj 1 _ rfl
          have x2 := hxj 2 _ rfl
          have y0 := hyj 0 _ rfl
          have y1 := hyj 1 _ rfl
          have y2 := hyj 2 _ rfl
          rw [Nat.add_zero] at x0 y0
          have hsw0 := heap_swap HC.out hH2 hx hy
          have HSW := Lib.hid hsw0
          have HPM := Lib.hid (swap_perm hx hy)
          clear hx hy hxj hyj hsw0
          have fr := fun o => hH2.row.frozenAt o
          have f0 := fr (i * 3)
          have f1 := fr (i * 3 + 1)
          have f4 := fr (i * 3 + 2)
          have f2 := fr (best * 3)
          have f3 := fr (best * 3 + 1)
          have f5 := fr (best * 3 + 2)
          clear fr hH2
          have n1 : ¬ best * 3 = i * 3 := by omega
          have n2 : ¬ best * 3 = i * 3 + 1 := by omega
          have n3 : ¬ best * 3 = i * 3 + 2 := by omega
          have n4 : ¬ best * 3 + 1 = i * 3 := by omega
          have n5 : ¬ best * 3 + 1 = i * 3 + 1 := by omega
          have n6 : ¬ best * 3 + 1 = i * 3 + 2 := by omega
          have n7 : ¬ best * 3 + 2 = i * 3 := by omega
          have n8 : ¬ best * 3 + 2 = i * 3 + 1 := by omega
          have n9 : ¬ best * 3 + 2 = i * 3 + 2 := by omega
          have k0 : (0 : Int) ≤ (i : Int) := by omega
          have k1 : (i : Int) < (l'.length : Int) := by omega
          have k2 : (0 : Int) ≤ (best : Int) := by omega
          have k3 : (best : Int) < (l'.length : Int) := by omega
          have hbi2 : ((best : Int) == (i : Int)) = false := by simp; omega
          have hll : l'.length ≤ l.length := Nat.le_of_eq HLEN.out
          by_cases hk4 : k ≤ 2 * i + 2
          · have hk5 : l'.length ≤ k := by omega
            go_wp2_with fail
            go_region
            go_wp2_with fail
            go_roundw
            case rel => exact ⟨best, _, by rw [swap_len]; exact hbl, rfl, HPM.out.trans hP, HU2.out, HeapT.keep HC.out HSW.out.1 (fun k _ => drew_heap HC.out _ k), hW2.trans (grown_drew HSW.out.2)⟩
            case measure => simp [intOf]; omega
          · go_wp2_with fail
            go_region
            go_wp2_with fail
            go_roundw
            case rel => exact ⟨best, _, by rw [swap_len]; exact hbl, rfl, HPM.out.trans hP, HU2.out, HeapT.keep HC.out HSW.out.1 (fun k _ => drew_heap HC.out _ k), hW2.trans (grown_drew HSW.out.2)⟩
            case measure => simp [intOf]; omega
end
end Go.Proofs.Ythpdamkpefgmaaa.Heap3
