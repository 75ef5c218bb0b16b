/- HeapPlays: through any pushes and pops on any items, what is popped is there, and none is better; so is what is on top; and the counts are what the reference says. No condition. -/
import Derived.Test.YtbldnjpdeldabaaRefHeap2
import Derived.Test.YtbldnjpdeldabaaHeapSame
namespace Go.Proofs.Ytbldnjpdeldabaa.HeapPlays
open Go.RowKit Go.ChangeShapes Go.WideShapes Go.Deep Go.Proofs.YtbldnjpdeldabaaW.PrintWords Go.Proofs.YtbldnjpdeldabaaW.PrintLast Go.Proofs.YtbldnjpdeldabaaW.PrintMore Base Foot Src HeapPure Heap Kinds RefHeap
set_option linter.unusedVariables false
set_option linter.unusedSimpArgs false
attribute [local go_sem ↓] Go.wp_at_zero Go.wp_at_succ
attribute [local go_sem high] eqI

theorem buildH (A : Option Addr) (n c : Nat) (k : Int) (w : World) : (Instr.build 61 #[(0, .slice A n c), (2, .int .i64 k)]).run Try.prog w = .ok (.agg #[.slice A n c, .int .i64 0, .int .i64 k]) w := run_build w _ _ _ (by kernel_rfl)
theorem buildZ (w : World) : (Instr.build 66 #[]).run Try.prog w = .ok (.agg #[.int .i64 0, .int .i64 0]) w := run_build w _ _ _ (by kernel_rfl)
attribute [-go_sem] Instr.build
attribute [local go_sem high] buildH buildZ

theorem own_slice {w : World} {B : Nat} {t : TypeId} {m : Nat} {v : Value} {n : Nat} {cs : List Value} (h : w.ownsRow B t m v n cs) : ∃ A cap, v = .slice A n cap := by
  rcases h.2 with ⟨rfl, h0⟩ | ⟨g, cap, cur, rfl, _⟩
  · exact ⟨none, 0, by rw [h0]⟩
  · exact ⟨_, _, rfl⟩

set_option maxHeartbeats 6400000 in
set_option maxRecDepth 100000 in
theorem law_any (A A' : Option Addr) (cp cp' : Nat) (fs l : List (Int × Int)) (w : World) (hr0 : Kd.C kII w A fs.length fs) (hr : Kd.C kII w A' l.length l) (hf : fs.length ≤ 200) (hl : l.length ≤ 300) :
    Calls Try.prog 9 #[.slice A fs.length cp, .slice A' l.length cp'] w fun e w' => e = .returned (.bool true) ∧ Below w.heap.size w w' := by
  obtain ⟨i0, hi, hz0, hz1, hz2⟩ := info_parts infoI
  have hsrc0 := HeapSame.src_II hr0
  go_enter Try.func9, Try.ntmps9
  go_wp2_with fail
  refine (awake_any _).mono ?_
  rintro e w1 ⟨rfl, b1⟩
  have hsrc1 := hsrc0.below b1
  go_wp2_with fail
  refine (lawof_any A cp fs w1 hsrc1 (by omega)).mono ?_
  rintro e w2 ⟨b, rfl, l1, lv1, p1, p2, p3, b2⟩
  have hsrc2 := hsrc1.below b2
  replace b2 := b1.trans (b2.mono b1.size)
  have hB := b1.size
  have hz2w := b2.size
  have hlt2 := fun q hq => (p3.foot_lt cmp1 q hq).2
  have ho := own_empty w2 w2.heap.size 66 2 (Nat.le_refl _)
  have hsrc3 := hsrc2.alloc (.cells #[] 66)
  generalize w1.heap.size = B at *
  clear hsrc0 hsrc1 hsrc2 b1
  go_wp2_with (at_builtin; refine wpList_append_src _ rfl _ _ 56 rfl w2.heap.size 66 i0 _ 2 16 Try.underlying56 hi hz0 hz1 hz2 rfl (by decide) _ _ _ (by rfl) ho _ _ _ _ (by rfl) hsrc3 (enc_one fs) (by unfold maxLen; omega) (by omega) (by simp) ?_; intro v' w3 hown3 hgrow3 hat3; simp only [Nat.zero_add, List.nil_append] at hown3; obtain ⟨A2, cap2, rfl⟩ := own_slice hown3)
  have b3 : Below w2.heap.size w2 w3 := ((Below.refl _ _).alloc (Nat.le_refl _) _).grown hgrow3 (by simp) (fun k hk => by cases hk; exact Nat.le_refl _)
  have h3 := p3.below cmp1 b3
  have hW3 := b2.trans (b3.mono hz2w)
  have hz3 := b3.size
  have a4 := (Below.refl w3.heap.size w3).alloc (Nat.le_refl _) (.cells #[.slice A2 fs.length cap2, .int .i64 0, .int .i64 (fs.length : Int)] 61)
  have h4 := h3.below cmp1 a4
  have hR4 : RH w2.heap.size (w3.alloc (.cells #[.slice A2 fs.length cap2, .int .i64 0, .int .i64 (fs.length : Int)] 61)) w3.heap.size (.slice A2 fs.length cap2) fs 0 (fs.length : Int) :=
    ⟨hz3, heap_alloc_new _ _, hown3.alloc _, by omega, by omega⟩
  have hW4 := hW3.trans (a4.mono hW3.size)
  have hap : Hid (∀ q, HFoot b lv1 q → ¬ HFoot w3.heap.size (.slice A2 fs.length cap2) q) := fun q h1 h2 => by
    have := hlt2 q h1
    have := (hR4.foot_lt q h2).1
    omega
  clear p3 h3 b3 hW3 hgrow3 hown3 hat3 ho hsrc3 a4
  have hperm0 := p1
  go_wp2_with fail
  generalize w3.alloc (.cells #[.slice A2 fs.length cap2, .int .i64 0, .int .i64 (fs.length : Int)] 61) = w4 at *
  generalize w3.heap.size = c at *
  have hC : w.heap.size ≤ w2.heap.size := hz2w
  generalize w2.heap.size = C at *
  go_loopw [7] (fun v7 wr => ∃ (k : Nat) (m1 m2 : List Heap.Item) (u1 u2 : Value) (pu pk : Int), k ≤ l.length ∧ v7 = .int .i64 (k : Int) ∧ HeapT 72 IT GF B wr b u1 m1 pu pk ∧ Hid (HeapFrom ltB m1 0) ∧ RH C wr c u2 m2 pu pk ∧ Hid (m1.Perm m2) ∧ m1.length ≤ 200 + k ∧ pu ≤ (k : Int) ∧ Hid (∀ q, HFoot b u1 q → ¬ HFoot c u2 q) ∧ Below w.heap.size w wr) (fun i _ => l.length - (intOf i).toNat)
  case atStart => exact ⟨0, l1, fs, _, _, 0, _, by omega, rfl, h4, p2, hR4, hperm0, by have := p1.length_eq; omega, by omega, hap, hW4⟩
  case round =>
    clear h4 p2 hR4 hperm0 p1 hap hW4 hz3 hlt2
    obtain ⟨k, m1, m2, u1, u2, pu, pk, hk, rfl, hT, hF, hR, hP, hml, hpu, hap, hW⟩ := hrel
    by_cases hlt : k < l.length
    · have hx := List.getElem?_eq_getElem hlt
      obtain ⟨ad, e1, hx0, hx1⟩ := at_II hr hx
      cases e1
      have hxc : ∀ w', Below w.heap.size w w' → w'.cell? (ad.add (k * 2)) = some (.int .i64 l[k].1) ∧ w'.cell? ⟨(ad.add (k * 2)).block, (ad.add (k * 2)).off + 1, none⟩ = some (.int .i64 l[k].2) := fun w' hb =>
        ⟨(hb.cell (World.block_lt_of_cell? w _ hx0)).trans hx0, (hb.cell (World.block_lt_of_cell? w _ hx1)).trans hx1⟩
      generalize l[k] = x at hxc
      obtain ⟨xa, xb⟩ := x
      simp only at hxc
      have HXC := Lib.hid hxc
      clear hxc hx hx0 hx1
      have hlen2 := hP.length_eq
      have hnum := hT.num
      by_cases hmark : 0 ≤ xb
      · match m1, hT, hF, hP, hml, hlen2 with
        | [], hT, hF, hP, hml, hlen2 =>
          have e2 : m2 = [] := List.eq_nil_of_length_eq_zero (by rw [← hlen2]; rfl)
          subst e2
          go_wp2_with fail
          refine (most_none hR).mono ?_
          rintro e w5 ⟨rfl, rfl⟩
          go_wp2_with fail
          refine (top_any cmp1 hT).mono ?_
          rintro e w5 ⟨rfl, b5⟩
          have b6 := b5.alloc b5.size (.cells #[.int .i64 0, .int .i64 0] 66)
          have hT6 := hT.below cmp1 b6
          have hR6 := hR.below b6
          have hW6 := hW.trans (b6.mono hW.size)
          obtain ⟨x0, x1⟩ := HXC.out _ hW6
          clear hT hR hW b5 b6
          unfold val
          simp only [List.headD_nil, List.isEmpty_nil]
          go_wp2_with fail
          generalize w5.alloc (.cells #[.int .i64 0, .int .i64 0] 66) = w6 at *
          refine (push_any cmp1 hT6 hF (xa, xb) (by simp) (by omega)).mono ?_
          rintro e w7 ⟨rfl, m3, u3, q1, q2, q3, q4⟩
          have hR7 := hR6.keep (w' := w7) (fun q hq => q4.block q (hR6.foot_lt q hq).2 (fun h => hap q h hq))
          have hap7 := q4.apart (fun q hq => (hR6.foot_lt q hq).2) (fun q hq h => hap q h hq)
          have hW7 := hW6.trans (q4.below hW6.size (fun q hq => Nat.le_trans hB (hT6.foot_lt cmp1 q hq).1))
          obtain ⟨x0, x1⟩ := HXC.out _ hW7
          go_wp2_with fail
          refine (rpush_any hR7 (xa, xb) (by simp) (by omega)).mono ?_
          rintro e wz ⟨rfl, u4, hRz, s4⟩
          have hTz := q3.keep cmp1 (w' := wz) (fun q hq => by
            rcases hq with hq | hq
            · exact s4.block q (q3.foot_lt cmp1 q hq).2 (fun h => hap7 q h hq)
            · exact hq.elim)
          have hAz : ∀ q, HFoot b u3 q → ¬ HFoot c u4 q := fun q h1 h2 => s4.apart (fun q hq => (q3.foot_lt cmp1 q hq).2) (fun q hq h => hap7 q h hq) q h1 h2
          have hWz := hW7.trans (s4.below hW7.size (fun q hq => Nat.le_trans hC (hR7.foot_lt q hq).1))
          have hPz : m3.Perm ([] ++ [(xa, xb)]) := q1
          have hFz := q2
          have hmz : m3.length ≤ 201 + k := by have := q1.length_eq; simp at this; omega
          clear q1 q2 q3 q4 s4 hR7 hap7 hW7 hT6 hR6 hW6 hF hP hap x0 x1
          simp only [List.length_nil] at hTz hRz
          have hlq := fun n => quiet_left (len_any (hTz.keep cmp1 (w' := wz.drewN n) (fun _ _ => rfl)))
          have hpq := fun n => quiet_left (pushes_any (hTz.keep cmp1 (w' := wz.drewN n) (fun _ _ => rfl)))
          have hkq := fun n => quiet_left (peak_any (hTz.keep cmp1 (w' := wz.drewN n) (fun _ _ => rfl)))
          have HLQ := Lib.hid hlq
          have HPQ := Lib.hid hpq
          have HKQ := Lib.hid hkq
          have hnl := hPz.length_eq
          obtain ⟨Az, cz, rfl, _, _⟩ := hRz.slice
          rw [← hnl] at hRz hAz
          have z0 := cell_at hRz.blk 0
          have z1 := cell_at hRz.blk 1
          have z2 := cell_at hRz.blk 2
          simp only [List.getElem?_toArray, List.getElem?_cons_zero, List.getElem?_cons_succ] at z0 z1 z2
          have hsz := hTz.small
          have HT := Lib.hid hTz
          have HR := Lib.hid hRz
          have HP := Lib.hid hPz
          have HF := Lib.hid hFz
          have HA := Lib.hid hAz
          have HW := Lib.hid hWz
          have HN := Lib.hid hnl
          clear hlq hpq hkq hTz hRz hPz hFz hAz hWz hnl
          go_wp2_with fail
          go_quiet ((first | (go_at_call 34; exact HLQ.out _) | (go_at_call 47; exact HPQ.out _) | (go_at_call 48; exact HKQ.out _)))
          go_wp2_with fail
          go_roundw
          case rel => exact ⟨k + 1, _, _, _, _, _, _, by omega, by go_num, HT.out.keep cmp1 (fun _ _ => rfl), HF, HR.out.keep (fun _ _ => rfl), HP, by omega, by omega, HA, HW.out.trans (bdrew _ _ _)⟩
          case measure => simp [intOf]; omega
        | r :: t, hT, hF, hP, hml, hlen2 =>
          obtain ⟨ra, rb⟩ := r
          have hpos : 0 < m2.length := by rw [← hlen2]; simp
          have hmax := (root_max hF.out).perm hP.out
          go_wp2_with fail
          refine (most_some hR hpos).mono ?_
          rintro e w5 ⟨m, hm, rfl, rfl⟩
          obtain rfl : ra = m := hmax.uniq hm
          go_wp2_with fail
          refine (top_any cmp1 hT).mono ?_
          rintro e w5 ⟨rfl, b5⟩
          have b6 := b5.alloc b5.size (.cells #[.int .i64 ra, .int .i64 rb] 66)
          have hT6 := hT.below cmp1 b6
          have hR6 := hR.below b6
          have hW6 := hW.trans (b6.mono hW.size)
          obtain ⟨x0, x1⟩ := HXC.out _ hW6
          clear hT hR hW b5 b6
          unfold val
          simp only [List.headD_cons, List.isEmpty_cons]
          go_wp2_with fail
          generalize w5.alloc (.cells #[.int .i64 ra, .int .i64 rb] 66) = w6 at *
          refine (push_any cmp1 hT6 hF.out (xa, xb) (by omega) (by omega)).mono ?_
          rintro e w7 ⟨rfl, m3, u3, q1, q2, q3, q4⟩
          have hR7 := hR6.keep (w' := w7) (fun q hq => q4.block q (hR6.foot_lt q hq).2 (fun h => hap.out q h hq))
          have hap7 := q4.apart (fun q hq => (hR6.foot_lt q hq).2) (fun q hq h => hap.out q h hq)
          have hW7 := hW6.trans (q4.below hW6.size (fun q hq => Nat.le_trans hB (hT6.foot_lt cmp1 q hq).1))
          obtain ⟨x0, x1⟩ := HXC.out _ hW7
          rw [show (((ra, rb) :: t).length : Int) = (m2.length : Int) by rw [hlen2]] at q3
          go_wp2_with fail
          refine (rpush_any hR7 (xa, xb) (by omega) (by omega)).mono ?_
          rintro e wz ⟨rfl, u4, hRz, s4⟩
          have hTz := q3.keep cmp1 (w' := wz) (fun q hq => by
            rcases hq with hq | hq
            · exact s4.block q (q3.foot_lt cmp1 q hq).2 (fun h => hap7 q h hq)
            · exact hq.elim)
          have hAz : ∀ q, HFoot b u3 q → ¬ HFoot c u4 q := fun q h1 h2 => s4.apart (fun q hq => (q3.foot_lt cmp1 q hq).2) (fun q hq h => hap7 q h hq) q h1 h2
          have hWz := hW7.trans (s4.below hW7.size (fun q hq => Nat.le_trans hC (hR7.foot_lt q hq).1))
          have hPz : m3.Perm (m2 ++ [(xa, xb)]) := (q1.trans (hP.out.cons _)).trans (List.perm_append_singleton _ _).symm
          have hFz := q2
          have hmz : m3.length ≤ 201 + k := by have := q1.length_eq; simp only [List.length_cons] at this hml; omega
          clear q1 q2 q3 q4 s4 hR7 hap7 hW7 hT6 hR6 hW6 hF hP hap x0 x1 hm hmax
          have hlq := fun n => quiet_left (len_any (hTz.keep cmp1 (w' := wz.drewN n) (fun _ _ => rfl)))
          have hpq := fun n => quiet_left (pushes_any (hTz.keep cmp1 (w' := wz.drewN n) (fun _ _ => rfl)))
          have hkq := fun n => quiet_left (peak_any (hTz.keep cmp1 (w' := wz.drewN n) (fun _ _ => rfl)))
          have HLQ := Lib.hid hlq
          have HPQ := Lib.hid hpq
          have HKQ := Lib.hid hkq
          have hnl := hPz.length_eq
          obtain ⟨Az, cz, rfl, _, _⟩ := hRz.slice
          rw [← hnl] at hRz hAz
          have z0 := cell_at hRz.blk 0
          have z1 := cell_at hRz.blk 1
          have z2 := cell_at hRz.blk 2
          simp only [List.getElem?_toArray, List.getElem?_cons_zero, List.getElem?_cons_succ] at z0 z1 z2
          have hsz := hTz.small
          have HT := Lib.hid hTz
          have HR := Lib.hid hRz
          have HP := Lib.hid hPz
          have HF := Lib.hid hFz
          have HA := Lib.hid hAz
          have HW := Lib.hid hWz
          have HN := Lib.hid hnl
          clear hlq hpq hkq hTz hRz hPz hFz hAz hWz hnl
          go_wp2_with fail
          go_quiet ((first | (go_at_call 34; exact HLQ.out _) | (go_at_call 47; exact HPQ.out _) | (go_at_call 48; exact HKQ.out _)))
          go_wp2_with fail
          go_roundw
          case rel => exact ⟨k + 1, _, _, _, _, _, _, by omega, by go_num, HT.out.keep cmp1 (fun _ _ => rfl), HF, HR.out.keep (fun _ _ => rfl), HP, by omega, by omega, HA, HW.out.trans (bdrew _ _ _)⟩
          case measure => simp [intOf]; omega
      · match m1, hT, hF, hP, hml, hlen2 with
        | [], hT, hF, hP, hml, hlen2 =>
          have e2 : m2 = [] := List.eq_nil_of_length_eq_zero (by rw [← hlen2]; rfl)
          subst e2
          go_wp2_with fail
          refine (most_none hR).mono ?_
          rintro e w5 ⟨rfl, rfl⟩
          go_wp2_with fail
          refine (top_any cmp1 hT).mono ?_
          rintro e w5 ⟨rfl, b5⟩
          have b6 := b5.alloc b5.size (.cells #[.int .i64 0, .int .i64 0] 66)
          have hT6 := hT.below cmp1 b6
          have hR6 := hR.below b6
          have hW6 := hW.trans (b6.mono hW.size)
          obtain ⟨x0, x1⟩ := HXC.out _ hW6
          clear hT hR hW b5 b6
          unfold val
          simp only [List.headD_nil, List.isEmpty_nil]
          go_wp2_with fail
          generalize w5.alloc (.cells #[.int .i64 0, .int .i64 0] 66) = w6 at *
          refine (pop_none cmp1 hT6).mono ?_
          rintro e w7 ⟨rfl, b7⟩
          have b8 := b7.alloc b7.size (.cells #[.int .i64 0, .int .i64 0] 66)
          have hTz := hT6.below cmp1 b8
          have hRz := hR6.below b8
          have hWz := hW6.trans (b8.mono hW6.size)
          clear hT6 hR6 hW6 b7 b8 x0 x1
          unfold val
          go_wp2_with fail
          generalize w7.alloc (.cells #[.int .i64 0, .int .i64 0] 66) = wz at *
          have hPz : ([] : List Heap.Item).Perm [] := .nil
          have hFz := hF.out
          have hAz := hap.out
          have hmz : ([] : List Heap.Item).length ≤ 201 + k := by simp
          clear hF hP hap
          have hlq := fun n => quiet_left (len_any (hTz.keep cmp1 (w' := wz.drewN n) (fun _ _ => rfl)))
          have hpq := fun n => quiet_left (pushes_any (hTz.keep cmp1 (w' := wz.drewN n) (fun _ _ => rfl)))
          have hkq := fun n => quiet_left (peak_any (hTz.keep cmp1 (w' := wz.drewN n) (fun _ _ => rfl)))
          have HLQ := Lib.hid hlq
          have HPQ := Lib.hid hpq
          have HKQ := Lib.hid hkq
          have hnl := hPz.length_eq
          obtain ⟨Az, cz, rfl, _, _⟩ := hRz.slice
          rw [← hnl] at hRz hAz
          have z0 := cell_at hRz.blk 0
          have z1 := cell_at hRz.blk 1
          have z2 := cell_at hRz.blk 2
          simp only [List.getElem?_toArray, List.getElem?_cons_zero, List.getElem?_cons_succ] at z0 z1 z2
          have hsz := hTz.small
          have HT := Lib.hid hTz
          have HR := Lib.hid hRz
          have HP := Lib.hid hPz
          have HF := Lib.hid hFz
          have HA := Lib.hid hAz
          have HW := Lib.hid hWz
          have HN := Lib.hid hnl
          clear hlq hpq hkq hTz hRz hPz hFz hAz hWz hnl
          go_quiet ((first | (go_at_call 34; exact HLQ.out _) | (go_at_call 47; exact HPQ.out _) | (go_at_call 48; exact HKQ.out _)))
          go_wp2_with fail
          go_roundw
          case rel => exact ⟨k + 1, _, _, _, _, _, _, by omega, by go_num, HT.out.keep cmp1 (fun _ _ => rfl), HF, HR.out.keep (fun _ _ => rfl), HP, by omega, by omega, HA, HW.out.trans (bdrew _ _ _)⟩
          case measure => simp [intOf]; omega
        | r :: t, hT, hF, hP, hml, hlen2 =>
          obtain ⟨ra, rb⟩ := r
          have hpos : 0 < m2.length := by rw [← hlen2]; simp
          have hmax := (root_max hF.out).perm hP.out
          go_wp2_with fail
          refine (most_some hR hpos).mono ?_
          rintro e w5 ⟨m, hm, rfl, rfl⟩
          obtain rfl : ra = m := hmax.uniq hm
          go_wp2_with fail
          refine (top_any cmp1 hT).mono ?_
          rintro e w5 ⟨rfl, b5⟩
          have b6 := b5.alloc b5.size (.cells #[.int .i64 ra, .int .i64 rb] 66)
          have hT6 := hT.below cmp1 b6
          have hR6 := hR.below b6
          have hW6 := hW.trans (b6.mono hW.size)
          obtain ⟨x0, x1⟩ := HXC.out _ hW6
          have hfar := fun q hq => Nat.lt_of_lt_of_le (hT.foot_lt cmp1 q hq).2 b5.size
          have k6 := heap_alloc_new w5 (.cells #[.int .i64 ra, .int .i64 rb] 66)
          have z6 : w5.heap.size < (w5.alloc (.cells #[.int .i64 ra, .int .i64 rb] 66)).heap.size := block_lt k6
          clear hT hR hW b5 b6
          unfold val
          simp only [List.headD_cons, List.isEmpty_cons]
          go_wp2_with fail
          generalize w5.alloc (.cells #[.int .i64 ra, .int .i64 rb] 66) = w6 at *
          generalize w5.heap.size = tb at *
          refine (pop_some cmp1 hT6 hF.out).mono ?_
          rintro e w7 ⟨rfl, m3, u3, q1, q2, q3, q4, q5⟩
          have k7 := (q4.block tb z6 (fun h => absurd (hfar tb h) (Nat.lt_irrefl _))).trans k6
          have hR7 := hR6.keep (w' := w7) (fun q hq => q4.block q (hR6.foot_lt q hq).2 (fun h => hap.out q h hq))
          have hap7 := q4.apart (fun q hq => (hR6.foot_lt q hq).2) (fun q hq h => hap.out q h hq)
          have hW7 := hW6.trans (q4.below hW6.size (fun q hq => Nat.le_trans hB (hT6.foot_lt cmp1 q hq).1))
          have b8 := (Below.refl w7.heap.size w7).alloc (Nat.le_refl _) (.cells #[.int .i64 ra, .int .i64 rb] 66)
          have k8 := (b8.block tb (block_lt k7)).trans k7
          have hT8 := q3.below cmp1 b8
          have hR8 := hR7.below b8
          have hW8 := hW7.trans (b8.mono hW7.size)
          have t0 := cell_at k8 0
          have t1 := cell_at k8 1
          simp only [List.getElem?_toArray, List.getElem?_cons_zero, List.getElem?_cons_succ] at t0 t1
          have hmem : (ra, rb) ∈ m2 := hP.out.mem_iff.1 (by simp)
          clear q3 q4 q5 hR7 hW7 b8 k8 k7 k6 hfar hT6 hR6 hW6 x0 x1
          unfold val
          go_wp2_with fail
          generalize w7.alloc (.cells #[.int .i64 ra, .int .i64 rb] 66) = w8 at *
          refine (drop_any hR8 (ra, rb) hmem).mono ?_
          rintro e wz ⟨rfl, m4, u4, s1, hRz, s4⟩
          have hTz := hT8.keep cmp1 (w' := wz) (fun q hq => by
            rcases hq with hq | hq
            · exact s4.block q (hT8.foot_lt cmp1 q hq).2 (fun h => hap7 q h hq)
            · exact hq.elim)
          have hAz : ∀ q, HFoot b u3 q → ¬ HFoot c u4 q := fun q h1 h2 => s4.apart (fun q hq => (hT8.foot_lt cmp1 q hq).2) (fun q hq h => hap7 q h hq) q h1 h2
          have hWz := hW8.trans (s4.below hW8.size (fun q hq => Nat.le_trans hC (hR8.foot_lt q hq).1))
          have hPz : m3.Perm m4 := ((q1.trans hP.out).trans s1.symm).cons_inv
          have hFz := q2
          have hmz : m3.length ≤ 201 + k := by have := q1.length_eq; simp only [List.length_cons] at this hml; omega
          clear q1 q2 s1 s4 hap7 hW8 hT8 hR8 hF hP hap hm hmax t0 t1 z6
          have hlq := fun n => quiet_left (len_any (hTz.keep cmp1 (w' := wz.drewN n) (fun _ _ => rfl)))
          have hpq := fun n => quiet_left (pushes_any (hTz.keep cmp1 (w' := wz.drewN n) (fun _ _ => rfl)))
          have hkq := fun n => quiet_left (peak_any (hTz.keep cmp1 (w' := wz.drewN n) (fun _ _ => rfl)))
          have HLQ := Lib.hid hlq
          have HPQ := Lib.hid hpq
          have HKQ := Lib.hid hkq
          have hnl := hPz.length_eq
          obtain ⟨Az, cz, rfl, _, _⟩ := hRz.slice
          rw [← hnl] at hRz hAz
          have z0 := cell_at hRz.blk 0
          have z1 := cell_at hRz.blk 1
          have z2 := cell_at hRz.blk 2
          simp only [List.getElem?_toArray, List.getElem?_cons_zero, List.getElem?_cons_succ] at z0 z1 z2
          have hsz := hTz.small
          have HT := Lib.hid hTz
          have HR := Lib.hid hRz
          have HP := Lib.hid hPz
          have HF := Lib.hid hFz
          have HA := Lib.hid hAz
          have HW := Lib.hid hWz
          have HN := Lib.hid hnl
          clear hlq hpq hkq hTz hRz hPz hFz hAz hWz hnl
          go_wp2_with fail
          go_quiet ((first | (go_at_call 34; exact HLQ.out _) | (go_at_call 47; exact HPQ.out _) | (go_at_call 48; exact HKQ.out _)))
          go_wp2_with fail
          go_roundw
          case rel => exact ⟨k + 1, _, _, _, _, _, _, by omega, by go_num, HT.out.keep cmp1 (fun _ _ => rfl), HF, HR.out.keep (fun _ _ => rfl), HP, by omega, by omega, HA, HW.out.trans (bdrew _ _ _)⟩
          case measure => simp [intOf]; omega
    · go_wp2_with fail
      go_ret
      exact ⟨rfl, hW⟩
set_option maxHeartbeats 1600000 in
set_option maxRecDepth 100000 in
theorem law_many1 (A A' : Option Addr) (cp cp' : Nat) (fs l : List (Int × Int)) (w : World) (hf : ¬ fs.length ≤ 200) (hs : fs.length * 16 ≤ reachBytes) (hs' : l.length * 16 ≤ reachBytes) :
    Calls Try.prog 9 #[.slice A fs.length cp, .slice A' l.length cp'] w fun e w' => e = .returned (.bool true) ∧ Below w.heap.size w w' := by
  unfold reachBytes at hs hs'
  have hf2 : 200 < fs.length := by omega
  clear hf
  go_enter Try.func9, Try.ntmps9
  go_wp2_with fail
  refine (awake_any _).mono ?_
  rintro e w1 ⟨rfl, b1⟩
  go_wp2_with fail
  go_ret
  exact ⟨rfl, b1⟩
set_option maxHeartbeats 1600000 in
set_option maxRecDepth 100000 in
theorem law_many2 (A A' : Option Addr) (cp cp' : Nat) (fs l : List (Int × Int)) (w : World) (hf : fs.length ≤ 200) (hl : ¬ l.length ≤ 300) (hs' : l.length * 16 ≤ reachBytes) :
    Calls Try.prog 9 #[.slice A fs.length cp, .slice A' l.length cp'] w fun e w' => e = .returned (.bool true) ∧ Below w.heap.size w w' := by
  unfold reachBytes at hs'
  have hl2 : 300 < l.length := by omega
  clear hl
  go_enter Try.func9, Try.ntmps9
  go_wp2_with fail
  refine (awake_any _).mono ?_
  rintro e w1 ⟨rfl, b1⟩
  go_wp2_with fail
  go_ret
  exact ⟨rfl, b1⟩
theorem walk (W : World) (A : Option Addr) (cp : Nat) (fs : List (Int × Int)) (hr0 : Kd.C kII W A fs.length fs) (hc0 : fs.length ≤ cp) (hg0 : ∀ x ∈ fs, In64 x.1 ∧ In64 x.2) (hs0 : fs.length * 16 ≤ reachBytes)
    (A' : Option Addr) (cp' : Nat) (l : List (Int × Int)) (hr : Kd.C kII W A' l.length l) (hc : l.length ≤ cp') (hg : ∀ x ∈ l, In64 x.1 ∧ In64 x.2) (hs : l.length * 16 ≤ reachBytes) :
    Calls Try.prog 9 #[.slice A fs.length cp, .slice A' l.length cp'] W fun e w' => e = .returned (.bool true) ∧ Below W.heap.size W w' := by
  by_cases hf : fs.length ≤ 200
  · by_cases hl : l.length ≤ 300
    · exact law_any A A' cp cp' fs l W hr0 hr hf hl
    · exact law_many2 A A' cp cp' fs l W hf hl hs
  · exact law_many1 A A' cp cp' fs l W hf hs0 hs
end Go.Proofs.Ytbldnjpdeldabaa.HeapPlays
