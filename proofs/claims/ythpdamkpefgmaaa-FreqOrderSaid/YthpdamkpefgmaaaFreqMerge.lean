/- Layer 7: freq.Merge, the document's Merge, Great, walked; how words of an argument read. -/
import Derived.Test.YthpdamkpefgmaaaFreqConcat
namespace Go.Proofs.Ythpdamkpefgmaaa.RFreq
open Go.RowKit Go.Maps Go.ChangeShapes Go.WideShapes Go.Deep Go.Proofs.YthpdamkpefgmaaaW.PrintWords Go.Proofs.YthpdamkpefgmaaaW.PrintLast Go.Proofs.YthpdamkpefgmaaaW.PrintMore Base Foot ExtTail SMap FreqPure CAdd Freq
set_option linter.unusedVariables false
set_option linter.unusedSimpArgs false
attribute [local go_sem ↓] Go.wp_at_zero Go.wp_at_succ

theorem addsW_le : ∀ (l m : List Wd), (addsW m l).2.length ≤ m.length + l.length
  | [], m => by simp [addsW]
  | x :: l, m => by
    rw [addsW_cons]
    have h2 := addW_le m x.1 x.2
    split
    · have := addsW_le l (addW m x.1 x.2).2
      simp only [List.length_cons]
      exact Nat.le_trans this (by omega)
    · simp only [List.length_cons]
      exact Nat.le_trans h2 (by omega)
theorem adds_take {l : List Wd} {k : Nat} {x : Wd} (h : l[k]? = some x) : l.take (k + 1) = l.take k ++ [x] := by
  rw [List.take_add_one, h]; rfl
theorem adds_split {l : List Wd} {k : Nat} {x : Wd} (h : l[k]? = some x) : l = l.take k ++ x :: l.drop (k + 1) := by
  obtain ⟨h1, h2⟩ := List.getElem?_eq_some_iff.1 h
  have := List.take_append_drop k l
  rw [List.drop_eq_getElem_cons h1, h2] at this
  exact this.symm
set_option maxHeartbeats 3200000 in
set_option maxRecDepth 100000 in
theorem merge_any {w : World} (A : Option Addr) (cp : Nat) (ps : List Pt) (hp : Parts A ps w) (hl : ps.length ≤ 1000) (ht : (joinP ps).length ≤ 10000) (hz : ∀ x ∈ joinP ps, SS x.1 ∧ In64 x.2) :
    Calls Try.prog 46 #[.slice A ps.length cp] w fun e w' => ∃ v, e = .returned (.tuple #[v, .int .i64 (addsW [] (joinP ps)).1]) ∧ ((addsW [] (joinP ps)).1 ≠ 0 → v = .slice none 0 0) ∧ ((addsW [] (joinP ps)).1 = 0 → ∃ L, Rise L ∧ L.Perm (addsW [] (joinP ps)).2 ∧ RowW w.heap.size w' v L) ∧ Below w.heap.size w w' := by
  have HP := Lib.hid hp
  obtain ⟨L, hL⟩ : ∃ L, joinP ps = L := ⟨_, rfl⟩
  rw [hL] at hz ht ⊢
  have HZ := Lib.hid hz
  have HL := Lib.hid hL
  clear hp hz hL
  go_enter Try.func46, Try.ntmps46
  go_wp2_with fail
  refine (Freq.new_any w).mono ?_
  rintro e w1 ⟨rfl, f1, b1⟩
  have hcc := concat_any A cp ps (HP.out.below b1) hl (by rw [HL.out]; exact ht)
  rw [HL.out] at hcc
  have HF1 := Lib.hid f1
  have HB1 := Lib.hid b1
  clear f1 b1
  go_wp2_with fail
  refine hcc.mono ?_
  rintro e w2 ⟨v2, rfl, r2, b2⟩
  have HF2 := Lib.hid (HF1.out.below b2)
  have HB2 := Lib.hid (HB1.out.trans (b2.mono HB1.out.size))
  have HR2 := Lib.hid r2
  have hlt1 := block_lt HF1.out.blk
  obtain ⟨A2, cap2, rfl⟩ := slc r2
  clear hcc r2 b2
  go_wp2_with fail
  go_loopw [12] (fun v12 wr => ∃ (k : Nat) (mi : List Wd) (mvi : Value), k ≤ L.length ∧ v12 = .int .i64 (k : Int) ∧ Hid (FT wr w.heap.size mvi mi) ∧ Hid (mi.length ≤ k) ∧ Hid (addsW [] (L.take k) = (0, mi)) ∧ Hid (Upd (QFoot w.heap.size (.map none)) (QFoot w.heap.size mvi) w2 wr)) (fun i _ => L.length - (intOf i).toNat)
  case atStart => exact ⟨0, [], .map none, by omega, rfl, HF2, Lib.hid (Nat.le_refl _), Lib.hid rfl, Lib.hid Upd.refl⟩
  case round =>
    obtain ⟨k, mi, mvi, hk, rfl, HD, HML, HE, HU⟩ := hrel
    have k0 : (0 : Int) ≤ (k : Int) := by omega
    by_cases hlt : k < L.length
    · have k1 : (k : Int) < (L.length : Int) := by omega
      have hx := List.getElem?_eq_getElem hlt
      have hzx := HZ.out _ (List.getElem_mem hlt)
      generalize L[k] = x at hx hzx
      obtain ⟨xs, xn⟩ := x
      have hrow := own_keep (w1 := wr) HR2.out (fun q hq => HU.out.block q (HR2.out.lt q hq).2 (fun hf => by
        have := (HR2.out.lt q hq).1
        have h9 := foot_new _ q hf
        rcases hf with h8 | h8
        · omega
        · cases h8))
      obtain ⟨ad, c2, e, _, y0, y1⟩ := row_at hrow hx
      cases e
      simp only at y0 y1 hzx
      have hba := (Below.refl _ wr).alloc (Nat.le_refl _) (.cells #[.string xs, .int .i64 xn] 87)
      have xb := heap_alloc_new wr (.cells #[.string xs, .int .i64 xn] 87)
      have z0 := cell_at xb 0
      have z1 := cell_at xb 1
      simp only [List.getElem?_toArray, List.getElem?_cons_zero, List.getElem?_cons_succ] at z0 z1
      have hadd := add_any' (HD.out.below hba) (by have := HML.out; omega) xs hzx.1 xn hzx.2
      have HX := Lib.hid hx
      have HBA := Lib.hid (Upd.of_below (F := QFoot w.heap.size mvi) hba)
      obtain ⟨er, her⟩ : ∃ er, addW mi xs xn = er := ⟨_, rfl⟩
      rw [her] at hadd
      have HER := Lib.hid her
      clear hx her hrow hba xb hzx
      go_wp2_with fail
      refine hadd.mono ?_
      rintro e w5 ⟨rfl, mv5, hD5, hu5⟩
      have HD5 := Lib.hid hD5
      have HU5 := Lib.hid ((HU.out.trans HBA.out).trans hu5)
      clear hadd hD5 hu5
      by_cases h0 : er.1 = 0
      · have h0b : (er.1 != 0) = false := by simp [h0]
        go_wp2_with fail
        go_roundw
        case rel =>
          refine ⟨k + 1, er.2, mv5, by omega, by go_num, HD5, Lib.hid ?_, Lib.hid ?_, HU5⟩
          · have h1 := addW_le mi xs xn
            have h2 := HML.out
            rw [HER.out] at h1
            omega
          · rw [adds_take HX.out, addsW_one HE.out (xs, xn) (by rw [HER.out]; exact h0), HER.out]
        case measure => simp [intOf]; omega
      · have h0b : (er.1 != 0) = true := by simp [h0]
        have H0 := Lib.hid h0
        have HAP := Lib.hid (show addsW [] L = er by
          refine (congrArg (addsW []) (adds_split HX.out)).trans ?_
          rw [addsW_stop HE.out (xs, xn) _ (by rw [HER.out]; exact h0), HER.out])
        have HB5 := Lib.hid (HB2.out.trans (HU5.out.below HB2.out.size (foot_new _)))
        clear h0
        go_wp2_with fail
        go_ret2
        rw [HAP.out]
        first
          | exact ⟨_, rfl, fun _ => rfl, fun h => absurd h H0.out, HB5.out⟩
          | exact ⟨rfl, fun h => absurd h H0.out, HB5.out⟩
          | exact ⟨rfl, fun _ => rfl, fun h => absurd h H0.out, HB5.out⟩
    · obtain rfl : k = L.length := by omega
      have hnl : ¬ (L.length : Int) < (L.length : Int) := by omega
      have HEE := Lib.hid (show addsW [] L = (0, mi) by have := HE.out; rw [List.take_length] at this; exact this)
      have hfr := freeze_any HD.out (by have := HML.out; omega)
      have HBR := Lib.hid (HB2.out.trans (HU.out.below HB2.out.size (foot_new _)))
      go_wp2_with fail
      refine hfr.mono ?_
      rintro e w3 ⟨v3, l3, rfl, r3, p3, o3, b3⟩
      have HO := Lib.hid (own_low o3 HBR.out.size)
      have HPP := Lib.hid (And.intro r3 p3)
      have HB3 := Lib.hid (HBR.out.trans (b3.mono HBR.out.size))
      clear r3 p3 o3 b3 hfr
      go_wp2_with fail
      go_ret2
      rw [HEE.out]
      first
        | exact ⟨_, rfl, fun h => absurd rfl h, fun _ => ⟨l3, HPP.out.1, HPP.out.2, HO.out⟩, HB3.out⟩
        | exact ⟨rfl, fun h => absurd rfl h, fun _ => ⟨l3, HPP.out.1, HPP.out.2, HO.out⟩, HB3.out⟩

/-! ### the document's -/
def addsR (r : List Wd) : List Wd → Int × List Wd
  | [] => (0, r)
  | x :: l => if (addR r x.1 x.2).1 = 0 then addsR (addR r x.1 x.2).2 l else addR r x.1 x.2
theorem addsR_cons (m : List Wd) (x : Wd) (l : List Wd) : addsR m (x :: l) = if (addR m x.1 x.2).1 = 0 then addsR (addR m x.1 x.2).2 l else addR m x.1 x.2 := rfl
theorem addsR_app {m m1 : List Wd} {a : List Wd} (h : addsR m a = (0, m1)) (b : List Wd) : addsR m (a ++ b) = addsR m1 b := by
  induction a generalizing m with
  | nil => simp [addsR] at h; rw [h]; rfl
  | cons x a ih =>
    rw [List.cons_append, addsR_cons]
    rw [addsR_cons] at h
    split at h
    · rename_i h0; rw [if_pos h0]; exact ih h
    · rename_i h0; rw [h] at h0; exact absurd rfl h0
theorem addsR_stop {m m1 : List Wd} {a : List Wd} (h : addsR m a = (0, m1)) (x : Wd) (b : List Wd) (he : (addR m1 x.1 x.2).1 ≠ 0) : addsR m (a ++ x :: b) = addR m1 x.1 x.2 := by
  rw [addsR_app h, addsR_cons, if_neg he]
theorem addsR_one {m m1 : List Wd} {a : List Wd} (h : addsR m a = (0, m1)) (x : Wd) (he : (addR m1 x.1 x.2).1 = 0) : addsR m (a ++ [x]) = (0, (addR m1 x.1 x.2).2) := by
  rw [addsR_app h, addsR_cons, if_pos he]; rfl
/-- both alike -/
theorem adds_same : ∀ (l : List Wd) {m r : List Wd}, Nd m → r.Perm m → Rise r → (addsR r l).1 = (addsW m l).1 ∧ (addsR r l).2.Perm (addsW m l).2 ∧ Rise (addsR r l).2
  | [], m, r, hd, hp, hr => ⟨rfl, hp, hr⟩
  | x :: l, m, r, hd, hp, hr => by
    obtain ⟨h1, h2⟩ := add_same hd hp x.1 x.2
    have h3 := addR_rise hr x.1 x.2
    rw [addsR_cons, addsW_cons, h1]
    split
    · exact adds_same l (addW_nd hd _ _) h2 h3
    · exact ⟨h1, h2, h3⟩
theorem addsR_ok : ∀ (l : List Wd) {r : List Wd}, Pos r → (∀ x ∈ r, x.1.size < 100000000) → (∀ x ∈ l, x.1.size < 100000000) → Pos (addsR r l).2 ∧ (∀ x ∈ (addsR r l).2, x.1.size < 100000000) ∧ (addsR r l).2.length ≤ r.length + l.length
  | [], r, hp, hz, _ => ⟨hp, hz, by simp [addsR]⟩
  | x :: l, r, hp, hz, hs => by
    have h1 := addR_pos hp x.1 x.2
    have h2 := addR_sz (n := x.2) hz (hs x (by simp))
    have h3 := addR_le r x.1 x.2
    rw [addsR_cons]
    split
    · obtain ⟨g1, g2, g3⟩ := addsR_ok l h1 h2 (fun y hy => hs y (List.mem_cons_of_mem _ hy))
      exact ⟨g1, g2, by simp only [List.length_cons]; exact Nat.le_trans g3 (by omega)⟩
    · exact ⟨h1, h2, by simp only [List.length_cons]; exact Nat.le_trans h3 (by omega)⟩
set_option maxHeartbeats 3200000 in
set_option maxRecDepth 100000 in
theorem rmerge_any {w : World} (A : Option Addr) (cp : Nat) (l : List Wd) (hsrc : SrcW w A l) (hl : l.length ≤ 10000) (hz : ∀ x ∈ l, x.1.size < 100000000 ∧ In64 x.2) :
    Calls Try.prog 50 #[.slice A l.length cp] w fun e w' => ∃ v, e = .returned (.tuple #[v, .int .i64 (addsR [] l).1]) ∧ ((addsR [] l).1 ≠ 0 → v = .slice none 0 0) ∧ ((addsR [] l).1 = 0 → RowW w.heap.size w' v (addsR [] l).2) ∧ Below w.heap.size w w' := by
  have HS := Lib.hid hsrc
  have HZ := Lib.hid hz
  clear hsrc hz
  go_enter Try.func50, Try.ntmps50
  go_wp2_with fail
  go_loopw [4, 5] (fun v4 v5 wr => ∃ (k : Nat) (ov : Value) (r : List Wd), k ≤ l.length ∧ ov = v4 ∧ v5 = .int .i64 (k : Int) ∧ Hid (addsR [] (l.take k) = (0, r)) ∧ Hid (RowW w.heap.size wr ov r) ∧ Hid (Below w.heap.size w wr)) (fun _ i _ => l.length - (intOf i).toNat)
  case atStart => exact ⟨0, _, [], by omega, rfl, rfl, Lib.hid rfl, Lib.hid (World.ownsRow_nil _ _ _ _), Lib.hid (Below.refl _ _)⟩
  case round =>
    obtain ⟨k, ov, r, hk, rfl, rfl, HE, HO, HB⟩ := hrel
    have k0 : (0 : Int) ≤ (k : Int) := by omega
    obtain ⟨A3, cap3, rfl⟩ := slc HO.out
    by_cases hlt : k < l.length
    · have k1 : (k : Int) < (l.length : Int) := by omega
      have hx := List.getElem?_eq_getElem hlt
      have hzx := HZ.out _ (List.getElem_mem hlt)
      generalize l[k] = x at hx hzx
      obtain ⟨ad, rfl, y0, y1⟩ := src_w (HS.out.below HB.out) hx
      obtain ⟨xs, xn⟩ := x
      simp only at y0 y1 hzx
      have hok := addsR_ok (l.take k) pos_nil (fun _ h => by cases h) (fun x hx => (HZ.out x (List.mem_of_mem_take hx)).1)
      rw [HE.out] at hok
      simp only [List.length_nil, Nat.zero_add, List.length_take] at hok
      have hbd := (Below.refl wr.heap.size wr).drew
      have hadd := radd_all (RowW.keep' HO.out hbd) (by have := HB.out.size; simpa using this) (by omega) hok.2.1 hok.1 xs hzx.1 xn hzx.2
      have HX := Lib.hid hx
      obtain ⟨er, her⟩ : ∃ er, addR r xs xn = er := ⟨_, rfl⟩
      rw [her] at hadd
      have HER := Lib.hid her
      have HADD := Lib.hid hadd
      have HYY := Lib.hid (show ∀ W, Below wr.heap.size wr W → W.cell? (ad.add (k * 2)) = some (.string xs) ∧ W.cell? ⟨(ad.add (k * 2)).block, (ad.add (k * 2)).off + 1, none⟩ = some (.int .i64 xn) from fun W hW => ⟨(hW.cell (World.block_lt_of_cell? wr _ y0)).trans y0, (hW.cell (World.block_lt_of_cell? wr _ y1)).trans y1⟩)
      have HBD := Lib.hid hbd
      clear hx her hok hadd y0 y1 hbd
      go_wp2_with fail
      go_region_held3 (fun W => W.cell? (ad.add (k * 2)) = some (.string xs) ∧ W.cell? ⟨(ad.add (k * 2)).block, (ad.add (k * 2)).off + 1, none⟩ = some (.int .i64 xn))
        (first | exact HYY.out _ HBD.out | exact HYY.out _ BB5.out)
        (first | (go_at_call 48; refine HADD.out.mono ?_; rintro e w5 ⟨v5, rfl, r5, b5⟩; have BB5 := Lib.hid (HBD.out.trans b5); have HR5 := Lib.hid r5; clear r5 b5))
      have HB5 := Lib.hid (HB.out.trans (BB5.out.mono HB.out.size))
      by_cases h0 : er.1 = 0
      · have h0b : (er.1 != 0) = false := by simp [h0]
        go_wp2_with fail
        go_roundw
        case rel => exact ⟨k + 1, v5, er.2, by omega, rfl, by go_num, Lib.hid (by rw [adds_take HX.out, addsR_one HE.out (xs, xn) (by rw [HER.out]; exact h0), HER.out]), HR5, HB5⟩
        case measure => simp [intOf]; omega
      · have h0b : (er.1 != 0) = true := by simp [h0]
        have H0 := Lib.hid h0
        have HAP := Lib.hid (show addsR [] l = er by
          refine (congrArg (addsR []) (adds_split HX.out)).trans ?_
          rw [addsR_stop HE.out (xs, xn) _ (by rw [HER.out]; exact h0), HER.out])
        clear h0
        go_wp2_with fail
        go_ret2
        rw [HAP.out]
        first
          | exact ⟨_, rfl, fun _ => rfl, fun h => absurd h H0.out, HB5.out⟩
          | exact ⟨rfl, fun h => absurd h H0.out, HB5.out⟩
          | exact ⟨rfl, fun _ => rfl, fun h => absurd h H0.out, HB5.out⟩
    · obtain rfl : k = l.length := by omega
      have hnl : ¬ (l.length : Int) < (l.length : Int) := by omega
      have HEE := Lib.hid (show addsR [] l = (0, r) by have := HE.out; rw [List.take_length] at this; exact this)
      go_wp2_with fail
      go_ret2
      rw [HEE.out]
      first
        | exact ⟨_, rfl, fun h => absurd rfl h, fun _ => HO.out, HB.out⟩
        | exact ⟨rfl, fun h => absurd rfl h, fun _ => HO.out, HB.out⟩
def greatW (l : List Wd) (n : Int) : Bool := l.any (fun x => decide (100 < x.1.size)) || decide (n < (l.length : Int))
theorem great_no {l : List Wd} {n : Nat} (h : greatW l n = false) : (∀ x ∈ l, x.1.size ≤ 100) ∧ l.length ≤ n := by
  unfold greatW at h
  rw [Bool.or_eq_false_iff] at h
  refine ⟨fun x hx => ?_, by have := h.2; simp at this; omega⟩
  have := List.any_eq_false.1 h.1 x hx
  simpa using this
set_option maxHeartbeats 1600000 in
set_option maxRecDepth 100000 in
theorem great_any {w : World} (A : Option Addr) (cp : Nat) (l : List Wd) (hsrc : SrcW w A l) (hl : l.length ≤ 9223372036854775807) (n : Int) :
    Calls Try.prog 45 #[.slice A l.length cp, .int .i64 n] w fun e w' => e = .returned (.bool (greatW l n)) ∧ w = w' := by
  have HS := Lib.hid hsrc
  clear hsrc
  go_enter Try.func45, Try.ntmps45
  go_wp2_with fail
  go_loop [5] (fun v5 => ∃ k : Nat, k ≤ l.length ∧ v5 = .int .i64 (k : Int) ∧ Hid (∀ j < k, ∀ x, l[j]? = some x → x.1.size ≤ 100)) (fun i => l.length - (intOf i).toNat)
  case atStart => exact ⟨0, by omega, rfl, Lib.hid (fun j hj => by omega)⟩
  case round =>
    obtain ⟨k, hk, rfl, HK⟩ := hrel
    have k0 : (0 : Int) ≤ (k : Int) := by omega
    by_cases hlt : k < l.length
    · have k1 : (k : Int) < (l.length : Int) := by omega
      have hx := List.getElem?_eq_getElem hlt
      generalize l[k] = x at hx
      obtain ⟨ad, rfl, y0, y1⟩ := src_w HS.out hx
      obtain ⟨xs, xn⟩ := x
      simp only at y0 y1
      have HX := Lib.hid hx
      clear hx
      by_cases hbig : 100 < xs.size
      · have h4 : (100 : Int) < (xs.size : Int) := by omega
        have HG := Lib.hid (show greatW l n = true by
          unfold greatW
          rw [List.any_eq_true.2 ⟨(xs, xn), List.mem_of_getElem? HX.out, by simpa using hbig⟩]; rfl)
        clear hbig
        go_wp2_with fail
        go_ret
        exact ⟨by rw [HG.out]; rfl, rfl⟩
      · have h4 : ¬ (100 : Int) < (xs.size : Int) := by omega
        have H5 := Lib.hid (show xs.size ≤ 100 by omega)
        clear hbig
        go_wp2_with fail
        go_round
        case rel =>
          refine ⟨k + 1, by omega, by go_num, Lib.hid ?_⟩
          intro j hj y hy
          by_cases e : j = k
          · subst e
            rw [HX.out] at hy
            cases hy
            exact H5.out
          · exact HK.out j (by omega) y hy
        case measure => simp [intOf]; omega
    · obtain rfl : k = l.length := by omega
      have hnl : ¬ (l.length : Int) < (l.length : Int) := by omega
      have HG := Lib.hid (show greatW l n = decide (n < (l.length : Int)) by
        unfold greatW
        rw [List.any_eq_false.2]
        · rfl
        · intro x hx
          obtain ⟨j, hj, hjx⟩ := List.getElem_of_mem hx
          have := HK.out j hj x (by rw [← hjx]; exact List.getElem?_eq_getElem _)
          simp; omega)
      go_wp2_with fail
      go_ret
      exact ⟨by rw [HG.out]; rfl, rfl⟩
/-! ### words of an argument -/
def kWd : Kd Wd := Kd.pair Kd.string (Kd.int .i64)
theorem kWd_open {w : World} {x : Wd} {cs : List Value} (h : kWd.K w x cs) : cs = [.string x.1, .int .i64 x.2] := by
  obtain ⟨_, _, rfl, rfl, rfl⟩ := h
  rfl
theorem kWd_mk (w : World) (x : Wd) : kWd.K w x [.string x.1, .int .i64 x.2] := ⟨[.string x.1], [.int .i64 x.2], rfl, rfl, rfl⟩
theorem srcW_of {w : World} {A : Option Addr} {l : List Wd} (h : Kd.C kWd w A l.length l) : SrcW w A l := by
  refine ⟨flat_len encW 2 encW_len l, fun hn => ?_⟩
  obtain ⟨ad, e, hall⟩ := h.2.2 hn
  refine ⟨ad, e, fun j u hj => ?_⟩
  have hjl := (List.getElem?_eq_some_iff.1 hj).1
  rw [flat_len encW 2 encW_len] at hjl
  have hd : j / 2 < l.length := by omega
  obtain ⟨c, hcl, hK, hc⟩ := hall (j / 2) _ (List.getElem?_eq_getElem hd)
  obtain rfl := kWd_open hK
  have hg := flat_get encW 2 encW_len l (j / 2) (j % 2) (by omega)
  rw [List.getElem?_eq_getElem hd, Option.bind_some] at hg
  have ej : j / 2 * 2 + j % 2 = j := by omega
  rw [ej, hj] at hg
  have := hc (j % 2) u hg.symm
  have ej2 : j / 2 * kWd.sz + j % 2 = j := ej
  rw [ej2] at this
  exact this
section
variable {H : Type} {enc : TypeId × Value → H} {w : World} {base : Nat} {spare : Nat → Bool} {held : Bool}
set_option maxRecDepth 100000 in
theorem dec_Word (n : Nat) (cs : List Value) (y : DataW H × List MemPlace) (h : DataW.trod enc Try.prog w base spare held n 87 cs = some y) : ∃ a : Wd, kWd.K w a cs ∧ (a.1.size ≤ maxLen ∧ In64 a.2) := by
  obtain ⟨y0, y1, m, _, hl, h0, h1⟩ := trod_struct2 Try.underlying87 h
  have hl2 : cs.length = 2 := hl.trans (by kernel_rfl)
  obtain ⟨s, e0, _, w0⟩ := DataW.trod_string Try.underlying9 h0
  obtain ⟨k1, e1, _, w1⟩ := DataW.trod_int Try.underlying3 h1
  have c9 : Try.prog.cellsOf 9 = 1 := by kernel_rfl
  have c3 : Try.prog.cellsOf 3 = 1 := by kernel_rfl
  match cs, hl2 with
  | [c0, c1], _ =>
    simp [c9] at e0
    simp [c3] at e1
    subst e0 e1
    exact ⟨(s, k1), kWd_mk w (s, k1), w0, OpenArg.wf_in w1⟩
end
end Go.Proofs.Ythpdamkpefgmaaa.RFreq
