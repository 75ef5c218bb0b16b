/- gluepotref07: Add, walked: a list that rises. -/
import Derived.Test.YthpdamkpefgmaaaRefFreq
namespace Go.Proofs.Ythpdamkpefgmaaa.RFreq
open Go.RowKit Go.Maps Go.Proofs.YthpdamkpefgmaaaW.PrintWords Go.Proofs.YthpdamkpefgmaaaW.PrintLast Go.Proofs.YthpdamkpefgmaaaW.PrintMore Base Foot ExtTail SMap FreqPure CAdd Freq
set_option linter.unusedVariables false
set_option linter.unusedSimpArgs false
attribute [local go_sem ↓] Go.wp_at_zero Go.wp_at_succ
attribute [-go_sem] Instr.build
attribute [local go_sem high] buildW

theorem app_row {w wr w5 : World} {v v' : Value} {o : List Wd} {y : Wd} {cs : Obj} (hb : Below w.heap.size w wr) (hrow : RowW w.heap.size wr v o) (hown : w5.ownsRow w.heap.size tW 2 v' (o.length + 1) (o.flatMap encW ++ [.string y.1, .int .i64 y.2])) (hg : (wr.alloc cs).grownBy w5 v.ownBlock) : RowW w.heap.size w5 v' (o ++ [y]) ∧ Below w.heap.size w w5 := by
  have hba : Below w.heap.size w (wr.alloc cs) := hb.alloc hb.size _
  refine ⟨?_, hba.grown hg hba.size (fun k e => (hrow.lt k e).1)⟩
  unfold RowW
  rw [List.flatMap_append, List.length_append]
  exact hown
/-- what is still to come -/
def Todo (l : List Wd) (p : ByteArray) (s : Int) (o : List Wd) (d : Bool) (r : List Wd) : Prop := insW l p s = o ++ (if d then dropL r p else insW r p s)
section
variable {l o r : List Wd} {p : ByteArray} {s : Int} {x : Wd}
theorem Todo.start : Todo l p s [] false l := by simp [Todo]
theorem Todo.t_same (h : Todo l p s o true (x :: r)) (e : x.1 = p) : Todo l p s o true r := by
  unfold Todo at *
  rw [h]
  simp only [if_true]
  congr 1
  unfold dropL
  rw [List.filter_cons_of_neg (by simpa using e)]
theorem Todo.t_other (h : Todo l p s o true (x :: r)) (e : x.1 ≠ p) : Todo l p s (o ++ [x]) true r := by
  unfold Todo at *
  rw [h]
  simp only [if_true]
  rw [drop_cons_ne e, List.append_assoc]; rfl
theorem Todo.f_less (h : Todo l p s o false (x :: r)) (e : bl x.1 p = true) : Todo l p s (o ++ [x]) false r := by
  unfold Todo at *
  rw [h]
  simp only [Bool.false_eq_true, if_false]
  rw [insW, if_pos e, List.append_assoc]; rfl
theorem Todo.f_not (h : Todo l p s o false (x :: r)) (e : bl x.1 p = false) : Todo l p s (o ++ [(p, s)]) true (x :: r) := by
  unfold Todo at *
  rw [h]
  simp only [Bool.false_eq_true, if_false, if_true]
  rw [insW, if_neg (by rw [e]; decide), List.append_assoc]; rfl
theorem Todo.endT (h : Todo l p s o true []) : insW l p s = o := by simpa [Todo, dropL] using h
theorem Todo.endF (h : Todo l p s o false []) : insW l p s = o ++ [(p, s)] := by simpa [Todo, insW] using h
end
set_option maxHeartbeats 6400000 in
set_option maxRecDepth 100000 in
theorem rins_any {w : World} {B : Nat} {v : Value} {l : List Wd} (h : RowW B w v l) (hB : B ≤ w.heap.size) (hl : l.length ≤ 100000) (hz : ∀ x ∈ l, x.1.size < 100000000) (p : ByteArray) (hp : p.size < 100000000) (n : Int) (hn : 1 ≤ n ∧ n ≤ 9223372036854775807) (hp0 : p.size ≠ 0) (hr : 0 ≤ res l p ∧ res l p + n ≤ 9223372036854775807) :
    Calls Try.prog 48 #[v, .string p, .int .i64 n] w fun e w' => ∃ v', e = .returned (.tuple #[v', .int .i64 0]) ∧ RowW w.heap.size w' v' (insW l p (res l p + n)) ∧ Below w.heap.size w w' := by
  obtain ⟨iW, hiW, zW0, zW1, zW2⟩ := info_parts infoW
  obtain ⟨A, cap, rfl⟩ := slc h
  have hc := rcount_any h (by omega) p
  have ha := fun V => CAdd.radd_any (res l p) n V (by unfold In64; omega) (by unfold In64; omega)
  rw [addS_yes ⟨hr.1, by omega, hr.2⟩] at ha
  have h1 : p.toList.isEmpty = false := by
    cases h1 : p.toList.isEmpty
    · rfl
    · exact absurd ((empty_iff p).1 h1) hp0
  have h2 : ¬ n < 1 := by omega
  obtain ⟨s, hs⟩ : ∃ s, res l p + n = s := ⟨_, rfl⟩
  rw [hs] at ha ⊢
  obtain ⟨c, hcc⟩ : ∃ c, res l p = c := ⟨_, rfl⟩
  rw [hcc] at ha hc
  simp only at ha
  have HH := Lib.hid h
  have HZ := Lib.hid hz
  clear h hcc hs hr hp0 hz
  go_enter Try.func48, Try.ntmps48
  go_wp2_with fail
  refine hc.mono ?_
  rintro e w' ⟨rfl, rfl⟩
  go_wp2_with fail
  refine (ha _).mono ?_
  rintro e w'' ⟨rfl, rfl⟩
  clear hc ha
  go_wp2_with fail
  go_loopw [10, 11, 12] (fun v10 v11 v12 wr => ∃ (k : Nat) (d : Bool) (ov : Value) (o : List Wd), k ≤ l.length ∧ ov = v10 ∧ v11 = .bool d ∧ v12 = .int .i64 (k : Int) ∧ Hid (Todo l p s o d (l.drop k)) ∧ Hid (RowW w.heap.size wr ov o) ∧ Hid (o.length ≤ k + (if d then 1 else 0)) ∧ Hid (Below w.heap.size w wr)) (fun _ _ i _ => l.length - (intOf i).toNat)
  case atStart => exact ⟨0, false, _, [], by omega, rfl, rfl, rfl, Lib.hid Todo.start, Lib.hid (World.ownsRow_nil _ _ _ _), Lib.hid (by simp), Lib.hid (Below.refl _ _)⟩
  case round =>
    obtain ⟨k, d, ov, o, hk, rfl, rfl, rfl, HT, HO, HOL, HB⟩ := hrel
    have k0 : (0 : Int) ≤ (k : Int) := by omega
    obtain ⟨A3, cap3, rfl⟩ := slc HO.out
    have hol : o.length ≤ k + 1 := by have := HOL.out; split at this <;> omega
    have hws := HB.out.size
    by_cases hlt : k < l.length
    · have k1 : (k : Int) < (l.length : Int) := by omega
      have hx := List.getElem?_eq_getElem hlt
      have hdk := List.drop_eq_getElem_cons hlt
      have hzx := HZ.out _ (List.getElem_mem hlt)
      generalize l[k] = x at hx hdk hzx
      rw [hdk] at HT
      obtain ⟨xs, xn⟩ := x
      have hrow := own_keep (w1 := wr) HH.out (fun q hq => HB.out.block q (by have := (HH.out.lt q hq).2; omega))
      obtain ⟨ad, c2, e, _, y0, y1⟩ := row_at hrow hx
      cases e
      simp only at y0 y1 hzx
      have HROW := Lib.hid hrow
      have HX := Lib.hid hx
      have hse := str_eq xs p
      clear hx hdk hrow
      cases d with
      | true =>
        by_cases he : xs = p
        · have hd : (xs.toList == p.toList) = true := by rw [hse]; simpa using he
          have HE := Lib.hid he
          clear hse he
          go_wp2_with fail
          go_roundw
          case rel => exact ⟨k + 1, true, _, o, by omega, rfl, rfl, by go_num, Lib.hid (HT.out.t_same HE.out), HO, Lib.hid (by have hq := HOL.out; simp at hq ⊢; omega), HB⟩
          case measure => simp [intOf]; omega
        · have hd : (xs.toList == p.toList) = false := by rw [hse]; simpa using he
          have HE := Lib.hid he
          clear hse he
          go_wp2_with (at_builtin; refine wpList_append_own_at _ rfl _ _ 77 rfl w.heap.size tW iW _ 2 24 Try.underlying77 hiW zW0 zW1 zW2 rfl (by decide) _ _ _ rfl (HO.out.alloc _) ⟨wr.heap.size, 0, none⟩ 1 1 [.string xs, .int .i64 xn] rfl rfl (news_alloc rfl) (by simp [Value.oneCell']) (by unfold maxLen; omega) (by omega) (by simp; omega) ?_; intro v' w5 hown5 hgrow5 _ hat5)
          have happ := app_row (y := (xs, xn)) HB.out HO.out hown5 hgrow5
          have HAP := Lib.hid happ
          clear hown5 hgrow5 hat5 happ
          go_wp2_with fail
          go_roundw
          case rel => exact ⟨k + 1, true, _, o ++ [(xs, xn)], by omega, rfl, rfl, by go_num, Lib.hid (HT.out.t_other HE.out), Lib.hid HAP.out.1, Lib.hid (by have hq := HOL.out; simp at hq ⊢; omega), Lib.hid HAP.out.2⟩
          case measure => simp [intOf]; omega
      | false =>
        have hls := RLess.less_any xs p wr hzx hp
        cases hbl : Op.bytesLess xs.toList p.toList with
        | true =>
          rw [hbl] at hls
          have he : xs ≠ p := bl_ne (a := xs) (b := p) hbl
          have hd : (xs.toList == p.toList) = false := by rw [hse]; simpa using he
          have HBL := Lib.hid hbl
          clear hse he hbl
          go_wp2_with fail
          refine hls.mono ?_
          rintro e w2 ⟨rfl, b2⟩
          have hb2 := HB.out.trans (b2.mono HB.out.size)
          have ho2 := RowW.keep' HO.out b2
          obtain ⟨ad', c2', e', _, y0', y1'⟩ := row_at (own_keep (w1 := w2) HROW.out (fun q hq => b2.block q (HROW.out.lt q hq).2)) HX.out
          cases e'
          simp only at y0' y1'
          have HB2 := Lib.hid hb2
          have HO2 := Lib.hid ho2
          have hws2 := hb2.size
          clear b2 hb2 ho2 y0 y1 hls
          go_wp2_with (at_builtin; refine wpList_append_own_at _ rfl _ _ 77 rfl w.heap.size tW iW _ 2 24 Try.underlying77 hiW zW0 zW1 zW2 rfl (by decide) _ _ _ rfl (HO2.out.alloc _) ⟨w2.heap.size, 0, none⟩ 1 1 [.string xs, .int .i64 xn] rfl rfl (news_alloc rfl) (by simp [Value.oneCell']) (by unfold maxLen; omega) (by omega) (by simp; omega) ?_; intro v' w5 hown5 hgrow5 _ hat5)
          have happ := app_row (y := (xs, xn)) HB2.out HO2.out hown5 hgrow5
          have HAP := Lib.hid happ
          clear hown5 hgrow5 hat5 happ
          go_wp2_with fail
          go_roundw
          case rel => exact ⟨k + 1, false, _, o ++ [(xs, xn)], by omega, rfl, rfl, by go_num, Lib.hid (HT.out.f_less HBL.out), Lib.hid HAP.out.1, Lib.hid (by have hq := HOL.out; simp at hq ⊢; omega), Lib.hid HAP.out.2⟩
          case measure => simp [intOf]; omega
        | false =>
          rw [hbl] at hls
          have HBL := Lib.hid hbl
          clear hbl
          by_cases he : xs = p
          · have hd : (xs.toList == p.toList) = true := by rw [hse]; simpa using he
            have HE := Lib.hid he
            clear hse he
            go_wp2_with fail
            refine hls.mono ?_
            rintro e w2 ⟨rfl, b2⟩
            have hb2 := HB.out.trans (b2.mono HB.out.size)
            have ho2 := RowW.keep' HO.out b2
            have HB2 := Lib.hid hb2
            have HO2 := Lib.hid ho2
            have hws2 := hb2.size
            clear b2 hb2 ho2 y0 y1 hls
            go_wp2_with (at_builtin; refine wpList_append_own_at _ rfl _ _ 77 rfl w.heap.size tW iW _ 2 24 Try.underlying77 hiW zW0 zW1 zW2 rfl (by decide) _ _ _ rfl (HO2.out.alloc _) ⟨w2.heap.size, 0, none⟩ 1 1 [.string p, .int .i64 s] rfl rfl (news_alloc rfl) (by simp [Value.oneCell']) (by unfold maxLen; omega) (by omega) (by simp; omega) ?_; intro v' w5 hown5 hgrow5 _ hat5; have HAP := Lib.hid (app_row (y := (p, s)) HB2.out HO2.out hown5 hgrow5); have hws5 := HAP.out.2.size; obtain ⟨ad', c2', e', _, y0', y1'⟩ := row_at (own_keep (w1 := w5) HH.out (fun q hq => HAP.out.2.block q (HH.out.lt q hq).2)) HX.out; cases e'; simp only at y0' y1'; clear hown5 hgrow5 hat5)
            go_wp2_with fail
            go_roundw
            case rel => exact ⟨k + 1, true, _, o ++ [(p, s)], by omega, rfl, rfl, by go_num, Lib.hid ((HT.out.f_not HBL.out).t_same HE.out), Lib.hid HAP.out.1, Lib.hid (by have hq := HOL.out; simp at hq ⊢; omega), Lib.hid HAP.out.2⟩
            case measure => simp [intOf]; omega
          · have hd : (xs.toList == p.toList) = false := by rw [hse]; simpa using he
            have HE := Lib.hid he
            clear hse he
            go_wp2_with fail
            refine hls.mono ?_
            rintro e w2 ⟨rfl, b2⟩
            have hb2 := HB.out.trans (b2.mono HB.out.size)
            have ho2 := RowW.keep' HO.out b2
            have HB2 := Lib.hid hb2
            have HO2 := Lib.hid ho2
            have hws2 := hb2.size
            clear b2 hb2 ho2 y0 y1 hls
            go_wp2_with (first
              | (at_builtin; refine wpList_append_own_at _ rfl _ _ 77 rfl w.heap.size tW iW _ 2 24 Try.underlying77 hiW zW0 zW1 zW2 rfl (by decide) _ _ _ rfl (HO2.out.alloc _) ⟨w2.heap.size, 0, none⟩ 1 1 [.string p, .int .i64 s] rfl rfl (news_alloc rfl) (by simp [Value.oneCell']) (by unfold maxLen; omega) (by omega) (by simp; omega) ?_; intro v' w5 hown5 hgrow5 _ hat5; have HAP := Lib.hid (app_row (y := (p, s)) HB2.out HO2.out hown5 hgrow5); have hws5 := HAP.out.2.size; obtain ⟨ad', c2', e', _, y0', y1'⟩ := row_at (own_keep (w1 := w5) HH.out (fun q hq => HAP.out.2.block q (HH.out.lt q hq).2)) HX.out; cases e'; simp only at y0' y1'; clear hown5 hgrow5 hat5)
              | (at_builtin; refine wpList_append_own_at _ rfl _ _ 77 rfl w.heap.size tW iW _ 2 24 Try.underlying77 hiW zW0 zW1 zW2 rfl (by decide) _ _ _ rfl (HAP.out.1.alloc _) ⟨w5.heap.size, 0, none⟩ 1 1 [.string xs, .int .i64 xn] rfl rfl (news_alloc rfl) (by simp [Value.oneCell']) (by unfold maxLen; simp; omega) (by simp; omega) (by simp; omega) ?_; intro v6 w6 hown6 hgrow6 _ hat6; have HAP6 := Lib.hid (app_row (y := (xs, xn)) HAP.out.2 HAP.out.1 hown6 hgrow6); clear hown6 hgrow6 hat6))
            go_wp2_with fail
            go_roundw
            case rel => exact ⟨k + 1, true, _, o ++ [(p, s)] ++ [(xs, xn)], by omega, rfl, rfl, by go_num, Lib.hid ((HT.out.f_not HBL.out).t_other HE.out), Lib.hid HAP6.out.1, Lib.hid (by have hq := HOL.out; simp at hq ⊢; omega), Lib.hid HAP6.out.2⟩
            case measure => simp [intOf]; omega
    · obtain rfl : k = l.length := by omega
      have hnl : ¬ (l.length : Int) < (l.length : Int) := by omega
      have ht := HT.out
      rw [List.drop_length] at ht
      have HT2 := Lib.hid ht
      clear ht HT
      cases d with
      | true =>
        go_wp2_with fail
        go_ret2
        rw [HT2.out.endT]
        first
          | exact ⟨_, rfl, HO.out, HB.out⟩
          | exact ⟨rfl, HO.out, HB.out⟩
      | false =>
        go_wp2_with (at_builtin; refine wpList_append_own_at _ rfl _ _ 77 rfl w.heap.size tW iW _ 2 24 Try.underlying77 hiW zW0 zW1 zW2 rfl (by decide) _ _ _ rfl (HO.out.alloc _) ⟨wr.heap.size, 0, none⟩ 1 1 [.string p, .int .i64 s] rfl rfl (news_alloc rfl) (by simp [Value.oneCell']) (by unfold maxLen; omega) (by omega) (by simp; omega) ?_; intro v' w5 hown5 hgrow5 _ hat5; have HAP := Lib.hid (app_row (y := (p, s)) HB.out HO.out hown5 hgrow5); clear hown5 hgrow5 hat5)
        go_wp2_with fail
        go_ret2
        rw [HT2.out.endF]
        first
          | exact ⟨_, rfl, HAP.out.1, HAP.out.2⟩
          | exact ⟨rfl, HAP.out.1, HAP.out.2⟩
end Go.Proofs.Ythpdamkpefgmaaa.RFreq
