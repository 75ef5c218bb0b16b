/- SymUnique: no two symbols stand for one text; each is found by its text; each that was joined stands for both texts. No condition. -/
import Derived.Test.YtbldnjpdeldabaaSym4
import Derived.Test.YtbldnjpdeldabaaKinds
import Derived.Deep.RegionHeld3
namespace Go.Proofs.Ytbldnjpdeldabaa.SymUnique
open Go.RowKit Go.Proofs.YtbldnjpdeldabaaW.PrintWords Go.Proofs.YtbldnjpdeldabaaW.PrintLast Base Foot SymPure Sym Sym2 Sym3 Sym4 Kinds
set_option linter.unusedVariables false

theorem joinT_len (T : List J) (a c : Int) : (joinT T a c).length ≤ T.length + 1 := by unfold joinT; split <;> simp

set_option maxHeartbeats 800000 in
set_option maxRecDepth 100000 in
theorem law_any (A : Option Addr) (cp : Nat) (l : List (Int × Int)) (a b : Int) (w : World) (hr : Kd.C kII w A l.length l) (hg : ∀ x ∈ l, In64 x.1 ∧ In64 x.2) (ha : In64 a) (hb : In64 b) (hl : l.length ≤ 60) :
    Calls Try.prog 3 #[.slice A l.length cp, .int .i64 a, .int .i64 b] w fun e w' => e = .returned (.bool true) ∧ Below w.heap.size w w' := by
  go_enter Try.func3, Try.ntmps3
  go_wp2_with fail
  refine (awake_any _).mono ?_
  rintro e w1 ⟨rfl, b1⟩
  go_wp2_with fail
  refine (new_any _).mono ?_
  rintro e w2 ⟨rfl, h2, b2⟩
  have hB := b1.size
  generalize hBq : w1.heap.size = B at *
  clear hBq
  replace b2 := b1.trans (b2.mono hB)
  go_wp2_with fail
  go_loopw [8] (fun v8 wr => ∃ (k : Nat) (T : List J) (lv mv : Value), k ≤ l.length ∧ v8 = .int .i64 (k : Int) ∧ SymT B wr B lv mv T ∧ T.length ≤ k ∧ Below w.heap.size w wr) (fun i _ => l.length - (intOf i).toNat)
  case atStart => exact ⟨0, [], _, _, Nat.zero_le _, rfl, h2, by simp, b2⟩
  case round =>
    obtain ⟨k, T, lv, mv, hk, rfl, hT, hTk, hW⟩ := hrel
    by_cases hlt : k < l.length
    · have hx := List.getElem?_eq_getElem hlt
      obtain ⟨g1, g2⟩ := hg _ (List.getElem_mem hlt)
      obtain ⟨ad, e1, hx0, hx1⟩ := at_II hr hx
      cases e1
      have kx0 := Nat.lt_of_lt_of_le (World.block_lt_of_cell? w _ hx0) hB
      have kx1 := Nat.lt_of_lt_of_le (World.block_lt_of_cell? w _ hx1) hB
      replace hx0 := (hW.cell (World.block_lt_of_cell? w _ hx0)).trans hx0
      replace hx1 := (hW.cell (World.block_lt_of_cell? w _ hx1)).trans hx1
      generalize l[k].1 = p at *
      generalize l[k].2 = q at *
      go_wp2_with fail
      have hTd := hT.drew
      have hlt2 := fun k hk => (hT.foot_lt k hk).1
      have hBw : B ≤ wr.drew.heap.size := Nat.le_of_lt (by have := block_lt hTd.blk; exact this)
      have HJ := Lib.hid (join_any hTd p q g1 g2 (by omega))
      have HK := Lib.hid (show ∀ (w3 : World) lv3 mv3, Upd (Foot B lv mv) (Foot B lv3 mv3) wr.drew w3 → w3.cell? (ad.add (k * 2)) = some (.int .i64 p) ∧ w3.cell? ⟨(ad.add (k * 2)).block, (ad.add (k * 2)).off + 1, none⟩ = some (.int .i64 q) from fun w3 lv3 mv3 u3 => ⟨((u3.below hBw hlt2).cell kx0).trans hx0, ((u3.below hBw hlt2).cell (p := ⟨(ad.add (k * 2)).block, (ad.add (k * 2)).off + 1, none⟩) kx1).trans hx1⟩)
      go_region_held3 (fun w' => w'.cell? (ad.add (k * 2)) = some (.int .i64 p) ∧ w'.cell? ⟨(ad.add (k * 2)).block, (ad.add (k * 2)).off + 1, none⟩ = some (.int .i64 q)) (first | exact ⟨hx0, hx1⟩ | exact ⟨y0, y1⟩)
        (first | (go_at_call 17; refine HJ.out.mono ?_; rintro e w3 ⟨rfl, lv3, mv3, h3, u3⟩; obtain ⟨y0, y1⟩ := HK.out _ _ _ u3))
      have hm3 := joinT_len T p q
      have hb3 : Below w.heap.size w w3 := hW.trans ((Below.refl w.heap.size wr).drew.trans (u3.below (Nat.le_trans hB hBw) (fun k hk => Nat.le_trans hB (hlt2 k hk))))
      by_cases hE : joinE T p q = 0
      · have hEb : (joinE T p q == 0) = true := by simp [hE]
        have HE := Lib.hid hE
        clear hE
        have htt := join_there HE.out
        have Htt := Lib.hid htt
        clear htt
        have hin : In64 (joinI T p q) := by unfold In64 joinI; split <;> omega
        go_wp2_with fail
        refine (text_any h3 _ hin).mono ?_
        rintro e w4 ⟨rfl, b4⟩
        rw [Htt.out]
        have h4 := h3.below b4
        by_cases h5 : 5000 < (textS (joinT T p q) (joinI T p q)).size
        · go_wp2_with fail
          go_ret
          exact ⟨rfl, hb3.trans (b4.mono (by have := u3.size; omega))⟩
        · go_wp2_with fail
          go_roundw
          case rel => exact ⟨k + 1, _, _, _, by omega, by go_num, h4, by omega, hb3.trans (b4.mono (by have := hb3.size; omega))⟩
          case measure => simp [intOf]; omega
      · have hEb : (joinE T p q == 0) = false := by simp [hE]
        clear hE
        go_wp2_with fail
        go_roundw
        case rel => exact ⟨k + 1, _, _, _, by omega, by go_num, h3, by omega, hb3⟩
        case measure => simp [intOf]; omega
    · have hgd := hT.good
      have hta := join_text hT.size a
      have htb := join_text hT.size b
      go_wp2_with fail
      refine (text_any hT a ha).mono ?_
      rintro e w4 ⟨rfl, b4⟩
      have h4 := hT.below b4
      have hW4 := hW.trans (b4.mono hW.size)
      go_wp2_with fail
      refine (text_any h4 b hb).mono ?_
      rintro e w5 ⟨rfl, b5⟩
      have h5 := h4.below b5
      have hW5 := hW4.trans (b5.mono hW4.size)
      have hpos : there T a = true → (textS T a).toList.isEmpty = false := fun h => by
        have := hgd.pos a h
        have h2 := toList_len (textS T a)
        cases he : (textS T a).toList with
        | nil => rw [he] at h2; simp at h2; omega
        | cons x r => rfl
      have hcmp : there T a = true → there T b = true → (!((textS T a).toList == (textS T b).toList) == (a == b)) = false := fun h1 h2 => by
        have : ((textS T a).toList == (textS T b).toList) = (a == b) := by
          rw [beq_toList, Bool.eq_iff_iff]
          simp only [decide_eq_true_eq, beq_iff_eq]
          exact ⟨hgd.inj h1 h2, fun e => by rw [e]⟩
        rw [this]; simp
      have hfind := hgd.find (id := a)
      have hpair := hgd.pair (id := a)
      cases ea : there T a
      · have hnj : isJoined T a = false := by
          cases hj : isJoined T a
          · rfl
          · have h1 := isJoined_iff.1 hj
            have : there T a = true := there_iff.2 ⟨by omega, h1.2⟩
            rw [ea] at this; cases this
        clear hpos hcmp hfind hpair
        go_wp2_with fail
        refine (pair_any h5 a ha).mono ?_
        rintro e w6 ⟨rfl, b6⟩
        rw [hnj]
        clear hnj
        go_wp2_with fail
        go_ret
        exact ⟨rfl, (hW5.trans (b6.mono hW5.size)).alloc (Nat.le_trans hW5.size b6.size) _⟩
      · have hE := hpos ea
        have HF := Lib.hid (hfind ea)
        have hE2 : ((textS T a).toList == []) = false := by
          cases he : (textS T a).toList with
          | nil => rw [he] at hE; cases hE
          | cons x r => rfl
        have hcmp' := hcmp ea
        clear hpos hcmp hfind
        have hne : (a != a) = false := by simp
        cases ej : isJoined T a
        · cases eb : there T b
          rotate_left
          all_goals (have hc := hcmp'; clear hcmp'; try replace hc := hc eb)
          all_goals
            go_wp2_with fail
            refine (find_any h5 (textS T a) (by unfold maxLen; omega)).mono ?_
            rintro e w6 ⟨rfl, rfl⟩
            rw [HF.out]
            go_wp2_with fail
            refine (pair_any h5 a ha).mono ?_
            rintro e w6 ⟨rfl, b6⟩
            rw [ej]
            go_wp2_with fail
            go_ret
            exact ⟨rfl, (hW5.trans (b6.mono hW5.size)).alloc (Nat.le_trans hW5.size b6.size) _⟩
        · have HP := Lib.hid (hpair ej)
          clear hpair
          cases eb : there T b
          rotate_left
          all_goals (have hc := hcmp'; clear hcmp'; try replace hc := hc eb)
          all_goals
            go_wp2_with fail
            refine (find_any h5 (textS T a) (by unfold maxLen; omega)).mono ?_
            rintro e w6 ⟨rfl, rfl⟩
            rw [HF.out]
            go_wp2_with fail
            refine (pair_any h5 a ha).mono ?_
            rintro e w6 ⟨rfl, b6⟩
            rw [ej]
            have h6 := h5.below b6
            go_wp2_with fail
            obtain ⟨p1, p2, p3, p4, p5⟩ := HP.out
            have P5 := Lib.hid p5
            clear p5
            have i1 : In64 (pairS T a).1 := by have := there_iff.1 p1; unfold In64 at *; omega
            have i2 : In64 (pairS T a).2 := by have := there_iff.1 p2; unfold In64 at *; omega
            have P1 := Lib.hid p1
            have P2 := Lib.hid p2
            have hta1 := join_text hT.size (pairS T a).1
            have hta2 := join_text hT.size (pairS T a).2
            clear p1 p2
            generalize (pairS T a).1 = pa at *
            generalize (pairS T a).2 = pb at *
            have h7 := h6.below ((Below.refl _ _).alloc (Nat.le_refl _) (.cells #[.int .i64 pa, .int .i64 pb] 30))
            refine (text_any h7 pa i1).mono ?_
            rintro e w7 ⟨rfl, b7⟩
            have h8 := h7.below b7
            rw [P1.out]
            have l0 := local_at b7 0 _ rfl
            have l1 := local_at b7 1 _ rfl
            go_wp2_with fail
            refine (text_any h8 pb i2).mono ?_
            rintro e w8 ⟨rfl, b8⟩
            rw [P2.out]
            replace b8 := b7.trans (b8.mono b7.size)
            have l0 := local_at b8 0 _ rfl
            have l1 := local_at b8 1 _ rfl
            have p5b : ((textS T pa ++ textS T pb).toList == (textS T a).toList) = true := by rw [P5.out]; simp
            go_wp2_with fail
            go_ret
            exact ⟨rfl, ((hW5.trans (b6.mono hW5.size)).alloc (Nat.le_trans hW5.size b6.size) _).trans (b8.mono (Nat.le_trans (Nat.le_trans hW5.size b6.size) (by simp)))⟩
set_option maxHeartbeats 800000 in
set_option maxRecDepth 100000 in
theorem law_many (A : Option Addr) (cp : Nat) (l : List (Int × Int)) (a b : Int) (w : World) (hl : ¬ l.length ≤ 60) (hs : l.length * 16 ≤ reachBytes) :
    Calls Try.prog 3 #[.slice A l.length cp, .int .i64 a, .int .i64 b] w fun e w' => e = .returned (.bool true) ∧ Below w.heap.size w w' := by
  unfold reachBytes at hs
  have hl2 : 60 < l.length := by omega
  clear hl
  go_enter Try.func3, Try.ntmps3
  go_wp2_with fail
  refine (awake_any _).mono ?_
  rintro e w1 ⟨rfl, b1⟩
  go_wp2_with fail
  go_ret
  exact ⟨rfl, b1⟩
theorem walk (W : World) (A : Option Addr) (cp : Nat) (l : List (Int × Int)) (hr : Kd.C kII W A l.length l) (hc : l.length ≤ cp) (hg : ∀ x ∈ l, In64 x.1 ∧ In64 x.2) (hs : l.length * 16 ≤ reachBytes) (a : Int) (ha : (Lit.int .i64 a).wf = true) (b : Int) (hb : (Lit.int .i64 b).wf = true) :
    Calls Try.prog 3 #[.slice A l.length cp, .int .i64 a, .int .i64 b] W fun e w' => e = .returned (.bool true) ∧ Below W.heap.size W w' := by
  by_cases hl : l.length ≤ 60
  · exact law_any A cp l a b W hr hg (OpenArg.wf_in ha) (OpenArg.wf_in hb) hl
  · exact law_many A cp l a b W hl hs
end Go.Proofs.Ytbldnjpdeldabaa.SymUnique
