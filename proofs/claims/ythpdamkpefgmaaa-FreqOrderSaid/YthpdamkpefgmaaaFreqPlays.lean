/- FreqPlays: through any words and counts each answer, any word's count, and what is frozen, is what the document says; what was told may be written over. No condition. -/
import Derived.Test.YthpdamkpefgmaaaFreqMerge
import Derived.Test.YthpdamkpefgmaaaFreqNone
namespace Go.Proofs.Ythpdamkpefgmaaa.FreqPlays
open Go.RowKit Go.Maps Go.ChangeShapes Go.WideShapes Go.Deep Go.Proofs.YthpdamkpefgmaaaW.PrintWords Go.Proofs.YthpdamkpefgmaaaW.PrintLast Go.Proofs.YthpdamkpefgmaaaW.PrintMore Base Foot ExtTail SMap FreqPure CAdd Freq RFreq
set_option linter.unusedVariables false
set_option linter.unusedSimpArgs false
attribute [local go_sem ↓] Go.wp_at_zero Go.wp_at_succ

/-- the counter, the document's words, side by side -/
structure St (w W : World) (mv xv : Value) (m r : List Wd) : Prop where
  ft : FT W w.heap.size mv m
  row : RowW w.heap.size W xv r
  pm : r.Perm m
  ri : Rise r
  gd : ∀ k, QFoot w.heap.size mv k → w.heap.size ≤ k
  bel : Below w.heap.size w W
theorem row_apart {W : World} {b B : Nat} {mv v : Value} {m l : List Wd} (h : FT W b mv m) (hr : RowW B W v l) : ∀ q, v.ownBlock = some q → ¬ QFoot b mv q := by
  intro q hq
  rcases hr.2 with ⟨rfl, _⟩ | ⟨g, cap, cur, rfl, _, hg, _⟩
  · cases hq
  · cases hq; exact h.not_cells hg (by decide)
section
variable {w W : World} {mv xv : Value} {m r : List Wd} (h : St w W mv xv m r)
include h
theorem St.below {W' : World} (hb : Below W.heap.size W W') : St w W' mv xv m r :=
  ⟨h.ft.below hb, RowW.keep' h.row hb, h.pm, h.ri, h.gd, h.bel.trans (hb.mono h.bel.size)⟩
theorem St.one {W1 : World} {mv1 : Value} {m1 : List Wd} (h1 : FT W1 w.heap.size mv1 m1) (u : Upd (QFoot w.heap.size mv) (QFoot w.heap.size mv1) W W1) : RowW w.heap.size W1 xv r ∧ Below w.heap.size w W1 ∧ (∀ k, QFoot w.heap.size mv1 k → w.heap.size ≤ k) :=
  ⟨own_keep h.row (fun q hq => u.block q (h.row.lt q hq).2 (row_apart h.ft h.row q hq)), h.bel.trans (u.below h.bel.size h.gd), foot_ge u h.gd h.bel.size⟩
end
set_option maxHeartbeats 6400000 in
set_option maxRecDepth 100000 in
theorem law_any (A : Option Addr) (cap : Nat) (l : List Wd) (p : ByteArray) (w : World) (hsrc : SrcW w A l) (hc : l.length ≤ cap) (hl : l.length ≤ maxLen) (hg : ∀ x ∈ l, x.1.size ≤ maxLen ∧ In64 x.2) (hp : p.size ≤ 140737488351232) :
    Calls Try.prog 10 #[.slice A l.length cap, .string p] w fun e w' => e = .returned (.bool true) ∧ Below w.heap.size w w' := by
  have hlm : l.length ≤ 9223372036854775807 := by unfold maxLen at hl; omega
  have HG := Lib.hid hg
  have HS := Lib.hid hsrc
  clear hg hsrc hl
  go_enter Try.func10, Try.ntmps10
  go_wp2_with fail
  refine (FreqNone.awake_any _).mono ?_
  rintro e w1 ⟨rfl, b1⟩
  have hgr := great_any A cap l (HS.out.below b1) hlm 100
  have HB1 := Lib.hid b1
  clear b1
  cases hgg : greatW l 100 with
  | true =>
    rw [hgg] at hgr
    clear hgg
    go_wp2_with fail
    refine hgr.mono ?_
    rintro e w2 ⟨rfl, rfl⟩
    go_wp2_with fail
    go_ret
    exact ⟨rfl, HB1.out⟩
  | false =>
    rw [hgg] at hgr
    have hno := great_no (n := 100) hgg
    clear hgg
    by_cases hbig : 100 < p.size
    · have h4 : (100 : Int) < (p.size : Int) := by omega
      clear hbig hno
      go_wp2_with fail
      refine hgr.mono ?_
      rintro e w2 ⟨rfl, rfl⟩
      go_wp2_with fail
      go_ret
      exact ⟨rfl, HB1.out⟩
    · have h4 : ¬ (100 : Int) < (p.size : Int) := by omega
      have hp100 : p.size ≤ 100 := by omega
      have hl100 := hno.2
      have HZ := Lib.hid hno.1
      clear hbig hno
      go_wp2_with fail
      refine hgr.mono ?_
      rintro e w2 ⟨rfl, rfl⟩
      go_wp2_with fail
      refine (Freq.new_any w1).mono ?_
      rintro e w2 ⟨rfl, f2, b2⟩
      have hst : St w1 w2 (.map none) (.slice none 0 0) [] [] := ⟨f2, World.ownsRow_nil _ _ _ _, .refl _, List.Pairwise.nil, foot_new _, b2⟩
      have HST := Lib.hid hst
      clear hst f2 b2 hgr
      go_wp2_with fail
      go_loopw [6, 7] (fun v6 v7 wr => ∃ (i : Nat) (mv xv : Value) (m r : List Wd), i ≤ l.length ∧ xv = v6 ∧ v7 = .int .i64 (i : Int) ∧ Hid (St w1 wr mv xv m r) ∧ Hid (m.length ≤ i) ∧ Hid (∀ x ∈ r, x.1.size ≤ 100)) (fun _ i _ => l.length - (intOf i).toNat)
      case atStart => exact ⟨0, _, _, [], [], by omega, rfl, rfl, HST, Lib.hid (by simp), Lib.hid (fun _ h => by cases h)⟩
      case round =>
        clear HST
        obtain ⟨i, mv, xv, m, r, hi, rfl, rfl, HST, HML, HRZ⟩ := hrel
        have i0 : (0 : Int) ≤ (i : Int) := by omega
        obtain ⟨A3, cap3, rfl⟩ := slc HST.out.row
        by_cases hlt : i < l.length
        · have i1 : (i : Int) < (l.length : Int) := by omega
          have hx := List.getElem?_eq_getElem hlt
          have hgx := HG.out _ (List.getElem_mem hlt)
          have hzx := HZ.out _ (List.getElem_mem hlt)
          generalize l[i] = x at hx hgx hzx
          obtain ⟨ad, rfl, y0, y1⟩ := src_w (HS.out.below HB1.out) hx
          obtain ⟨xs, xn⟩ := x
          simp only at y0 y1 hgx hzx
          have HYY := Lib.hid (show ∀ W, Below w1.heap.size w1 W → W.cell? (ad.add (i * 2)) = some (.string xs) ∧ W.cell? ⟨(ad.add (i * 2)).block, (ad.add (i * 2)).off + 1, none⟩ = some (.int .i64 xn) from fun W hW => ⟨(hW.cell (World.block_lt_of_cell? w1 _ y0)).trans y0, (hW.cell (World.block_lt_of_cell? w1 _ y1)).trans y1⟩)
          have HB4 := Lib.hid (HST.out.bel.drew)
          have HS4 := Lib.hid (HST.out.below ((Below.refl _ wr).drew))
          have hadd := add_any' HS4.out.ft (by have := HML.out; omega) xs hgx.1 xn hgx.2
          obtain ⟨h1, h2⟩ := add_same HST.out.ft.nd HST.out.pm xs xn
          have h3 := addW_le m xs xn
          obtain ⟨er, her⟩ : ∃ er, addW m xs xn = er := ⟨_, rfl⟩
          rw [her] at hadd h1 h2 h3
          obtain ⟨e1, m1⟩ := er
          obtain ⟨rr, hrr⟩ : ∃ rr, addR r xs xn = rr := ⟨_, rfl⟩
          have hri := addR_rise HST.out.ri xs xn
          have hrz := addR_sz (r := r) (p := xs) (n := xn) (fun x hx => by have := HRZ.out x hx; omega) (by omega)
          have hrz2 : ∀ x ∈ (addR r xs xn).2, x.1.size ≤ 100 := by
            unfold addR
            split
            · exact HRZ.out
            · split
              · intro x hx
                rcases List.mem_cons.1 ((ins_perm r xs _).mem_iff.1 hx) with rfl | hx
                · exact hzx
                · exact HRZ.out x (mem_drop hx).1
              · exact HRZ.out
          have hra := fun (W : World) (hR : RowW w1.heap.size W (.slice A3 r.length cap3) r) (hB : w1.heap.size ≤ W.heap.size) => radd_all hR hB (by have := HST.out.pm.length_eq; have := HML.out; omega) (fun x hx => by have := HRZ.out x hx; omega) (fun x hx => HST.out.ft.pos x (HST.out.pm.mem_iff.1 hx)) xs (by omega) xn hgx.2
          rw [hrr] at hra h1 h2 hri hrz2
          obtain ⟨e2, r1⟩ := rr
          simp only at hadd hra h1 h2 h3 hri hrz2
          subst h1
          have HADD := Lib.hid hadd
          have HRA := Lib.hid hra
          have HP1 := Lib.hid (And.intro h2 hri)
          have HL1 := Lib.hid h3
          have HZ1 := Lib.hid hrz2
          clear hx hgx hzx y0 y1 hadd hra h2 h3 hri hrz hrz2 her hrr
          go_wp2_with fail
          go_region_held3 (fun W => W.cell? (ad.add (i * 2)) = some (.string xs) ∧ W.cell? ⟨(ad.add (i * 2)).block, (ad.add (i * 2)).off + 1, none⟩ = some (.int .i64 xn))
            (first | exact HYY.out _ HB4.out | exact HYY.out _ B5.out)
            (first | (go_at_call 38; refine HADD.out.mono ?_; rintro e w5 ⟨rfl, mv5, f5, u5⟩; have one5 := Lib.hid (HS4.out.one f5 u5); have F5 := Lib.hid f5; have B5 := Lib.hid one5.out.2.1; clear f5 u5))
          have B5d := Lib.hid (B5.out.drew)
          have R5 := Lib.hid (RowW.keep' one5.out.1 ((Below.refl _ w5).drew))
          go_wp2_with fail
          go_region_held3 (fun W => W.cell? (ad.add (i * 2)) = some (.string xs) ∧ W.cell? ⟨(ad.add (i * 2)).block, (ad.add (i * 2)).off + 1, none⟩ = some (.int .i64 xn))
            (first | exact HYY.out _ B5d.out | exact HYY.out _ B6.out)
            (first | (go_at_call 48; refine (HRA.out _ R5.out B5d.out.size).mono ?_; rintro e w6 ⟨v6, rfl, r6, b6⟩; have B6 := Lib.hid (B5d.out.trans (b6.mono B5d.out.size)); have R6 := Lib.hid r6; have BB6 := Lib.hid (((Below.refl w5.heap.size w5).drew).trans b6); clear r6 b6))
          have HM1 := Lib.hid (show m1.length ≤ i + 1 by have := HML.out; have := HL1.out; omega)
          have HST6 := Lib.hid (show St w1 w6 mv5 v6 m1 r1 from ⟨F5.out.below BB6.out, R6.out, HP1.out.1, HP1.out.2, one5.out.2.2, B6.out⟩)
          have hcount := count_any HST6.out.ft p (by unfold SS maxLen; omega)
          have hrc := rcount_any HST6.out.row (by have := HP1.out.1.length_eq; have := HM1.out; omega) p
          rw [res_perm HST6.out.ft.nd HP1.out.1] at hrc
          have hln := Freq.len_any HST6.out.ft
          rw [← HP1.out.1.length_eq] at hln
          obtain ⟨A6, cap6, e6⟩ := slc HST6.out.row
          subst e6
          obtain ⟨rc, hrcc⟩ : ∃ rc, FreqPure.res m1 p = rc := ⟨_, rfl⟩
          rw [hrcc] at hcount hrc
          clear hrcc
          go_wp2_with fail
          refine hcount.mono ?_
          rintro e w6 ⟨rfl, rfl⟩
          go_wp2_with fail
          refine hrc.mono ?_
          rintro e w7 ⟨rfl, rfl⟩
          go_wp2_with fail
          refine hln.mono ?_
          rintro e w6 ⟨rfl, rfl⟩
          go_wp2_with fail
          go_roundw
          case rel => exact ⟨i + 1, mv5, _, m1, r1, by omega, rfl, by go_num, HST6, HM1, HZ1⟩
          case measure => simp [intOf]; omega
        · obtain rfl : i = l.length := by omega
          have hnl : ¬ (l.length : Int) < (l.length : Int) := by omega
          have hfr := freeze_any HST.out.ft (by have := HML.out; omega)
          go_wp2_with fail
          refine hfr.mono ?_
          rintro e w5 ⟨v5, l5, rfl, r5, p5, o5, b5⟩
          have hl5 : l5 = r := rise_uniq r5 HST.out.ri (p5.trans HST.out.pm.symm)
          subst hl5
          have HST5 := Lib.hid (HST.out.below b5)
          have HO5 := Lib.hid o5
          have hlen5 : l5.length ≤ 100 := by have := HST.out.pm.length_eq; have := HML.out; omega
          have hsm := same_rows o5 HST5.out.row (by omega)
          obtain ⟨A5, cap5, rfl⟩ := slc o5
          clear r5 p5 o5 b5 hfr
          go_wp2_with fail
          refine hsm.mono ?_
          rintro e w6 ⟨rfl, b6⟩
          have HST6 := Lib.hid (HST5.out.below b6)
          have HO6 := Lib.hid (RowW.keep' HO5.out b6)
          clear b6 hsm
          have hmore := hlen5
          have hqw : ∀ q, (Value.slice A5 l5.length cap5).ownBlock = some q → wr.heap.size ≤ q := fun q hq => (HO5.out.lt q hq).1
          have HQW := Lib.hid hqw
          have HXR := Lib.hid (show ∀ q, (Value.slice A3 l5.length cap3).ownBlock = some q → q < wr.heap.size from fun q hq => (HST.out.row.lt q hq).2)
          have HG5 := Lib.hid (show ∀ ad, A5 = some ad → ∃ cur, ad = ⟨ad.block, 0, none⟩ ∧ w6.heap[ad.block]? = some (.cells cur tW (0, 0)) ∧ l5.length * 2 ≤ cur.size from fun ad e => by
            subst e
            rcases HO6.out.2 with ⟨e, _⟩ | ⟨g, c, cur, e, _, hg, hc, hm, hs, _⟩
            · cases e
            · cases e
              exact ⟨cur, rfl, hg, by rw [hs]; exact Nat.mul_le_mul_right _ hc⟩)
          have HA5 := Lib.hid (show 0 < l5.length → ∃ ad, A5 = some ad from fun h0 => by
            rcases HO6.out.2 with ⟨e, h1⟩ | ⟨g, c, cur, e, _⟩
            · omega
            · cases e; exact ⟨_, rfl⟩)
          clear hqw hmore
          go_wp2_with fail
          go_loopw [11] (fun v11 wq => ∃ k : Nat, k ≤ l5.length ∧ v11 = .int .i64 (k : Int) ∧ Hid (∀ ad, A5 = some ad → ∃ cur, ad = ⟨ad.block, 0, none⟩ ∧ wq.heap[ad.block]? = some (.cells cur tW (0, 0)) ∧ l5.length * 2 ≤ cur.size) ∧ Hid (Upd (fun q => (Value.slice A5 l5.length cap5).ownBlock = some q) (fun q => (Value.slice A5 l5.length cap5).ownBlock = some q) w6 wq)) (fun i _ => l5.length - (intOf i).toNat)
          case atStart => exact ⟨0, by omega, rfl, HG5, Lib.hid Upd.refl⟩
          case round =>
            clear HG5
            obtain ⟨k, hk, rfl, HG5, HU⟩ := hrel
            have k0 : (0 : Int) ≤ (k : Int) := by omega
            by_cases hlt2 : k < l5.length
            · have k1 : (k : Int) < (l5.length : Int) := by omega
              obtain ⟨ad, rfl⟩ := HA5.out (by omega)
              obtain ⟨cur, had, hcur, hsz⟩ := HG5.out ad rfl
              have had2 : ad.add (k * 2) = ⟨ad.block, k * 2, none⟩ := by rw [had, addr_add]; simp
              have c0 := cell_at hcur (k * 2)
              rw [← had2, Array.getElem?_eq_getElem (by omega : k * 2 < cur.size)] at c0
              have f0 := frozen_at hcur (k * 2)
              rw [← had2] at f0
              generalize cur[k * 2] = u at c0
              have HCUR := Lib.hid hcur
              have HAD := Lib.hid had
              have HAD2 := Lib.hid had2
              have HSZ := Lib.hid hsz
              clear had hcur hsz had2
              go_wp2_with fail
              go_roundw
              case rel =>
                refine ⟨k + 1, by omega, by go_num, Lib.hid ?_, Lib.hid (HU.out.trans (Upd.set (by rw [HAD2.out]; rfl)))⟩
                intro ad2 e2
                cases e2
                refine ⟨cur.setIfInBounds (k * 2) (.string ⟨#[122, 122]⟩), HAD.out, ?_, ?_⟩
                · rw [HAD2.out]; exact set_at HCUR.out _ _
                · rw [Array.size_setIfInBounds]; exact HSZ.out
              case measure => simp [intOf]; omega
            · obtain rfl : k = l5.length := by omega
              have hnl2 : ¬ (l5.length : Int) < (l5.length : Int) := by omega
              have HST7 := Lib.hid (show St w1 wr mv (Value.slice A3 l5.length cap3) m l5 from ⟨HST6.out.ft.keep (fun q hq => HU.out.block q (HST6.out.ft.lt q hq) (fun e => row_apart HST6.out.ft HO6.out q e hq)), own_keep HST6.out.row (fun q hq => HU.out.block q (HST6.out.row.lt q hq).2 (fun e => by have := HQW.out q e; have := HXR.out q hq; omega)), HST6.out.pm, HST6.out.ri, HST6.out.gd, HST6.out.bel.trans (HU.out.below HST6.out.bel.size (fun q hq => by have := HQW.out q hq; have := HST.out.bel.size; omega))⟩)
              have hba := (Below.refl _ wr).alloc (Nat.le_refl _) (.cells #[.slice A l.length cap] 77)
              have HST8 := Lib.hid (HST7.out.below hba)
              have hbw8 := HB1.out.trans (HST8.out.bel.mono HB1.out.size)
              have hparts : Parts (some ⟨wr.heap.size, 0, none⟩) [(A, cap, l)] (wr.alloc (.cells #[.slice A l.length cap] 77)) := by
                intro j x hx
                match j, hx with
                | 0, hx =>
                  cases hx
                  refine ⟨_, rfl, ?_, HS.out.below hbw8⟩
                  rw [addr_add, Nat.zero_add, cell_at (heap_alloc_new wr _)]
                  rfl
                | j + 1, hx => simp at hx
              have hjo : joinP [(A, cap, l)] = l := by simp [joinP]
              have hm := merge_any (some ⟨wr.heap.size, 0, none⟩) 1 [(A, cap, l)] hparts (by simp) (by rw [hjo]; omega) (by rw [hjo]; exact HG.out)
              rw [hjo] at hm
              have hes := adds_same l nd_nil (.refl _) (List.Pairwise.nil : Rise [])
              have HES := Lib.hid hes
              obtain ⟨em, hem⟩ : ∃ em, addsW [] l = em := ⟨_, rfl⟩
              rw [hem] at hm
              have HEM := Lib.hid hem
              have HM := Lib.hid hm
              clear hm hem hes hba hparts hjo hbw8
              go_wp2_with fail
              refine HM.out.mono ?_
              rintro e w9 ⟨v9, rfl, n9, y9, b9⟩
              have HST9 := Lib.hid (HST8.out.below b9)
              have HN9 := Lib.hid n9
              have HY9 := Lib.hid y9
              have hrm := rmerge_any A cap l (HS.out.below (HB1.out.trans (HST9.out.bel.mono HB1.out.size))) (by omega) (fun x hx => ⟨by have := HZ.out x hx; omega, (HG.out x hx).2⟩)
              obtain ⟨er, her⟩ : ∃ er, addsR [] l = er := ⟨_, rfl⟩
              rw [her] at hrm
              have HER := Lib.hid her
              have hcode : er.1 = em.1 := by rw [← HER.out, ← HEM.out]; exact HES.out.1
              rw [hcode] at hrm
              have HCODE := Lib.hid hcode
              clear her n9 y9 b9 HM hcode
              go_wp2_with fail
              refine hrm.mono ?_
              rintro e w10 ⟨v10, rfl, n10, y10, b10⟩
              have HST10 := Lib.hid (HST9.out.below b10)
              have hyz : ∃ (B1 B2 : Nat) (L : List Wd), RowW B1 w10 v9 L ∧ RowW B2 w10 v10 L ∧ L.length ≤ 1000000 := by
                by_cases h0 : em.1 = 0
                · obtain ⟨L, q1, q2, q3⟩ := HY9.out h0
                  have q4 := y10 h0
                  have q5 : L = er.2 := rise_uniq q1 (by rw [← HER.out]; exact HES.out.2.2) (q2.trans (by rw [← HER.out, ← HEM.out]; exact HES.out.2.1.symm))
                  refine ⟨_, _, er.2, by rw [← q5]; exact RowW.keep' q3 b10, q4, ?_⟩
                  have q6 := addsR_ok l pos_nil (fun _ h => by cases h) (fun x hx => by have := HZ.out x hx; omega)
                  rw [HER.out] at q6
                  have := q6.2.2
                  simp only [List.length_nil, Nat.zero_add] at this
                  omega
                · rw [HN9.out h0, n10 h0]
                  exact ⟨0, 0, [], World.ownsRow_nil _ _ _ _, World.ownsRow_nil _ _ _ _, by simp⟩
              have HYZ := Lib.hid hyz
              have hfr2 := freeze_any HST10.out.ft (by have := HML.out; omega)
              clear n10 y10 b10 hrm hyz HY9 HN9
              go_wp2_with fail
              refine hfr2.mono ?_
              rintro e w11 ⟨v11, l11, rfl, r11, p11, o11, b11⟩
              have hl11 : l11 = l5 := rise_uniq r11 HST10.out.ri (p11.trans HST10.out.pm.symm)
              subst hl11
              have HST11 := Lib.hid (HST10.out.below b11)
              have HYZ11 := Lib.hid (show ∃ (B1 B2 : Nat) (L : List Wd), RowW B1 w11 v9 L ∧ RowW B2 w11 v10 L ∧ L.length ≤ 1000000 by
                obtain ⟨B1, B2, L, q1, q2, q3⟩ := HYZ.out
                exact ⟨B1, B2, L, RowW.keep' q1 b11, RowW.keep' q2 b11, q3⟩)
              have hsm11 := same_rows o11 HST11.out.row (by omega)
              clear r11 p11 o11 b11 hfr2 HYZ
              go_wp2_with fail
              refine hsm11.mono ?_
              rintro e w12 ⟨rfl, b12⟩
              have HST12 := Lib.hid (HST11.out.below b12)
              have hsm12 : Calls Try.prog 43 #[v9, v10] w12 fun e w' => e = .returned (.bool true) ∧ Below w12.heap.size w12 w' := by
                obtain ⟨B1, B2, L, q1, q2, q3⟩ := HYZ11.out
                exact same_rows (RowW.keep' q1 b12) (RowW.keep' q2 b12) q3
              have HSM12 := Lib.hid hsm12
              clear b12 hsm11 hsm12
              go_wp2_with fail
              refine HSM12.out.mono ?_
              rintro e w13 ⟨rfl, b13⟩
              have HB13 := Lib.hid (HB1.out.trans ((HST12.out.below b13).bel.mono HB1.out.size))
              clear b13
              go_wp2_with fail
              go_ret
              exact ⟨rfl, HB13.out⟩
theorem walk (W : World) (A : Option Addr) (cp : Nat) (l : List Wd) (hr : Kd.C kWd W A l.length l) (hc : l.length ≤ cp) (hg : ∀ x ∈ l, x.1.size ≤ maxLen ∧ In64 x.2) (hsz : l.length * 24 ≤ reachBytes) (p : ByteArray) (hp : p.size ≤ 140737488351232) :
    Calls Try.prog 10 #[.slice A l.length cp, .string p] W fun e w' => e = .returned (.bool true) ∧ Below W.heap.size W w' :=
  law_any A cp l p W (srcW_of hr) hc (by unfold reachBytes at hsz; unfold maxLen; omega) hg hp
end Go.Proofs.Ythpdamkpefgmaaa.FreqPlays
