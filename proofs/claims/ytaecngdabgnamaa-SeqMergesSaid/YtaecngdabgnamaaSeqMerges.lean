/- SeqMerges: through any merges of any word the symbols, how often it was merged, the changes, and the pairs, are what the document says. No condition. -/
import Derived.Test.YtaecngdabgnamaaSeqChg
import Derived.Test.YtaecngdabgnamaaInts
import Derived.Test.YtaecngdabgnamaaKindsStep
import Derived.Lib.SmallJoins
namespace Go.Proofs.Ytaecngdabgnamaa.SeqMerges
open Go.RowKit Go.Maps Go.ChangeShapes Go.WideShapes Go.Deep Go.Proofs.YtaecngdabgnamaaW.PrintWords Go.Proofs.YtaecngdabgnamaaW.PrintLast Go.Proofs.YtaecngdabgnamaaW.PrintMore Base Foot ExtTail PMap SeqPure SeqM RefSeq Kinds Src
set_option linter.unusedVariables false
set_option linter.unusedSimpArgs false
attribute [local go_sem ↓] Go.wp_at_zero Go.wp_at_succ

theorem flat_map (l : List Int) : l.flatMap SeqM.encI = l.map (Value.int .i64) := by
  induction l with
  | nil => rfl
  | cons a t ih => rw [List.flatMap_cons, ih]; rfl
structure St (w W : World) (B b : Nat) (sv : Value) (C : List Cel) (X : List Knot) (xv : Value) : Prop where
  seq : SeqT B W b sv C X
  len : X.length ≤ 200
  ge : ∀ k, SFoot b sv k → B ≤ k
  hB : w.heap.size ≤ B
  row : Row w.heap.size W xv (syms X)
  ap : ∀ q, xv.ownBlock = some q → ¬ SFoot b sv q
  bel : Below w.heap.size w W
theorem St.below {w W W' : World} {B b : Nat} {sv : Value} {C : List Cel} {X : List Knot} {xv : Value} (h : St w W B b sv C X xv) (hb : Below W.heap.size W W') : St w W' B b sv C X xv :=
  ⟨h.seq.below hb, h.len, h.ge, h.hB, own_keep h.row (fun q hq => hb.block q (h.row.lt q hq).2), h.ap, h.bel.trans (hb.mono h.bel.size)⟩
theorem St.xlen {w W : World} {B b : Nat} {sv : Value} {C : List Cel} {X : List Knot} {xv : Value} (h : St w W B b sv C X xv) : (syms X).length ≤ 200 := by
  have := h.len
  simpa [syms] using this
set_option maxHeartbeats 6400000 in
set_option maxRecDepth 100000 in
theorem law_any (s : ByteArray) (A : Option Addr) (cap : Nat) (l : List ((Int × Int) × Int)) (w : World) (hs0 : s.size ≤ 140737488351232) (hr : Kd.C kStep w A l.length l) (hc : l.length ≤ cap) (hl : l.length ≤ maxLen) (hg : ∀ x ∈ l, (In64 x.1.1 ∧ In64 x.1.2) ∧ In64 x.2) :
    Calls Try.prog 4 #[.string s, .slice A l.length cap] w fun e w' => e = .returned (.bool true) ∧ Below w.heap.size w w' := by
  have hlm : l.length ≤ 9223372036854775807 := by unfold maxLen at hl; omega
  go_enter Try.func4, Try.ntmps4
  go_wp2_with fail
  refine (awake_any _).mono ?_
  rintro e w1 ⟨rfl, b1⟩
  by_cases h2 : 200 < s.size
  · have h3 : (200 : Int) < (s.size : Int) := by omega
    go_wp2_with fail
    go_ret
    exact ⟨rfl, b1⟩
  · have h3 : (s.size : Int) ≤ 200 := by omega
    by_cases h4 : 60 < l.length
    · have h5 : (60 : Int) < (l.length : Int) := by omega
      clear h2
      go_wp2_with fail
      go_ret
      exact ⟨rfl, b1⟩
    · have h5 : (l.length : Int) ≤ 60 := by omega
      have HN := Lib.hid (new_any s w1 (by omega))
      have hss : s.size ≤ 200 := by omega
      clear h2 h4
      go_wp2_with fail
      refine HN.out.mono ?_
      rintro e w2 ⟨rfl, ⟨sv, C, g2⟩, b2⟩
      have b02 := b1.trans (b2.mono b1.size)
      have hge := foot_ge g2 (Nat.le_refl _)
      have G2 := Lib.hid g2
      have HRS := Lib.hid (rsyms_any s w2 (by omega))
      clear g2 b2 HN
      go_wp2_with fail
      refine HRS.out.mono ?_
      rintro e w3 ⟨xv, rfl, r3, b3⟩
      have hsx : syms (initX 0 s.data.toList) = bytesI s := syms_initX _ _
      have hst : St w w3 w1.heap.size w1.heap.size sv C (initX 0 s.data.toList) xv := ⟨G2.out.below b3, by rw [initX_len, Array.length_toList]; exact hss, hge, b1.size, by rw [hsx]; exact row_low r3 b02.size, fun q hq hf => by
        have := (r3.lt q hq).1
        have := G2.out.lt q hf
        omega, b02.trans (b3.mono b02.size)⟩
      have HST0 := Lib.hid hst
      clear hst r3 b3 hsx HRS G2 hge b02 b1
      go_wp2_with fail
      go_loopw [6, 7] (fun v6 v7 wr => ∃ (i : Nat) (C : List Cel) (X : List Knot) (xv : Value), i ≤ l.length ∧ xv = v6 ∧ v7 = .int .i64 (i : Int) ∧ Hid (St w wr w1.heap.size w1.heap.size sv C X xv)) (fun _ i _ => l.length - (intOf i).toNat)
      case atStart => exact ⟨0, _, _, xv, by omega, rfl, rfl, HST0⟩
      case round =>
        clear HST0
        obtain ⟨i, C, X, xv, hi, rfl, rfl, HST⟩ := hrel
        by_cases hlt : i < l.length
        · have hil2 : (i : Int) < (l.length : Int) := by omega
          have hi0 : (0 : Int) ≤ (i : Int) := by omega
          have hx := List.getElem?_eq_getElem hlt
          have hgx := hg _ (List.getElem_mem hlt)
          generalize l[i] = x at hx hgx
          obtain ⟨⟨pa, pb⟩, z⟩ := x
          obtain ⟨ad, rfl, y1, y2, y3⟩ := at_Step (Kd.C_below hr HST.out.bel) hx
          simp only at y1 y2 y3 hgx
          have hst := HST.out.below (Below.refl wr.heap.size wr).drew
          have HM := Lib.hid (merge_any hst.seq (pa, pb) z hgx.2)
          unfold vP at HM
          have hbA : (ad.add (i * 3)).block < w.heap.size := by
            obtain ⟨ad', e, w1', _, _⟩ := at_Step hr hx
            cases e
            exact World.block_lt_of_cell? w _ w1'
          have HSD := Lib.hid hst
          have hws := HST.out.bel.size
          clear hx hgx hst
          obtain ⟨Ax, cx, rfl⟩ := own_slc HST.out.row
          go_wp2_with fail
          go_region_held3 (fun w' => w'.cell? (ad.add (i * 3)) = some (.int .i64 pa) ∧ w'.cell? ⟨(ad.add (i * 3)).block, (ad.add (i * 3)).off + 1, none⟩ = some (.int .i64 pb) ∧ w'.cell? ⟨(ad.add (i * 3)).block, (ad.add (i * 3)).off + 2, none⟩ = some (.int .i64 z)) (first | exact ⟨y1, y2, y3⟩ | exact ⟨z1, z2, z3⟩)
            (first | (go_at_call 14; refine HM.out.mono ?_; rintro e w5 ⟨C5, X5, v5, l5, rfl, g5, hc5, hx5, q1, q2, q3, q4, q5, u5⟩; have b5 : Below w.heap.size w w5 := HSD.out.bel.trans (u5.below HSD.out.bel.size (fun k hk => Nat.le_trans HSD.out.hB (HSD.out.ge k hk))); have z1 := (b5.cell (p := ad.add (i * 3)) hbA).trans ((HST.out.bel.cell (p := ad.add (i * 3)) hbA).symm.trans y1); have z2 := (b5.cell (p := ⟨(ad.add (i * 3)).block, (ad.add (i * 3)).off + 1, none⟩) hbA).trans ((HST.out.bel.cell (p := ⟨(ad.add (i * 3)).block, (ad.add (i * 3)).off + 1, none⟩) hbA).symm.trans y2); have z3 := (b5.cell (p := ⟨(ad.add (i * 3)).block, (ad.add (i * 3)).off + 2, none⟩) hbA).trans ((HST.out.bel.cell (p := ⟨(ad.add (i * 3)).block, (ad.add (i * 3)).off + 2, none⟩) hbA).symm.trans y3)))
          have B5 := Lib.hid b5
          have G5 := Lib.hid g5
          have HX5 := Lib.hid hx5
          have Q1 := Lib.hid q1
          have Q2 := Lib.hid q2
          have Q4 := Lib.hid q4
          have hrow5 := own_keep (w1 := w5) HSD.out.row (fun q hq => u5.block q (HSD.out.row.lt q hq).2 (HST.out.ap q hq))
          have R5 := Lib.hid hrow5
          have L5 := Lib.hid q5
          have hx64 := HST.out.xlen
          have HRM := Lib.hid (rmerge_any (own_keep (w1 := w5.drew) hrow5 (fun _ _ => rfl)) (by omega) (pa, pb) z)
          have hn5 := mrg_len (pa, pb) z (syms X)
          unfold vP at HRM
          clear HM b5 g5 hc5 hx5 q1 q2 q3 q4 q5 u5 hrow5 y1 y2 y3
          generalize hn : (mrg (pa, pb) z (syms X)).2 = n at *
          clear hn
          go_wp2_with fail
          go_region_held3 (fun w' => w'.cell? (ad.add (i * 3)) = some (.int .i64 pa) ∧ w'.cell? ⟨(ad.add (i * 3)).block, (ad.add (i * 3)).off + 1, none⟩ = some (.int .i64 pb) ∧ w'.cell? ⟨(ad.add (i * 3)).block, (ad.add (i * 3)).off + 2, none⟩ = some (.int .i64 z)) (first | exact ⟨z1, z2, z3⟩ | exact ⟨t1, t2, t3⟩)
            (first | (go_at_call 16; refine HRM.out.mono ?_; rintro e w6 ⟨v6, rfl, r6, b6⟩; have t1 := ((Below.refl w5.heap.size w5).drew.trans b6).cell (p := ad.add (i * 3)) (World.block_lt_of_cell? w5 _ z1) |>.trans z1; have t2 := ((Below.refl w5.heap.size w5).drew.trans b6).cell (p := ⟨(ad.add (i * 3)).block, (ad.add (i * 3)).off + 1, none⟩) (World.block_lt_of_cell? w5 _ z2) |>.trans z2; have t3 := ((Below.refl w5.heap.size w5).drew.trans b6).cell (p := ⟨(ad.add (i * 3)).block, (ad.add (i * 3)).off + 2, none⟩) (World.block_lt_of_cell? w5 _ z3) |>.trans z3))
          have b56 : Below w5.heap.size w5 w6 := (Below.refl w5.heap.size w5).drew.trans b6
          have hl6 : X5.length ≤ 200 := by
            have e1 : (syms X5).length = X5.length := by simp [syms]
            rw [← HX5.out, e1] at hn5
            omega
          have hap6 : ∀ q, v6.ownBlock = some q → ¬ SFoot w1.heap.size sv q := fun q hq hf => by
            have g1 := (r6.lt q hq).1
            have g2 := G5.out.lt q hf
            rw [World.size_drew] at g1
            omega
          have hst6 : St w w6 w1.heap.size w1.heap.size sv C5 X5 v6 := ⟨G5.out.below b56, hl6, HST.out.ge, HST.out.hB, by rw [HX5.out]; exact row_low r6 B5.out.size, hap6, B5.out.trans (b56.mono B5.out.size)⟩
          have HST6 := Lib.hid hst6
          have rl := own_keep (w1 := w6) L5.out (fun q hq => b56.block q (L5.out.lt q hq).2)
          have rx := own_keep (w1 := w6) R5.out (fun q hq => b56.block q (R5.out.lt q hq).2)
          have hx65 := hst6.xlen
          have HC := Lib.hid (changes_any rl rx hst6.row (by omega) (by omega) Q1.out Q2.out Q4.out)
          have e6 : (syms X5).length = X5.length := by simp [syms]
          obtain ⟨A6, c6, rfl⟩ := own_slc r6
          rw [← HX5.out, e6] at HC HST6 ⊢
          clear b6 r6 b56 hst6 rl rx z1 z2 z3 t1 t2 t3 HRM e6
          obtain ⟨Al, cl, rfl⟩ := own_slc L5.out
          go_wp2_with fail
          refine HC.out.mono ?_
          rintro e w7 ⟨rfl, b7⟩
          have st7 := HST6.out.below b7
          have HLN := Lib.hid (len_any st7.seq)
          have HSY := Lib.hid (symbols_any st7.seq)
          have ST7 := Lib.hid st7
          clear b7 st7 HC HST6
          go_wp2_with fail
          refine HLN.out.mono ?_
          rintro e w' ⟨rfl, rfl⟩
          go_wp2_with fail
          refine HSY.out.mono ?_
          rintro e w8 ⟨v8, rfl, r8, b8⟩
          have st8 := ST7.out.below b8
          have e8 : (syms X5).length = X5.length := by simp [syms]
          have r6' : w8.ownsRow w.heap.size 3 1 (.slice A6 X5.length c6) X5.length ((syms X5).flatMap SeqM.encI) := by
            have := st8.row
            unfold Row at this
            rw [e8] at this
            exact this
          have s6 := Src.of_own r6'
          rw [e8] at r8
          obtain ⟨A8, c8, rfl⟩ := own_slc r8
          have s8 := Src.of_own r8
          rw [flat_map, ← e8] at s6 s8
          have hxl := st8.xlen
          have HI := Ints.ints_yes A8 A6 c8 c6 (syms X5) w8 s8 s6 (by omega)
          clear r6'
          rw [e8] at HI
          have HI2 := Lib.hid HI
          have ST8 := Lib.hid st8
          clear HI s6 s8 r8 b8 e8 st8 HLN HSY ST7
          go_wp2_with fail
          refine HI2.out.mono ?_
          rintro e w9 ⟨rfl, b9⟩
          have ST9 := Lib.hid (ST8.out.below b9)
          clear b9 HI2 ST8
          go_wp2_with fail
          go_roundw
          case rel => exact ⟨i + 1, C5, X5, _, by omega, rfl, by go_num, ST9⟩
          case measure => simp [intOf]; omega
        · obtain rfl : i = l.length := by omega
          have hnl : ¬ (l.length : Int) < (l.length : Int) := by omega
          have HP := Lib.hid (pairs_any HST.out.seq)
          obtain ⟨Ax, cx, rfl⟩ := own_slc HST.out.row
          go_wp2_with fail
          refine HP.out.mono ?_
          rintro e w5 ⟨v5, l5, rfl, q1, q2, q3, q4, q5, b5⟩
          have st5 := HST.out.below b5
          have hxl := st5.xlen
          have hnil : Row w.heap.size w5 (.slice none 0 0) [] := World.ownsRow_nil _ _ _ _
          have HC := Lib.hid (changes_any q5 hnil st5.row (by simp) (by omega) q1 q2 (fun q => by rw [q4 q]; simp [cnt, adj]))
          have ST5 := Lib.hid st5
          obtain ⟨A5, c5, rfl⟩ := own_slc q5
          clear q1 q2 q3 q4 q5 b5 st5 hnil HP
          go_wp2_with fail
          refine HC.out.mono ?_
          rintro e w6 ⟨rfl, b6⟩
          have st6 := ST5.out.below b6
          have HSY := Lib.hid (symbols_any st6.seq)
          have ST6 := Lib.hid st6
          clear b6 st6 HC ST5
          go_wp2_with fail
          refine HSY.out.mono ?_
          rintro e w8 ⟨v8, rfl, r8, b8⟩
          have st8 := ST6.out.below b8
          have s6 := Src.of_own st8.row
          obtain ⟨A8, c8, rfl⟩ := own_slc r8
          have s8 := Src.of_own r8
          rw [flat_map] at s6 s8
          have HI2 := Lib.hid (Ints.ints_yes A8 Ax c8 cx (syms X) w8 s8 s6 (by omega))
          have ST8 := Lib.hid st8
          clear s6 s8 r8 b8 st8 HSY ST6
          go_wp2_with fail
          refine HI2.out.mono ?_
          rintro e w9 ⟨rfl, b9⟩
          have HB9 := Lib.hid (ST8.out.bel.trans (b9.mono ST8.out.bel.size))
          clear b9 HI2 ST8
          go_wp2_with fail
          go_ret
          exact ⟨rfl, HB9.out⟩
theorem walk (W : World) (s : ByteArray) (hs : s.size ≤ 140737488351232) (A : Option Addr) (cp : Nat) (l : List ((Int × Int) × Int)) (hr : Kd.C kStep W A l.length l) (hc : l.length ≤ cp) (hg : ∀ x ∈ l, (In64 x.1.1 ∧ In64 x.1.2) ∧ In64 x.2) (hsz : l.length * 24 ≤ reachBytes) :
    Calls Try.prog 4 #[.string s, .slice A l.length cp] W fun e w' => e = .returned (.bool true) ∧ Below W.heap.size W w' :=
  law_any s A cp l W hs hr hc (by unfold reachBytes at hsz; unfold maxLen; omega) hg
end Go.Proofs.Ytaecngdabgnamaa.SeqMerges
