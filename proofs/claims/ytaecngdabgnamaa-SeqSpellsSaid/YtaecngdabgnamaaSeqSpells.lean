/- SeqSpells: whatever is merged, the symbols, each replaced by what was merged to it, are the word's bytes. No condition. -/
import Derived.Test.YtaecngdabgnamaaRefSeq
import Derived.Test.YtaecngdabgnamaaSeqSpellPure
import Derived.Test.YtaecngdabgnamaaInts
import Derived.Test.YtaecngdabgnamaaKinds
import Derived.Lib.SmallJoins
import Derived.Deep.RegionHeld3
import Derived.Deep.AppendLies
namespace Go.Proofs.Ytaecngdabgnamaa.SeqSpells
open Go.RowKit Go.Maps Go.ChangeShapes Go.WideShapes Go.Deep Go.Proofs.YtaecngdabgnamaaW.PrintWords Go.Proofs.YtaecngdabgnamaaW.PrintLast Go.Proofs.YtaecngdabgnamaaW.PrintMore Base Foot ExtTail PMap SeqPure SeqM RefSeq Kinds Src
set_option linter.unusedVariables false
set_option linter.unusedSimpArgs false
attribute [local go_sem ↓] Go.wp_at_zero Go.wp_at_succ
attribute [-go_sem] Instr.build
attribute [local go_sem high] buildP0

structure St (w W : World) (B b : Nat) (sv : Value) (C : List Cel) (X : List Knot) : Prop where
  seq : SeqT B W b sv C X
  ge : ∀ k, SFoot b sv k → B ≤ k
  hB : w.heap.size ≤ B
  bel : Below w.heap.size w W
theorem row_cell {W : World} {B : Nat} {A : Option Addr} {cp n : Nat} {l : List Int} (h : W.ownsRow B 3 1 (.slice A n cp) n (l.flatMap SeqM.encI)) {k : Nat} {x : Int} (hx : l[k]? = some x) : ∃ g, A = some ⟨g, 0, none⟩ ∧ n ≤ cp ∧ W.cell? ⟨g, k, none⟩ = some (.int .i64 x) ∧ B ≤ g ∧ g < W.heap.size := by
  obtain ⟨g, cap, e, h1, h2⟩ := own_get (f := SeqM.encI) (sz := 1) (fun _ => rfl) h (by omega) hx
  cases e
  have h3 := h.lt g rfl
  exact ⟨g, rfl, h1, by simpa using h2 0 _ rfl, h3.1, h3.2⟩
theorem flat_map (l : List Int) : l.flatMap SeqM.encI = l.map (Value.int .i64) := by
  induction l with
  | nil => rfl
  | cons a t ih => rw [List.flatMap_cons, ih]; rfl
set_option maxHeartbeats 6400000 in
set_option maxRecDepth 100000 in
theorem law_any (s : ByteArray) (A : Option Addr) (cap : Nat) (l : List (Int × Int)) (w : World) (hs0 : s.size ≤ 140737488351232) (hr : Kd.C kII w A l.length l) (hc : l.length ≤ cap) (hl : l.length ≤ maxLen) (hg : ∀ x ∈ l, In64 x.1 ∧ In64 x.2) :
    Calls Try.prog 5 #[.string s, .slice A l.length cap] w fun e w' => e = .returned (.bool true) ∧ Below w.heap.size w w' := by
  obtain ⟨iN, hiN, zN0, zN1, zN2⟩ := info_parts infoN
  have hlm : l.length ≤ 9223372036854775807 := by unfold maxLen at hl; omega
  go_enter Try.func5, Try.ntmps5
  go_wp2_with fail
  refine (awake_any _).mono ?_
  rintro e w1 ⟨rfl, b1⟩
  by_cases h2 : 200 < s.size
  · have h3 : (200 : Int) < (s.size : Int) := by omega
    go_wp2_with fail
    go_ret
    exact ⟨rfl, b1⟩
  · have h3 : (s.size : Int) ≤ 200 := by omega
    by_cases h4 : 40 < l.length
    · have h5 : (40 : Int) < (l.length : Int) := by omega
      clear h2
      go_wp2_with fail
      go_ret
      exact ⟨rfl, b1⟩
    · have h5 : (l.length : Int) ≤ 40 := by omega
      have HN := Lib.hid (new_any s w1 (by omega))
      have hss : s.size ≤ 200 := by omega
      clear h2 h4
      go_wp2_with fail
      refine HN.out.mono ?_
      rintro e w2 ⟨rfl, ⟨sv, C, g2⟩, b2⟩
      have hst : St w w2 w1.heap.size w1.heap.size sv C (initX 0 s.data.toList) := ⟨g2, foot_ge g2 (Nat.le_refl _), b1.size, b1.trans (b2.mono b1.size)⟩
      have HLT := Lib.hid (show ∀ x ∈ bytesI s, x < 1000 by
        intro x hx
        obtain ⟨c, _, rfl⟩ := List.mem_map.1 hx
        have := UInt8.toNat_lt c
        omega)
      clear b1 b2 g2 HN
      go_wp2_with fail
      go_loopw [6] (fun v6 wr => ∃ (i : Nat) (C : List Cel) (X : List Knot), i ≤ l.length ∧ v6 = .int .i64 (i : Int) ∧ Hid (St w wr w1.heap.size w1.heap.size sv C X) ∧ Hid (syms X = mgs (l.take i) 0 (bytesI s))) (fun i _ => l.length - (intOf i).toNat)
      case atStart => exact ⟨0, _, _, by omega, rfl, Lib.hid hst, Lib.hid (by rw [syms_initX]; rfl)⟩
      case round =>
        clear hst
        obtain ⟨i, C, X, hi, rfl, HST, HX⟩ := hrel
        by_cases hlt : i < l.length
        · have hil2 : (i : Int) < (l.length : Int) := by omega
          have hx := List.getElem?_eq_getElem hlt
          generalize l[i] = x at hx
          obtain ⟨pa, pb⟩ := x
          obtain ⟨ad, rfl, y1, y2⟩ := at_II (Kd.C_below hr HST.out.bel) hx
          simp only at y1 y2
          have hz : In64 (1000 + (i : Int)) := by unfold In64; omega
          have HM := Lib.hid (merge_any HST.out.seq (pa, pb) (1000 + (i : Int)) hz)
          unfold vP at HM
          have HTK := Lib.hid (mgs_take hx (bytesI s))
          clear hx hz
          go_wp2_with fail
          refine HM.out.mono ?_
          rintro e w5 ⟨C5, X5, v5, l5, rfl, g5, hc5, hx5, q1, q2, q3, q4, q5, u5⟩
          have HST5 : Hid (St w w5 w1.heap.size w1.heap.size sv C5 X5) := Lib.hid ⟨g5, HST.out.ge, HST.out.hB, HST.out.bel.trans (u5.below HST.out.bel.size (fun k hk => Nat.le_trans HST.out.hB (HST.out.ge k hk)))⟩
          have HX5 : Hid (syms X5 = mgs (l.take (i + 1)) 0 (bytesI s)) := Lib.hid (by rw [hx5, HTK.out, HX.out])
          clear g5 hc5 hx5 q1 q2 q3 q4 q5 u5 HM HTK y1 y2
          go_wp2_with fail
          go_roundw
          case rel => exact ⟨i + 1, C5, X5, by omega, by go_num, HST5, HX5⟩
          case measure => simp [intOf]; omega
        · obtain rfl : i = l.length := by omega
          have hnl : ¬ (l.length : Int) < (l.length : Int) := by omega
          have HSY := Lib.hid (symbols_any HST.out.seq)
          go_wp2_with fail
          refine HSY.out.mono ?_
          rintro e w4 ⟨v4, rfl, r4, b4⟩
          have HB4 := Lib.hid (HST.out.bel.trans (b4.mono HST.out.bel.size))
          rw [HX.out] at r4
          have r5 := row_low r4 HST.out.bel.size
          have HR4 := Lib.hid r5
          clear r4 r5 b4 HSY HST HX
          go_wp2_with fail
          go_loopw [7, 8] (fun v7 v8 wr => ∃ (j : Nat) (ov : Value), j ≤ l.length ∧ ov = v7 ∧ v8 = .int .i64 ((j : Int) - 1) ∧ Hid (wr.ownsRow w.heap.size 3 1 ov (mgs (l.take j) 0 (bytesI s)).length ((mgs (l.take j) 0 (bytesI s)).flatMap SeqM.encI)) ∧ Hid (Below w.heap.size w wr)) (fun _ i _ => (intOf i + 1).toNat)
          case atStart => exact ⟨l.length, v4, by omega, rfl, rfl, HR4, HB4⟩
          case round =>
            clear HR4 HB4
            obtain ⟨j, ov, hj, rfl, rfl, HR, HB⟩ := hrel
            by_cases hj0 : 0 < j
            · obtain ⟨i, rfl⟩ : ∃ i, j = i + 1 := ⟨j - 1, by omega⟩
              rw [show (((i + 1 : Nat) : Int) - 1) = (i : Int) by omega]
              have hlt : i < l.length := by omega
              have hil2 : (i : Int) < (l.length : Int) := by omega
              have hi0 : (0 : Int) ≤ (i : Int) := by omega
              have hx := List.getElem?_eq_getElem hlt
              generalize l[i] = x at hx
              obtain ⟨pa, pb⟩ := x
              obtain ⟨ad, rfl, y1, y2⟩ := at_II (Kd.C_below hr HB.out) hx
              simp only at y1 y2
              have HTK := Lib.hid (mgs_take hx (bytesI s))
              have HNZ := Lib.hid (show ∀ x ∈ mgs (l.take i) 0 (bytesI s), x ≠ 1000 + (i : Int) from fun x hx => by have := mgs_lt (bytesI s) HLT.out l i (by omega) x hx; omega)
              have hSl := mgs_len (bytesI s) l (i + 1) hj
              have hSl2 := mgs_len (bytesI s) l i (by omega)
              rw [bytesI_len] at hSl hSl2
              obtain ⟨S, hS⟩ : ∃ S, mgs (l.take (i + 1)) 0 (bytesI s) = S := ⟨_, rfl⟩
              rw [hS] at HR HTK hSl
              obtain ⟨S0, hS0⟩ : ∃ S, mgs (l.take i) 0 (bytesI s) = S := ⟨_, rfl⟩
              rw [hS0] at HNZ HTK hSl2
              have HS0 := Lib.hid hS0
              have hcl : (S.flatMap (unz (pa, pb) (1000 + (i : Int)))).length ≤ 400 := by have := unz_len (pa, pb) (1000 + (i : Int)) S; omega
              obtain ⟨Ao, co, rfl⟩ := own_slc HR.out
              have hbA := World.block_lt_of_cell? wr _ y1
              clear hx hS hS0
              go_wp2_with fail
              obtain ⟨wo, hwo⟩ : ∃ wo, wo = wr := ⟨_, rfl⟩
              subst hwo
              go_loopw [9, 10] (fun v9 v10 wr => ∃ (k : Nat) (nv : Value), k ≤ S.length ∧ nv = v9 ∧ v10 = .int .i64 (k : Int) ∧ wr.ownsRow wo.heap.size 3 1 nv ((S.take k).flatMap (unz (pa, pb) (1000 + (i : Int)))).length (((S.take k).flatMap (unz (pa, pb) (1000 + (i : Int)))).flatMap SeqM.encI) ∧ Below wo.heap.size wo wr) (fun _ v10 _ => S.length - (intOf v10).toNat)
              case atStart => exact ⟨0, _, by omega, rfl, rfl, World.ownsRow_nil _ _ _ _, Below.refl _ _⟩
              case round =>
                obtain ⟨k, nv, hk, rfl, rfl, hrow, hb⟩ := hrel
                by_cases hks : k < S.length
                · have hx := List.getElem?_eq_getElem hks
                  generalize S[k] = x at hx
                  obtain ⟨g, rfl, hco, hcell, hg1, hg2⟩ := row_cell HR.out hx
                  have hst := unz_step (pa, pb) (1000 + (i : Int)) hx
                  have ht1 : ((S.take k).flatMap (unz (pa, pb) (1000 + (i : Int)))).length ≤ 2 * k := by have := unz_len (pa, pb) (1000 + (i : Int)) (S.take k); rw [List.length_take] at this; omega
                  have hcel := (hb.cell (p := ⟨g, k, none⟩) hg2).trans hcell
                  have z1 := (hb.cell (p := ad.add (i * 2)) hbA).trans y1
                  have z2 := (hb.cell (p := ⟨(ad.add (i * 2)).block, (ad.add (i * 2)).off + 1, none⟩) hbA).trans y2
                  have hk0 : (0 : Int) ≤ (k : Int) := by omega
                  have hk1 : (k : Int) < (S.length : Int) := by omega
                  have hbs := hb.size
                  generalize (S.take k).flatMap (unz (pa, pb) (1000 + (i : Int))) = R at *
                  have HST := Lib.hid hst
                  clear hx hst hcell
                  by_cases hxz : x = 1000 + (i : Int)
                  · subst hxz
                    have zz1 : ∀ O, (wr.alloc O).cell? (ad.add (i * 2)) = some (.int .i64 pa) := fun O => (((Below.refl _ _).alloc (Nat.le_refl _) O).cell (World.block_lt_of_cell? wr _ z1)).trans z1
                    have zz2 : ∀ O, (wr.alloc O).cell? ⟨(ad.add (i * 2)).block, (ad.add (i * 2)).off + 1, none⟩ = some (.int .i64 pb) := fun O => (((Below.refl _ _).alloc (Nat.le_refl _) O).cell (World.block_lt_of_cell? wr _ z2)).trans z2
                    go_wp2_with fail
                    go_region_held3 (fun w' => w'.cell? (ad.add (i * 2)) = some (.int .i64 pa) ∧ w'.cell? ⟨(ad.add (i * 2)).block, (ad.add (i * 2)).off + 1, none⟩ = some (.int .i64 pb)) (first | exact ⟨z1, z2⟩ | exact ⟨s1, s2⟩ | exact ⟨zz1 _, zz2 _⟩)
                      ((refine step_append_lies _ (by rfl) _ _ _ (by rfl) wo.heap.size 3 iN _ 1 8 Try.underlying33 hiN zN0 zN1 zN2 rfl (by omega) _ _ _ (by rfl) (by exact (hrow.alloc _).drew) ⟨wr.heap.size, 0, none⟩ 2 2 [.int .i64 pa, .int .i64 pb] (by rfl) (by rfl) (by exact news_alloc rfl) (by simp [Value.oneCell']) (by omega) (by unfold maxLen; omega) (by omega) (by simp; omega) (wr.heap.size + 1) (by simp) ?_; intro q3 k3 w5 hown2 hgrow2 hat2 hlt2; have hb5 : Below wo.heap.size wo w5 := ((hb.alloc hbs _).drew).grown hgrow2 (by simp; omega) (fun k hk => (hrow.lt k hk).1); have s1 := (hb5.cell (p := ad.add (i * 2)) hbA).trans y1; have s2 := (hb5.cell (p := ⟨(ad.add (i * 2)).block, (ad.add (i * 2)).off + 1, none⟩) hbA).trans y2))
                    go_wp2_with fail
                    go_roundw
                    case rel => exact ⟨k + 1, _, by omega, rfl, by go_num, by rw [HST.out]; simpa [unz] using hown2, hb5⟩
                    case measure => simp [intOf]; omega
                  · have hxb : (x == 1000 + (i : Int)) = false := by simpa using hxz
                    have HXZ := Lib.hid hxz
                    clear hxz
                    go_wp2_with (at_builtin; refine wpList_append_own_at _ rfl _ _ 33 rfl wo.heap.size 3 iN _ 1 8 Try.underlying33 hiN zN0 zN1 zN2 rfl (by decide) _ _ _ rfl (hrow.alloc _) ⟨wr.heap.size, 0, none⟩ 1 1 [.int .i64 x] rfl rfl (news_alloc rfl) (by simp [Value.oneCell']) (by unfold maxLen; omega) (by omega) (by simp; omega) ?_; intro v' w5 hown2 hgrow2 _ hat2)
                    have hb5 : Below wo.heap.size wo w5 := (hb.alloc hbs _).grown hgrow2 (by simp; omega) (fun k hk => (hrow.lt k hk).1)
                    go_roundw
                    case rel => exact ⟨k + 1, v', by omega, rfl, by go_num, by rw [HST.out]; simpa [unz, HXZ.out] using hown2, hb5⟩
                    case measure => simp [intOf]; omega
                · obtain rfl : k = S.length := by omega
                  have hnk : ¬ (S.length : Int) < (S.length : Int) := by omega
                  have hun : S.flatMap (unz (pa, pb) (1000 + (i : Int))) = S0 := by rw [HTK.out]; exact unmrg _ _ _ HNZ.out
                  rw [List.take_length, hun] at hrow
                  have HB6 := Lib.hid (HB.out.trans (hb.mono HB.out.size))
                  have HR6 := Lib.hid (row_low hrow HB.out.size)
                  have hS0l : ¬ (400 : Int) < (S0.length : Int) := by omega
                  obtain ⟨A6, c6, rfl⟩ := own_slc hrow
                  clear hks hun hrow hb
                  go_wp2_with fail
                  go_roundw
                  case rel => exact ⟨i, _, by omega, rfl, rfl, by rw [HS0.out]; exact HR6, HB6⟩
                  case measure => simp [intOf] <;> omega
            · obtain rfl : j = 0 := by omega
              rw [show (((0 : Nat) : Int) - 1) = -1 from rfl]
              have HRB : Hid (wr.ownsRow w.heap.size 3 1 ov (bytesI s).length ((bytesI s).flatMap SeqM.encI)) := HR.out
              obtain ⟨Ao, co, rfl⟩ := own_slc HRB.out
              have HMN := Lib.hid (merge_nil (0, 0) 0 wr)
              unfold vP at HMN
              clear hj0 HR
              go_wp2_with fail
              refine HMN.out.mono ?_
              rintro e w5 ⟨rfl, b5⟩
              have HB5 := Lib.hid (HB.out.trans (b5.mono HB.out.size))
              have HR5 := Lib.hid (own_keep (w1 := w5) HRB.out (fun q hq => b5.block q (HRB.out.lt q hq).2))
              clear HRB HMN b5
              go_wp2_with fail
              go_loop [14, 15] (fun v14 v15 => ∃ (k : Nat) (bb : Bool), k ≤ l.length ∧ v15 = .int .i64 (k : Int) ∧ v14 = .bool bb) (fun _ v15 => l.length - (intOf v15).toNat)
              case atStart => exact ⟨0, true, by omega, rfl, rfl⟩
              case round =>
                obtain ⟨k, bb, hk, rfl, rfl⟩ := hrel
                by_cases hkl : k < l.length
                · have hk1 : (k : Int) < (l.length : Int) := by omega
                  have hk0 : (0 : Int) ≤ (k : Int) := by omega
                  have hx := List.getElem?_eq_getElem hkl
                  generalize l[k] = x at hx
                  obtain ⟨pa, pb⟩ := x
                  obtain ⟨ad, rfl, y1, y2⟩ := at_II (Kd.C_below hr HB5.out) hx
                  simp only at y1 y2
                  clear hx
                  cases bb
                  · go_wp2_with fail
                    go_round
                    case rel => exact ⟨k + 1, false, by omega, by go_num, rfl⟩
                    case measure => simp [intOf]; omega
                  · go_wp2_with fail
                    all_goals go_round
                    all_goals first
                      | (case rel => exact ⟨k + 1, _, by omega, by go_num, rfl⟩)
                      | (case measure => simp [intOf]; omega)
                · obtain rfl : k = l.length := by omega
                  have hnk : ¬ (l.length : Int) < (l.length : Int) := by omega
                  cases bb
                  · go_wp2_with fail
                    refine (symbols_nil _).mono ?_
                    rintro e w' ⟨rfl, rfl⟩
                    go_wp2_with fail
                    refine (SeqM.len_nil _).mono ?_
                    rintro e w' ⟨rfl, rfl⟩
                    go_wp2_with fail
                    refine (pairs_nil _).mono ?_
                    rintro e w' ⟨rfl, rfl⟩
                    go_wp2_with fail
                    go_ret
                    exact ⟨rfl, HB5.out⟩
                  · have HRS := Lib.hid (rsyms_any s w5 (by omega))
                    go_wp2_with fail
                    refine HRS.out.mono ?_
                    rintro e w6 ⟨v6, rfl, r6, b6⟩
                    have HB6 := Lib.hid (HB5.out.trans (b6.mono HB5.out.size))
                    have s5 := Src.of_own (own_keep (w1 := w6) HR5.out (fun q hq => b6.block q (HR5.out.lt q hq).2))
                    obtain ⟨A6, c6, rfl⟩ := own_slc r6
                    have s6 := Src.of_own r6
                    rw [flat_map] at s5 s6
                    have HI := Lib.hid (Ints.ints_yes Ao A6 co c6 (bytesI s) w6 s5 s6 (by rw [bytesI_len]; omega))
                    clear s5 s6 r6 b6 HRS
                    go_wp2_with fail
                    refine HI.out.mono ?_
                    rintro e w7 ⟨rfl, b7⟩
                    have HB7 := Lib.hid (HB6.out.trans (b7.mono HB6.out.size))
                    clear b7 HI
                    go_wp2_with fail
                    refine (symbols_nil _).mono ?_
                    rintro e w' ⟨rfl, rfl⟩
                    go_wp2_with fail
                    refine (SeqM.len_nil _).mono ?_
                    rintro e w' ⟨rfl, rfl⟩
                    go_wp2_with fail
                    refine (pairs_nil _).mono ?_
                    rintro e w' ⟨rfl, rfl⟩
                    go_wp2_with fail
                    go_ret
                    exact ⟨rfl, HB7.out⟩
theorem walk (W : World) (s : ByteArray) (hs : s.size ≤ 140737488351232) (A : Option Addr) (cp : Nat) (l : List (Int × Int)) (hr : Kd.C kII W A l.length l) (hc : l.length ≤ cp) (hg : ∀ x ∈ l, In64 x.1 ∧ In64 x.2) (hsz : l.length * 16 ≤ reachBytes) :
    Calls Try.prog 5 #[.string s, .slice A l.length cp] W fun e w' => e = .returned (.bool true) ∧ Below W.heap.size W w' :=
  law_any s A cp l W hs hr hc (by unfold reachBytes at hsz; unfold maxLen; omega) hg
end Go.Proofs.Ytaecngdabgnamaa.SeqSpells
