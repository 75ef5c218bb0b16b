/- gluepotlaw11: are these the changes between two words? walked: where they are, yes. -/
import Derived.Test.YtaecngdabgnamaaRefRise
namespace Go.Proofs.Ytaecngdabgnamaa.RefSeq
open Go.RowKit Go.Maps Go.Proofs.YtaecngdabgnamaaW.PrintWords Go.Proofs.YtaecngdabgnamaaW.PrintLast Go.Proofs.YtaecngdabgnamaaW.PrintMore Base Foot ExtTail PMap SeqPure SeqM Src
set_option linter.unusedVariables false
set_option linter.unusedSimpArgs false
attribute [local go_sem ↓] Go.wp_at_zero Go.wp_at_succ
attribute [-go_sem] Instr.build
attribute [local go_sem high] buildP buildG eqCh

theorem chg_cell {W : World} {B : Nat} {A : Option Addr} {cp n : Nat} {l : List (PK × Int)} (h : W.ownsRow B tCh 3 (.slice A n cp) n (l.flatMap encG)) {k : Nat} {x : PK × Int} (hx : l[k]? = some x) : ∃ g, A = some ⟨g, 0, none⟩ ∧ n ≤ cp ∧ W.cell? ⟨g, k * 3, none⟩ = some (.int .i64 x.1.1) ∧ W.cell? ⟨g, k * 3 + 1, none⟩ = some (.int .i64 x.1.2) ∧ W.cell? ⟨g, k * 3 + 2, none⟩ = some (.int .i64 x.2) ∧ g < W.heap.size := by
  obtain ⟨g, cap, e, h1, h2⟩ := own_get encG_len h (by omega) hx
  cases e
  exact ⟨g, rfl, h1, by simpa using h2 0 _ rfl, h2 1 _ rfl, h2 2 _ rfl, (h.lt g rfl).2⟩
set_option maxHeartbeats 6400000 in
set_option maxRecDepth 100000 in
theorem changes_any {B0 B1 B2 : Nat} {w : World} {v va vb : Value} {l : List (PK × Int)} {a b : List Int} (hv : w.ownsRow B0 tCh 3 v l.length (l.flatMap encG)) (ha : Row B1 w va a) (hb' : Row B2 w vb b) (hla : a.length ≤ 1000000) (hlb : b.length ≤ 1000000)
    (h1 : Rise l) (h2 : NZ l) (h3 : ∀ q, lv l q = (cnt b q : Int) - cnt a q) :
    Calls Try.prog 17 #[v, va, vb] w fun e w' => e = .returned (.bool true) ∧ Below w.heap.size w w' := by
  obtain ⟨Aa, ca, rfl⟩ := own_slc ha
  obtain ⟨Ab, cb, rfl⟩ := own_slc hb'
  obtain ⟨Av, cv, rfl⟩ := own_slc hv
  have HA := Lib.hid ha
  have HB := Lib.hid hb'
  have HV := Lib.hid hv
  have HR := Lib.hid (rising_any ha hb' hla hlb)
  have HALL := Lib.hid (show ∀ L, Ri L (adj a ++ adj b) → l = L.filterMap (chg a b) from fun L hL => chg_all hL h1 h2 h3)
  clear ha hb' hv h1 h2 h3
  go_enter Try.func17, Try.ntmps17
  go_wp2_with fail
  refine HR.out.mono ?_
  rintro e w1 ⟨v8, L, rfl, hRi, hrow, b1⟩
  have hl := HALL.out L hRi
  have hLl : L.length ≤ 2000000 := by
    have g1 := hRi.len
    have g2 := adj_len a
    have g3 := adj_len b
    rw [List.length_append] at g1
    omega
  have hll : l.length ≤ 2000000 := by
    rw [hl]
    exact Nat.le_trans (List.length_filterMap_le _ _) hLl
  have HL := Lib.hid hl
  have HROW := Lib.hid hrow
  obtain ⟨A8, c8, rfl⟩ := own_slc hrow
  clear hRi hrow hl HALL HR
  go_wp2_with fail
  go_loopw [7, 9] (fun v7 v9 wr => ∃ (i : Nat), i ≤ L.length ∧ v7 = .int .i64 (((L.take i).filterMap (chg a b)).length : Int) ∧ v9 = .int .i64 (i : Int) ∧ Below w1.heap.size w1 wr) (fun _ i _ => L.length - (intOf i).toNat)
  case atStart => exact ⟨0, by omega, rfl, rfl, Below.refl _ _⟩
  case round =>
    obtain ⟨i, hi, rfl, rfl, hb⟩ := hrel
    have hbs := hb.size
    have hi0 : (0 : Int) ≤ (i : Int) := by omega
    by_cases hlt : i < L.length
    · have hli : (i : Int) < (L.length : Int) := by omega
      have hx := List.getElem?_eq_getElem hlt
      generalize L[i] = q at hx
      have hst := chg_step (was := a) (now := b) hx
      obtain ⟨q1, q2⟩ := q
      obtain ⟨g8, rfl, hc8, y1, y2, _, hg8⟩ := pk_cell HROW.out hx
      simp only at y1 y2
      have z1 := (hb.cell (p := ⟨g8, i * 2, none⟩) hg8).trans y1
      have z2 := (hb.cell (p := ⟨g8, i * 2 + 1, none⟩) hg8).trans y2
      have f1 := fun g => Ext.cell z1 g
      have f2 := fun g => Ext.cell z2 g
      have ra := fun V (hV : Below wr.heap.size wr V) => own_keep (w1 := V) HA.out (fun k hk => ((b1.trans (hb.mono b1.size)).trans (hV.mono (Nat.le_trans b1.size hbs))).block k (HA.out.lt k hk).2)
      have rb := fun V (hV : Below wr.heap.size wr V) => own_keep (w1 := V) HB.out (fun k hk => ((b1.trans (hb.mono b1.size)).trans (hV.mono (Nat.le_trans b1.size hbs))).block k (HB.out.lt k hk).2)
      have hca := fun V hV => count_any (ra V hV) hla (q1, q2)
      have hcb := fun V hV => count_any (rb V hV) hlb (q1, q2)
      unfold vP at hca hcb
      have hka := cnt_le a (q1, q2)
      have hkb := cnt_le b (q1, q2)
      have HAT := Lib.hid (fun y (e : chg a b (q1, q2) = some y) => chg_at hx e)
      have HCH := Lib.hid (show chg a b (q1, q2) = if (cnt b (q1, q2) : Int) - cnt a (q1, q2) = 0 then none else some ((q1, q2), (cnt b (q1, q2) : Int) - cnt a (q1, q2)) from rfl)
      have hkl : ((L.take i).filterMap (chg a b)).length ≤ 2000000 := Nat.le_trans (List.length_filterMap_le _ _) (by rw [List.length_take]; omega)
      have HST := Lib.hid hst
      generalize cnt a (q1, q2) = na at *
      generalize cnt b (q1, q2) = nb at *
      obtain ⟨k, hk⟩ : ∃ k, ((L.take i).filterMap (chg a b)).length = k := ⟨_, rfl⟩
      rw [hk] at HAT hkl ⊢
      have HK := Lib.hid hk
      have hwr : IntKind.i64.wrap ((nb : Int) - (na : Int)) = (nb : Int) - (na : Int) := IntWalk.i64_in _ (by omega)
      clear hx hst ra rb hk
      go_wp2_with fail
      refine wp_region_ext (by kernel_rfl) (by kernel_rfl) ?_
      repeat (quiet_step (first | (go_at_call_of 42 (Value.slice Ab b.length cb); exact ext_of (hcb _ (Ext.below _))) | (go_at_call_of 42 (Value.slice Aa a.length ca); exact ext_of (hca _ (Ext.below _)))))
      refine wpQuiet_nil ?_
      rintro w5 ⟨⟨_, b5⟩, rfl⟩
      have hb5 := hb.trans (b5.mono hbs)
      have HB5 := Lib.hid hb5
      have u1 := (hb5.cell (p := ⟨g8, i * 2, none⟩) hg8).trans y1
      have u2 := (hb5.cell (p := ⟨g8, i * 2 + 1, none⟩) hg8).trans y2
      clear f1 f2 hca hcb z1 z2 b5 hb hb5
      by_cases hz : (nb : Int) - na = 0
      · have hzb : ((nb : Int) - (na : Int) == 0) = true := by simpa using hz
        have HST2 := Lib.hid (show ((L.take (i + 1)).filterMap (chg a b)).length = k by rw [HST.out, HCH.out, if_pos hz]; simpa using HK.out)
        clear hz
        go_wp2_with fail
        go_roundw
        case rel => exact ⟨i + 1, by omega, by rw [HST2.out], by go_num, HB5.out⟩
        case measure => simp [intOf]; omega
      · have hzb : ((nb : Int) - (na : Int) == 0) = false := by simpa using hz
        have HST2 := Lib.hid (show ((L.take (i + 1)).filterMap (chg a b)).length = k + 1 by rw [HST.out, HCH.out, if_neg hz, List.length_append, HK.out]; rfl)
        have hat := HAT.out _ (by rw [HCH.out, if_neg hz])
        rw [← HL.out] at hat
        have hkl2 : k < l.length := (List.getElem?_eq_some_iff.1 hat).1
        obtain ⟨gv, rfl, hcv, t1, t2, t3, hgv⟩ := chg_cell HV.out hat
        have hbt := b1.trans (HB5.out.mono b1.size)
        have t1' := (hbt.cell (p := ⟨gv, k * 3, none⟩) hgv).trans t1
        have t2' := (hbt.cell (p := ⟨gv, k * 3 + 1, none⟩) hgv).trans t2
        have t3' := (hbt.cell (p := ⟨gv, k * 3 + 2, none⟩) hgv).trans t3
        simp only at t1' t2' t3'
        have hk1 : (k : Int) < (l.length : Int) := by omega
        have hk0 : (0 : Int) ≤ (k : Int) := by omega
        have hkd : decide ((l.length : Int) ≤ (k : Int)) = false := by simp; omega
        clear hz hat t1 t2 t3 hbt
        go_wp2_with fail
        go_quiet (fail)
        have hb6 : Below w1.heap.size w1 (w5.drewN nq) := HB5.out.trans (bdrew _ _ _)
        go_wp2_with fail
        go_roundw
        case rel => exact ⟨i + 1, by omega, by rw [HST2.out]; go_num, by go_num, hb6⟩
        case measure => simp [intOf]; omega
    · obtain rfl : i = L.length := by omega
      have hnl : ¬ (L.length : Int) < (L.length : Int) := by omega
      have hkk : ((L.take L.length).filterMap (chg a b)).length = l.length := by rw [List.take_length, ← HL.out]
      rw [hkk]
      clear hkk
      go_wp2_with fail
      go_ret
      exact ⟨by simp, b1.trans (hb.mono b1.size)⟩
end Go.Proofs.Ytaecngdabgnamaa.RefSeq
