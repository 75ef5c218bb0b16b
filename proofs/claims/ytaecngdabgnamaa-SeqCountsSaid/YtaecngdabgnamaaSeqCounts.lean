/- SeqCounts: a sequence has as many neighbours as symbols less 1, whatever is merged; the changes of a merge add up to the symbols that are less. No condition. -/
import Derived.Test.YtaecngdabgnamaaSeqLaw
import Derived.Test.YtaecngdabgnamaaSeqSum
import Derived.Test.YtaecngdabgnamaaKinds
import Derived.Lib.SmallJoins
namespace Go.Proofs.Ytaecngdabgnamaa.SeqCounts
open Go.RowKit Go.Maps Go.ChangeShapes Go.WideShapes Go.Deep Go.Proofs.YtaecngdabgnamaaW.PrintWords Go.Proofs.YtaecngdabgnamaaW.PrintLast Go.Proofs.YtaecngdabgnamaaW.PrintMore Base Foot ExtTail PMap SeqPure SeqM Kinds
set_option linter.unusedVariables false
set_option linter.unusedSimpArgs false
attribute [local go_sem ↓] Go.wp_at_zero Go.wp_at_succ
attribute [local go_sem] max2_int max_two

structure St (w W : World) (B b : Nat) (sv : Value) (C : List Cel) (X : List Knot) : Prop where
  seq : SeqT B W b sv C X
  len : X.length ≤ 200
  ge : ∀ k, SFoot b sv k → B ≤ k
  hB : w.heap.size ≤ B
  bel : Below w.heap.size w W
theorem St.below {w W W' : World} {B b : Nat} {sv : Value} {C : List Cel} {X : List Knot} (h : St w W B b sv C X) (hb : Below W.heap.size W W') : St w W' B b sv C X :=
  ⟨h.seq.below hb, h.len, h.ge, h.hB, h.bel.trans (hb.mono h.bel.size)⟩
theorem by_cell {W : World} {B : Nat} {A : Option Addr} {cp : Nat} {l : List (PK × Int)} (h : W.ownsRow B tCh 3 (.slice A l.length cp) l.length (l.flatMap encG)) {k : Nat} {x : PK × Int} (hx : l[k]? = some x) : ∃ g, A = some ⟨g, 0, none⟩ ∧ l.length ≤ cp ∧ W.cell? ⟨g, k * 3 + 2, none⟩ = some (.int .i64 x.2) := by
  obtain ⟨g, cap, e, h1, h2⟩ := own_get encG_len h (by omega) hx
  cases e
  exact ⟨g, rfl, h1, h2 2 _ rfl⟩
set_option maxHeartbeats 6400000 in
set_option maxRecDepth 100000 in
theorem law_any (s : ByteArray) (A : Option Addr) (cap : Nat) (l : List (Int × Int)) (w : World) (hs0 : s.size ≤ 140737488351232) (hr : Kd.C kII w A l.length l) (hc : l.length ≤ cap) (hl : l.length ≤ maxLen) (hg : ∀ x ∈ l, In64 x.1 ∧ In64 x.2) :
    Calls Try.prog 6 #[.string s, .slice A l.length cap] w fun e w' => e = .returned (.bool true) ∧ Below w.heap.size w w' := by
  have hlm : l.length ≤ 9223372036854775807 := by unfold maxLen at hl; omega
  go_enter Try.func6, Try.ntmps6
  go_wp2_with fail
  refine (awake_any _).mono ?_
  rintro e w1 ⟨rfl, b1⟩
  by_cases h2 : 200 < s.size
  · have h3 : (200 : Int) < (s.size : Int) := by omega
    go_wp2_with fail
    go_ret
    exact ⟨rfl, b1⟩
  · have h3 : (s.size : Int) ≤ 200 := by omega
    by_cases h4 : 40 < l.length
    · have h5 : (40 : Int) < (l.length : Int) := by omega
      clear h2
      go_wp2_with fail
      go_ret
      exact ⟨rfl, b1⟩
    · have h5 : (l.length : Int) ≤ 40 := by omega
      have HN := Lib.hid (new_any s w1 (by omega))
      have HS := Lib.hid (show s.size ≤ 200 by omega)
      clear h2 h4
      go_wp2_with fail
      refine HN.out.mono ?_
      rintro e w2 ⟨rfl, ⟨sv, C, g2⟩, b2⟩
      have hst : St w w2 w1.heap.size w1.heap.size sv C (initX 0 s.data.toList) := ⟨g2, by rw [initX_len, Array.length_toList]; exact HS.out, foot_ge g2 (Nat.le_refl _), b1.size, b1.trans (b2.mono b1.size)⟩
      clear b1 b2 g2 HN
      go_wp2_with fail
      go_loopw [6] (fun v6 wr => ∃ (i : Nat) (C : List Cel) (X : List Knot), i ≤ l.length + 1 ∧ v6 = .int .i64 (i : Int) ∧ Hid (St w wr w1.heap.size w1.heap.size sv C X)) (fun i _ => l.length + 1 - (intOf i).toNat)
      case atStart => exact ⟨0, _, _, by omega, rfl, Lib.hid hst⟩
      case round =>
        clear hst
        obtain ⟨i, C, X, hi, rfl, HST⟩ := hrel
        by_cases hlt : i ≤ l.length
        · have HP := Lib.hid (pairs_any HST.out.seq)
          have hile : (i : Int) ≤ (l.length : Int) := by omega
          go_wp2_with fail
          refine HP.out.mono ?_
          rintro e w3 ⟨v, q, rfl, q1, q2, q3, q4, q5, b3⟩
          have st3 := HST.out.below b3
          have hsum := sum_pairs q1 q2 q4
          have hby : ∀ x ∈ q, 1 ≤ x.2 ∧ x.2 ≤ 200 := fun x hx => by
            have e1 := q4 x.1
            rw [lv_mem q1.nd hx] at e1
            have e2 := q2 x hx
            have e3 := cnt_le (syms X) x.1
            have e4 := st3.len
            simp only [syms, List.length_map] at e3
            simp only [syms] at e1
            omega
          have hql : q.length ≤ 200 := Nat.le_trans q3 st3.len
          obtain ⟨A3, cp3, rfl⟩ := own_slc q5
          have HROW := Lib.hid q5
          have HSUM := Lib.hid hsum
          have HBY := Lib.hid hby
          have HST3 := Lib.hid st3
          clear q1 q2 q3 q4 q5 b3 st3 hsum hby HP
          go_wp2_with fail
          obtain ⟨wo, hwo⟩ : ∃ wo, wo = w3 := ⟨_, rfl⟩
          subst hwo
          go_loop [7, 9] (fun v7 v9 => ∃ k : Nat, k ≤ q.length ∧ v9 = .int .i64 (k : Int) ∧ v7 = .int .i64 (sumI (q.take k))) (fun _ v9 => q.length - (intOf v9).toNat)
          case atStart => exact ⟨0, by omega, rfl, rfl⟩
          case round =>
            obtain ⟨k, hk, rfl, rfl⟩ := hrel
            by_cases hkq : k < q.length
            · have hx := List.getElem?_eq_getElem hkq
              have hb := HBY.out _ (List.getElem_mem hkq)
              have hbd := sumI_bound (l := q) (K := 200) (fun x hx => by have := HBY.out x hx; omega) k hk
              have htk := sumI_take hx
              obtain ⟨g, rfl, hcp, hcell⟩ := by_cell HROW.out hx
              generalize q[k] = x at *
              obtain ⟨xp, xn⟩ := x
              simp only at hb hcell htk
              have HTK := Lib.hid htk
              have HX := Lib.hid hx
              generalize sumI (q.take k) = sm at *
              have hkq2 : (k : Int) < (q.length : Int) := by omega
              have hk0 : (0 : Int) ≤ (k : Int) := by omega
              have hb1 := hb.1
              have hb2 := hb.2
              have hd1 : -40000 ≤ sm := by omega
              have hd2 : sm ≤ 40000 := by omega
              clear hb hbd htk hx
              go_wp2_with fail
              go_round
              case rel => exact ⟨k + 1, by omega, by go_num, by rw [HTK.out]⟩
              case measure => simp [intOf]; omega
            · obtain rfl : k = q.length := by omega
              have hnk : ¬ (q.length : Int) < (q.length : Int) := by omega
              rw [List.take_length, HSUM.out]
              have e2 : (syms X).length = X.length := by simp [syms]
              rw [e2]
              obtain ⟨n, hn⟩ : ∃ n, X.length = n := ⟨_, rfl⟩
              rw [hn]
              obtain ⟨M, hM⟩ : ∃ M, max ((n : Int) - 1) 0 = M := ⟨_, rfl⟩
              rw [hM]
              have hmx : (if (n : Int) - 1 < 0 then (0 : Int) else (n : Int) - 1) = M := by rw [← hM]; split <;> omega
              have hn2 : n ≤ 200 := by have := HST3.out.len; omega
              have HNN := Lib.hid hn
              have HMM := Lib.hid hM
              have hlen := Lib.hid (len_any HST3.out.seq)
              clear e2 hn hM hkq
              go_wp2_with fail
              refine hlen.out.mono ?_
              rintro e w' ⟨rfl, rfl⟩
              rw [HNN.out]
              go_wp2_with fail
              refine hlen.out.mono ?_
              rintro e w' ⟨rfl, rfl⟩
              rw [HNN.out]
              have HSY := Lib.hid (symbols_any HST3.out.seq)
              go_wp2_with fail
              refine HSY.out.mono ?_
              rintro e w4 ⟨v4, rfl, r4, b4⟩
              have st4 := HST3.out.below b4
              have e3 : (syms X).length = n := by rw [← HNN.out]; simp [syms]
              rw [e3] at r4
              obtain ⟨A4, c4, rfl⟩ := own_slc r4
              have HST4 := Lib.hid st4
              clear r4 st4 b4 e3 HSY hlen
              by_cases hil : i < l.length
              · have hil2 : (i : Int) < (l.length : Int) := by omega
                have hx := List.getElem?_eq_getElem hil
                have hgx := hg _ (List.getElem_mem hil)
                generalize l[i] = x at hx hgx
                obtain ⟨pa, pb⟩ := x
                obtain ⟨ad, rfl, y1, y2⟩ := at_II (Kd.C_below hr HST4.out.bel) hx
                simp only at y1 y2 hgx
                have hlen := Lib.hid (len_any HST4.out.seq)
                have hz : In64 (1000 + (i : Int)) := by unfold In64; omega
                have HM := Lib.hid (merge_any HST4.out.seq (pa, pb) (1000 + (i : Int)) hz)
                unfold vP at HM
                clear hx hgx hz
                go_wp2_with fail
                refine hlen.out.mono ?_
                rintro e w' ⟨rfl, rfl⟩
                rw [HNN.out]
                go_wp2_with fail
                refine HM.out.mono ?_
                rintro e w5 ⟨C5, X5, v5, l5, rfl, g5, hc5, hx5, q1, q2, q3, q4, q5, u5⟩
                have hml := mrg_len (pa, pb) (1000 + (i : Int)) (syms X)
                rw [← hx5] at hml
                have e1 : (syms X5).length = X5.length := by simp [syms]
                have e2 : (syms X).length = n := by rw [← HNN.out]; simp [syms]
                have hsum := sum_change q1 q2 q4
                rw [e1, e2, HMM.out] at hsum
                rw [e1, e2] at hml
                have st5 : St w w5 w1.heap.size w1.heap.size sv C5 X5 := ⟨g5, by omega, HST4.out.ge, HST4.out.hB, HST4.out.bel.trans (u5.below HST4.out.bel.size (fun k hk => Nat.le_trans HST4.out.hB (HST4.out.ge k hk)))⟩
                have hby : ∀ x ∈ l5, -200 ≤ x.2 ∧ x.2 ≤ 200 := fun x hx => by
                  have e1 := q4 x.1
                  rw [lv_mem q1.nd hx] at e1
                  have e3 := cnt_le (syms X) x.1
                  have e5 := cnt_le (syms X5) x.1
                  have e4 := st5.len
                  have e6 := HNN.out
                  simp only [syms, List.length_map] at e3 e5
                  simp only [syms] at e1
                  omega
                generalize (mrg (pa, pb) (1000 + (i : Int)) (syms X)).2 = n5 at *
                obtain ⟨m5, hm5⟩ : ∃ m, X5.length = m := ⟨_, rfl⟩
                rw [hm5] at hsum hml
                obtain ⟨M5, hM5⟩ : ∃ M, max ((m5 : Int) - 1) 0 = M := ⟨_, rfl⟩
                rw [hM5] at hsum
                have hmx5 : (if (m5 : Int) - 1 < 0 then (0 : Int) else (m5 : Int) - 1) = M5 := by rw [← hM5]; split <;> omega
                have hM0 : 0 ≤ M ∧ M ≤ 200 := by have := HMM.out; omega
                have hm5l : m5 ≤ 200 := by omega
                have hl5 : l5.length ≤ 1000 := by omega
                have hn5 : decide ((n5 : Int) < 0) = false := by simp
                obtain ⟨A5, c5, rfl⟩ := own_slc q5
                have HROW5 := Lib.hid q5
                have HSUM5 := Lib.hid hsum
                have HBY5 := Lib.hid hby
                have HST5 := Lib.hid st5
                have HM5 := Lib.hid hm5
                have hM1 := hM0.1
                have hM2 := hM0.2
                clear g5 hc5 hx5 q1 q2 q3 q4 q5 u5 hml e1 e2 hsum st5 hby hm5 hM5 hM0 HM hlen y1 y2
                go_wp2_with fail
                obtain ⟨wp, hwp⟩ : ∃ wp, wp = w5 := ⟨_, rfl⟩
                subst hwp
                go_loop [13, 14] (fun v7 v9 => ∃ k : Nat, k ≤ l5.length ∧ v9 = .int .i64 (k : Int) ∧ v7 = .int .i64 (sumI (l5.take k))) (fun _ v9 => l5.length - (intOf v9).toNat)
                case atStart => exact ⟨0, by omega, rfl, rfl⟩
                case round =>
                  obtain ⟨k, hk, rfl, rfl⟩ := hrel
                  by_cases hkq : k < l5.length
                  · have hx := List.getElem?_eq_getElem hkq
                    have hb := HBY5.out _ (List.getElem_mem hkq)
                    have hbd := sumI_bound (l := l5) (K := 200) HBY5.out k hk
                    have htk := sumI_take hx
                    obtain ⟨g, rfl, hcp, hcell⟩ := by_cell HROW5.out hx
                    generalize l5[k] = x at *
                    obtain ⟨xp, xn⟩ := x
                    simp only at hb hcell htk
                    have HTK := Lib.hid htk
                    have HX := Lib.hid hx
                    generalize sumI (l5.take k) = sm at *
                    have hkq2 : (k : Int) < (l5.length : Int) := by omega
                    have hk1000 : (k : Int) < 1000 := by omega
                    have hk0 : (0 : Int) ≤ (k : Int) := by omega
                    have hb1 := hb.1
                    have hb2 := hb.2
                    have hd1 : -200000 ≤ sm := by omega
                    have hd2 : sm ≤ 200000 := by omega
                    clear hb hbd htk hx
                    go_wp2_with fail
                    go_round
                    case rel => exact ⟨k + 1, by omega, by go_num, by rw [HTK.out]⟩
                    case measure => simp [intOf]; omega
                  · obtain rfl : k = l5.length := by omega
                    have hnk : ¬ (l5.length : Int) < (l5.length : Int) := by omega
                    rw [List.take_length]
                    have hsum := HSUM5.out
                    have hbd := sumI_bound (l := l5) (K := 200) HBY5.out l5.length (Nat.le_refl _)
                    rw [List.take_length] at hbd
                    generalize sumI l5 = sm at *
                    have hd1 : -200000 ≤ sm := by omega
                    have hd2 : sm ≤ 200000 := by omega
                    have hlen := Lib.hid (len_any HST5.out.seq)
                    clear hkq hbd HSUM5
                    go_wp2_with fail
                    refine hlen.out.mono ?_
                    rintro e w' ⟨rfl, rfl⟩
                    rw [HM5.out]
                    go_wp2_with fail
                    go_roundw
                    case rel => exact ⟨i + 1, C5, X5, by omega, by go_num, HST5⟩
                    case measure => simp [intOf]; omega
              · obtain rfl : i = l.length := by omega
                have hnil : ¬ (l.length : Int) < (l.length : Int) := by omega
                go_wp2_with fail
                go_roundw
                case rel => exact ⟨l.length + 1, C, X, by omega, by go_num, HST4⟩
                case measure => simp [intOf]
        · obtain rfl : i = l.length + 1 := by omega
          have hnl : ¬ ((l.length + 1 : Nat) : Int) ≤ (l.length : Int) := by omega
          go_wp2_with fail
          go_ret
          exact ⟨rfl, HST.out.bel⟩
theorem walk (W : World) (s : ByteArray) (hs : s.size ≤ 140737488351232) (A : Option Addr) (cp : Nat) (l : List (Int × Int)) (hr : Kd.C kII W A l.length l) (hc : l.length ≤ cp) (hg : ∀ x ∈ l, In64 x.1 ∧ In64 x.2) (hsz : l.length * 16 ≤ reachBytes) :
    Calls Try.prog 6 #[.string s, .slice A l.length cp] W fun e w' => e = .returned (.bool true) ∧ Below W.heap.size W w' :=
  law_any s A cp l W hs hr hc (by unfold reachBytes at hsz; unfold maxLen; omega) hg
end Go.Proofs.Ytaecngdabgnamaa.SeqCounts
