/- Layer 9: what was joined, of both tables; the comparison of two such lists. -/
import Derived.Test.YtbldnjpdeldabaaRefSym2
import Derived.Test.YtbldnjpdeldabaaSym4
import Derived.Test.YtbldnjpdeldabaaKinds
import Derived.Test.YtbldnjpdeldabaaWEqStruct
namespace Go.Proofs.Ytbldnjpdeldabaa.SymMerges
open Go.RowKit Go.Proofs.YtbldnjpdeldabaaW.PrintWords Go.Proofs.YtbldnjpdeldabaaW.PrintLast Go.Proofs.YtbldnjpdeldabaaW.PrintMore Base Foot SymPure Sym Sym2 Sym3 RefSym RefSym2 Kinds
set_option linter.unusedVariables false
attribute [local go_sem ↓] Go.wp_at_zero Go.wp_at_succ

theorem infoM : (Try.prog.info? 98).map (fun i => (i.zero, i.size, i.bytes)) = some (some (.agg #[.string ⟨#[]⟩, .string ⟨#[]⟩]), 2, 32) := by kernel_rfl
theorem take_step {α : Type} {f : α → List Value} {l : List α} {k : Nat} {x : α} (h : l[k]? = some x) : (l.take (k + 1)).flatMap f = (l.take k).flatMap f ++ f x := by
  have hl := (List.getElem?_eq_some_iff.1 h).1
  rw [List.take_succ_eq_append_getElem hl, List.flatMap_append]
  rw [List.getElem?_eq_getElem hl] at h
  injection h with h
  rw [h]
  simp
theorem merges_len (T : List J) : (mergesS T).length = T.length := by simp [mergesS]
theorem merges_at {T : List J} {k : Nat} {x : J} (h : T[k]? = some x) : (mergesS T)[k]? = some (textS T x.a, textS T x.b) := by simp [mergesS, h]

set_option maxHeartbeats 1600000 in
set_option maxRecDepth 100000 in
theorem merges_any {B : Nat} {w : World} {b : Nat} {lv mv : Value} {T : List J} (h : SymT B w b lv mv T) :
    Calls Try.prog 27 #[.pointer (some ⟨b, 0, none⟩)] w fun e w' => ∃ v, e = .returned v ∧ w'.ownsRow w.heap.size 98 2 v T.length ((mergesS T).flatMap encSS) ∧ Below w.heap.size w w' := by
  obtain ⟨i0, hi, hz0, hz1, hz2⟩ := info_parts infoM
  have hs := h.small
  have hsz := h.size
  have hgd := h.good
  have H := Lib.hid h
  have HSZ := Lib.hid hsz
  have HGD := Lib.hid hgd
  clear hsz hgd h
  go_enter Try.func27, Try.ntmps27
  go_wp2_with fail
  go_loopw [3, 4] (fun v3 v4 wr => ∃ (k : Nat) (ov : Value), k ≤ T.length ∧ ov = v3 ∧ v4 = .int .i64 (256 + (k : Int)) ∧ wr.ownsRow w.heap.size 98 2 ov k (((mergesS T).take k).flatMap encSS) ∧ Below w.heap.size w wr) (fun _ i _ => 256 + T.length - (intOf i).toNat)
  case atStart => exact ⟨0, _, by omega, rfl, rfl, World.ownsRow_nil _ _ _ _, Below.refl _ _⟩
  case round =>
    obtain ⟨k, ov, hk, rfl, rfl, hO, hW⟩ := hrel
    have hT := H.out.below hW
    go_wp2_with fail
    refine (len_any hT).mono ?_
    rintro e w1 ⟨rfl, rfl⟩
    by_cases hlt : k < T.length
    · have hx := List.getElem?_eq_getElem hlt
      generalize T[k] = x at hx
      obtain ⟨a1, a2, a3, a4, a5⟩ := HGD.out.at k x hx
      have hp := pair_high (T := T) (id := 256 + (k : Int)) (by omega) (by have : (256 + (k : Int) - 256).toNat = k := by omega
                                                                           rw [this]; exact hx)
      have HJ := Lib.hid (isJoined_iff.2 (show 256 ≤ 256 + (k : Int) ∧ 256 + (k : Int) < 256 + (T.length : Int) by omega))
      have HP := Lib.hid hp
      have HM := Lib.hid (take_step (f := encSS) (merges_at hx))
      have i1 : In64 x.a := by unfold In64; omega
      have i2 : In64 x.b := by unfold In64; omega
      have i3 : In64 (256 + (k : Int)) := by unfold In64; omega
      clear hp hx a5
      go_wp2_with fail
      refine (pair_any hT _ i3).mono ?_
      rintro e w2 ⟨rfl, b2⟩
      rw [HP.out, HJ.out]
      have hT2 := hT.below b2
      go_wp2_with fail
      generalize x.a = pa at *
      generalize x.b = pb at *
      have hT3 := hT2.below ((Below.refl _ _).alloc (Nat.le_refl _) (.cells #[.int .i64 pa, .int .i64 pb] 30))
      refine (text_any hT3 pa i1).mono ?_
      rintro e w4 ⟨rfl, b4⟩
      have hT4 := hT3.below b4
      have l1 := local_at b4 1 _ rfl
      go_wp2_with fail
      refine (text_any hT4 pb i2).mono ?_
      rintro e w5 ⟨rfl, b5⟩
      have hb5 : Below wr.heap.size wr w5 := (b2.alloc b2.size _).trans ((b4.trans (b5.mono b4.size)).mono (Nat.le_trans b2.size (by simp)))
      have hO5 : w5.ownsRow w.heap.size 98 2 ov k (((mergesS T).take k).flatMap encSS) := own_keep hO (fun q hq => hb5.block q (hO.lt q hq).2)
      have hW5 := hW.trans (hb5.mono hW.size)
      have hz5 := hW5.size
      go_wp2_with (first
        | (at_builtin; refine wpList_append_lies _ rfl _ _ 48 rfl w.heap.size 98 i0 _ 2 32 Try.underlying48 hi hz0 hz1 hz2 rfl (by decide) _ _ _ (by rfl) (hO5.alloc _) ⟨w5.heap.size, 0, none⟩ 1 1 [.string (textS T pa), .string (textS T pb)] (by rfl) rfl (news_alloc rfl) (by simp [Value.oneCell']) (by omega) (by unfold maxLen; omega) (by omega) (by simp; omega) (w5.heap.size + 1) (by simp) ?_; intro g1 cap1 w6 hown6 hgrow6 hat6 hlt6))
      go_roundw
      case rel => exact ⟨k + 1, _, by omega, rfl, by go_num, by rw [HM.out]; exact hown6, (hW5.alloc hz5 _).grown hgrow6 (by simp; omega) (fun q hq => (hO.lt q hq).1)⟩
      case measure => simp [intOf]; omega
    · obtain rfl : k = T.length := by omega
      go_wp2_with fail
      go_ret
      rw [List.take_of_length_le (by rw [merges_len]; omega)] at hO
      exact ⟨_, rfl, hO, hW⟩

theorem eqM (d : Nat) (w : World) (x0 y0 : ByteArray) (x1 y1 : ByteArray) :
    (Op.equalIn (d + 2) 98 (.agg #[.string x0, .string x1]) (.agg #[.string y0, .string y1])).run Try.prog w = .ok (x0.toList == y0.toList && (x1.toList == y1.toList)) w := by
  refine eqA_of Try.underlying98 (by kernel_rfl) ?_
  refine eqf_cons (by rfl) (by go_simp; rfl) (by go_simp; rfl) (by go_simp) ?_
  exact eqf_last (by rfl) (by go_simp; rfl) (by go_simp; rfl) (by go_simp)
theorem eqP (d : Nat) (w : World) (x0 y0 x1 y1 : Int) :
    (Op.equalIn (d + 2) 30 (.agg #[.int .i64 x0, .int .i64 x1]) (.agg #[.int .i64 y0, .int .i64 y1])).run Try.prog w = .ok (x0 == y0 && (x1 == y1)) w := by
  refine eqA_of Try.underlying30 (by kernel_rfl) ?_
  refine eqf_cons (by rfl) (by go_simp; rfl) (by go_simp; rfl) (by go_simp) ?_
  exact eqf_last (by rfl) (by go_simp; rfl) (by go_simp; rfl) (by go_simp)
attribute [local go_sem high] eqM

set_option maxHeartbeats 1600000 in
set_option maxRecDepth 100000 in
/-- the same merges -/
theorem same_yes (A A' : Option Addr) (c c' : Nat) (l : List (ByteArray × ByteArray)) (w : World) (h : Kd.C kSS w A l.length l) (h' : Kd.C kSS w A' l.length l) :
    Calls Try.prog 26 #[.slice A l.length c, .slice A' l.length c'] w fun e w' => e = .returned (.bool true) ∧ Below w.heap.size w w' := by
  have hl := h.2.1
  go_enter Try.func26, Try.ntmps26
  go_wp2_with fail
  go_loopw [5] (fun v5 wr => ∃ (k n : Nat), k ≤ l.length ∧ v5 = .int .i64 (k : Int) ∧ wr = w.drewN n) (fun i _ => l.length - (intOf i).toNat)
  case atStart => exact ⟨0, 0, by omega, rfl, rfl⟩
  case round =>
    obtain ⟨k, n, hk, rfl, rfl⟩ := hrel
    by_cases hlt : k < l.length
    · have hx := List.getElem?_eq_getElem hlt
      generalize l[k] = x at hx
      obtain ⟨ad, e, p0, p1⟩ := at_SS h hx
      cases e
      obtain ⟨ad', e, q0, q1⟩ := at_SS h' hx
      cases e
      have hk0 : (0 : Int) ≤ (k : Int) := by omega
      have hk1 : (k : Int) < (l.length : Int) := by omega
      go_wp2_with fail
      go_quiet (fail)
      go_wp2_with fail
      go_roundw
      case rel => exact ⟨k + 1, _, by omega, by go_num, rfl⟩
      case measure => simp [intOf]; omega
    · go_wp2_with fail
      go_ret
      exact ⟨rfl, bdrew _ _ _⟩

set_option maxHeartbeats 3200000 in
set_option maxRecDepth 100000 in
theorem rmerges_any {B : Nat} {w : World} {b : Nat} {tv pv : Value} {T : List J} (h : RefT B w b tv pv T) :
    Calls Try.prog 28 #[.pointer (some ⟨b, 0, none⟩)] w fun e w' => ∃ v, e = .returned v ∧ w'.ownsRow w.heap.size 98 2 v T.length ((mergesS T).flatMap encSS) ∧ Below w.heap.size w w' := by
  obtain ⟨i0, hi, hz0, hz1, hz2⟩ := info_parts infoM
  have hs := h.small
  have H := Lib.hid h
  obtain ⟨pn, hpn⟩ : ∃ pn, pn = pv := ⟨_, rfl⟩
  obtain ⟨tg, tcap, rfl, htcap⟩ := h.slice
  obtain ⟨pA, pcap, hpv⟩ : ∃ A cap, pv = .slice A T.length cap := by
    rcases h.pairs.2 with ⟨rfl, h0⟩ | ⟨g, cap, cur, rfl, _⟩
    · exact ⟨none, 0, by rw [h0]⟩
    · exact ⟨_, _, rfl⟩
  subst hpn hpv
  clear h
  go_enter Try.func28, Try.ntmps28
  go_wp2_with fail
  go_loopw [3, 4] (fun v3 v4 wr => ∃ (k : Nat) (ov : Value), k ≤ T.length ∧ ov = v3 ∧ v4 = .int .i64 (k : Int) ∧ wr.ownsRow w.heap.size 98 2 ov k (((mergesS T).take k).flatMap encSS) ∧ Below w.heap.size w wr) (fun _ i _ => T.length - (intOf i).toNat)
  case atStart => exact ⟨0, _, by omega, rfl, rfl, World.ownsRow_nil _ _ _ _, Below.refl _ _⟩
  case round =>
    obtain ⟨k, ov, hk, rfl, rfl, hO, hW⟩ := hrel
    have hT := H.out.below hW
    have c1 := cell_at hT.blk 1
    have c0 := cell_at hT.blk 0
    simp only [List.getElem?_toArray, List.getElem?_cons_succ, List.getElem?_cons_zero] at c1 c0
    by_cases hlt : k < T.length
    · have hx := List.getElem?_eq_getElem hlt
      generalize T[k] = x at hx
      obtain ⟨a1, a2, a3, a4, a5⟩ := hT.good.at k x hx
      obtain ⟨pg, pc, e, hpc, hpj⟩ := own_get encP_len hT.pairs (by omega) hx
      cases e
      obtain ⟨g1, cc1, e, _, x1⟩ := hT.at (there_iff.2 ⟨a1, by omega⟩)
      cases e
      obtain ⟨g1, cc1, e, _, x2⟩ := hT.at (there_iff.2 ⟨a3, by omega⟩)
      cases e
      have p0 := hpj 0 _ rfl
      have p1 := hpj 1 _ rfl
      rw [Nat.add_zero] at p0
      have HM := Lib.hid (take_step (f := encSS) (merges_at hx))
      have lb := block_lt hT.blk
      have lt := (hT.texts.lt tg rfl).2
      have lp := (hT.pairs.lt pg rfl).2
      have hz := hW.size
      have lwb := block_lt H.out.blk
      have lwt := (H.out.texts.lt tg rfl).2
      have lwp := (H.out.pairs.lt pg rfl).2
      have hF : ∀ q, q < w.heap.size → some q ≠ ov.ownBlock := fun q hq e => by have := (hO.lt q e.symm).1; omega
      have n1 := hF b lwb
      have n2 := hF tg lwt
      have n3 := hF pg lwp
      have hk0 : (0 : Int) ≤ (k : Int) := by omega
      have hk1 : (k : Int) < (T.length : Int) := by omega
      have a2' : x.a < 256 + (T.length : Int) := by omega
      have a4' : x.b < 256 + (T.length : Int) := by omega
      clear a5 hx a2 a4 hF hpj H
      generalize hta : textS T x.a = ta at *
      generalize htb : textS T x.b = tb at *
      have HTA := Lib.hid hta
      have HTB := Lib.hid htb
      clear hta htb
      generalize x.a = xa at *
      generalize x.b = xb at *
      have hgd : True := trivial
      have hown' := hO
      have nb := World.new_ne wr _ c0
      have nb1 := World.new_ne wr _ c1
      have nt := World.new_ne wr _ x1
      have np := World.new_ne wr _ p0
      clear hT
      go_wp2_with fail
      go_region_held3 (fun w' => w'.cell? ⟨b, 0, none⟩ = some (.slice (some ⟨tg, 0, none⟩) (256 + T.length) tcap) ∧ w'.cell? ⟨b, 1, none⟩ = some (.slice (some ⟨pg, 0, none⟩) T.length pcap) ∧ w'.cell? ⟨pg, k * 2, none⟩ = some (.int .i64 xa) ∧ w'.cell? ⟨pg, k * 2 + 1, none⟩ = some (.int .i64 xb) ∧ w'.cell? ⟨tg, xa.toNat, none⟩ = some (.string ta) ∧ w'.cell? ⟨tg, xb.toNat, none⟩ = some (.string tb))
        (first
          | exact ⟨c0, c1, p0, p1, x1, x2⟩
          | go_keep
          | (go_split_ands
             refine ⟨?_, ?_, ?_, ?_, ?_, ?_⟩
             · (rw [hgrow1.cell_far _ (by simp; omega) n1]; assumption)
             · (rw [hgrow1.cell_far _ (by simp; omega) n1]; assumption)
             · (rw [hgrow1.cell_far _ (by simp; omega) n3]; assumption)
             · (rw [hgrow1.cell_far _ (by simp; omega) n3]; assumption)
             · (rw [hgrow1.cell_far _ (by simp; omega) n2]; assumption)
             · (rw [hgrow1.cell_far _ (by simp; omega) n2]; assumption)))
        ((refine step_append_lies _ (by rfl) _ _ _ (by rfl) w.heap.size 98 i0 _ 2 32 Try.underlying48 hi hz0 hz1 hz2 rfl (by omega) ov k _ (by rfl) (by exact (hown'.alloc _).drew) ⟨wr.heap.size, 0, none⟩ 1 1 [.string ta, .string tb] (by rfl) (by rfl) (by exact news_alloc rfl) (by simp [Value.oneCell']) (by omega) (by unfold maxLen; omega) (by omega) (by simp; omega) (wr.heap.size + 1) (by simp) ?_; intro g1 cap1 w1 hown1 hgrow1 hat1 hlt1))
      go_wp2_with fail
      go_roundw
      case rel => exact ⟨k + 1, _, by omega, rfl, by go_num, by rw [HM.out]; exact hown1, ((hW.alloc hz _).drew).grown hgrow1 (by simp; omega) (fun q hq => (hO.lt q hq).1)⟩
      case measure => simp [intOf]; omega
    · obtain rfl : k = T.length := by omega
      go_wp2_with fail
      go_ret
      rw [List.take_of_length_le (by rw [merges_len]; omega)] at hO
      exact ⟨_, rfl, hO, hW⟩
end Go.Proofs.Ytbldnjpdeldabaa.SymMerges
