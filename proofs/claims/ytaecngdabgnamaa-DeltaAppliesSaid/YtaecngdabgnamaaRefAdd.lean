/- gluepotref12: Add, however often, walked: the list, its order. -/
import Derived.Test.YtaecngdabgnamaaMCntR
import Derived.Test.YtaecngdabgnamaaDeltaApply
namespace Go.Proofs.Ytaecngdabgnamaa.RefCnt
open Go.RowKit Go.Maps Go.Proofs.YtaecngdabgnamaaW.PrintWords Go.Proofs.YtaecngdabgnamaaW.PrintLast Go.Proofs.YtaecngdabgnamaaW.PrintMore Base Foot ExtTail PMap DMath Delta
set_option linter.unusedVariables false
set_option linter.unusedSimpArgs false
attribute [local go_sem ↓] Go.wp_at_zero Go.wp_at_succ

/-- the reference's counts at a block of their own -/
abbrev RT (B : Nat) (w : World) (b : Nat) (pv nv : Value) (m : List (PK × Int)) : Prop := RC B w b 0 #[pv, nv] 53 pv nv m
theorem rt_new {w : World} : RT (w.heap.size + 1) (w.alloc (.cells #[.slice none 0 0, .slice none 0 0] 53)) w.heap.size (.slice none 0 0) (.slice none 0 0) [] :=
  ⟨heap_alloc_new _ _, rfl, rfl, by decide, by decide, World.ownsRow_nil _ _ _ _, World.ownsRow_nil _ _ _ _, by simp, (fun _ h => by cases h), List.nodup_nil⟩
/-- the outcome of Add -/
def AddOut (B : Nat) (w : World) (b : Nat) (pv nv : Value) (m : List (PK × Int)) (p : PK) (by_ t : Int) (e : Ending) (w' : World) : Prop :=
  e = .returned (.int .i64 (addE m p by_ t).1) ∧ ∃ pv' nv' m', RT B w' b pv' nv' m' ∧ m'.Perm (addE m p by_ t).2 ∧ (SeqPure.Rise m → SeqPure.Rise m') ∧ Upd (CFoot b pv nv) (CFoot b pv' nv') w w'
section
variable {B : Nat} {w : World} {b : Nat} {pv nv : Value} {m : List (PK × Int)} (h : RT B w b pv nv m) (hB : B ≤ w.heap.size) (hsm : m.length < 1000) (p : PK) (hp : P64 p) (by_ t : Int) (hb : In64 by_) (ht : In64 t) (hr : 0 ≤ res m p ∧ res m p ≤ 9223372036854775807)
include h
set_option maxHeartbeats 1600000 in
theorem radd_neg (h0 : t < 0) : Calls Try.prog 24 #[.pointer (some ⟨b, 0, none⟩), vP p, .int .i64 by_, .int .i64 t] w (AddOut B w b pv nv m p by_ t) := by
  have hb0 := (Below.refl _ w).alloc (Nat.le_refl _) (.cells #[.int .i64 p.1, .int .i64 p.2] 23)
  have HH := Lib.hid (h.below hb0)
  have e1 : addE m p by_ t = (1, m) := by unfold addE; rw [if_pos h0]
  obtain ⟨p1, p2⟩ := p
  unfold AddOut
  rw [e1]
  unfold vP
  clear h e1
  go_enter Try.func24, Try.ntmps24
  go_wp2_with fail
  go_ret
  exact ⟨rfl, pv, nv, m, HH.out, .refl _, id, Upd.of_below hb0⟩
include hB hsm hp hb ht hr
set_option maxHeartbeats 3200000 in
set_option maxRecDepth 100000 in
theorem radd_any : Calls Try.prog 24 #[.pointer (some ⟨b, 0, none⟩), vP p, .int .i64 by_, .int .i64 t] w (AddOut B w b pv nv m p by_ t) := by
  by_cases h0 : t < 0
  · exact radd_neg h p by_ t h0
  have ht0 : 0 ≤ t := by omega
  have hb64 := hb
  have ht64 := ht
  obtain ⟨hb1, hb2⟩ := hb
  obtain ⟨ht1, ht2⟩ := ht
  obtain ⟨hr1, hr2⟩ := hr
  have hba := (Below.refl _ w).alloc (Nat.le_refl _) (.cells #[.int .i64 p.1, .int .i64 p.2] 23)
  have hxb := heap_alloc_new w (.cells #[.int .i64 p.1, .int .i64 p.2] 23)
  obtain ⟨p1, p2⟩ := p
  simp only at hba hxb
  have hg := get_any (h.below hba) (p1, p2)
  have hdef : (PMap.look m (p1, p2)).getD 0 = res m (p1, p2) := rfl
  rw [hdef] at hg
  obtain ⟨n, hn⟩ : ∃ n, res m (p1, p2) = n := ⟨_, rfl⟩
  rw [hn] at hg hr1 hr2
  have HN := Lib.hid hn
  have HH := Lib.hid h
  have HP := Lib.hid hp
  have HX := Lib.hid hxb
  have HBA := Lib.hid hba
  have hd0 := cell_at hxb 0
  have hd1 := cell_at hxb 1
  simp only [List.getElem?_toArray, List.getElem?_cons_zero, List.getElem?_cons_succ] at hd0 hd1
  have hout : ∀ z, addE m (p1, p2) by_ t = z → AddOut B w b pv nv m (p1, p2) by_ t = fun e w' => e = .returned (.int .i64 z.1) ∧ ∃ pv' nv' m', RT B w' b pv' nv' m' ∧ m'.Perm z.2 ∧ (SeqPure.Rise m → SeqPure.Rise m') ∧ Upd (CFoot b pv nv) (CFoot b pv' nv') w w' := by
    intro z hz; unfold AddOut; rw [hz]
  have hE : addE m (p1, p2) by_ t = match sumD n by_ t with | none => (5, m) | some r => (0, setL m (p1, p2) r) := by
    unfold addE; rw [if_neg h0, hn]; cases sumD n by_ t <;> rfl
  have hset := fun (V : World) (hV : Below w.heap.size w V) (r : Int) (hr : In64 r) => set_any (HH.out.below hV) (Nat.le_trans hB hV.size) hsm (p1, p2) r HP.out hr
  have HSET := Lib.hid hset
  have HE := Lib.hid hE
  have HOUT := Lib.hid hout
  have keepm : ∀ (V : World), Below w.heap.size w V → ∃ pv' nv' m', RT B V b pv' nv' m' ∧ m'.Perm m ∧ (SeqPure.Rise m → SeqPure.Rise m') ∧ Upd (CFoot b pv nv) (CFoot b pv' nv') w V := fun V hV => ⟨pv, nv, m, HH.out.below hV, .refl _, id, Upd.of_below hV⟩
  have HK := Lib.hid keepm
  unfold vP at hg ⊢
  clear h hp hba hxb hn hdef hset hE hout keepm
  have hn64 : In64 n := ⟨by omega, hr2⟩
  by_cases hp0 : 0 ≤ by_
  · have hd0' : 0 ≤ by_ * t := Int.mul_nonneg hp0 ht0
    have hge : decide (0 ≤ by_) = true := by simpa using hp0
    have hm := fun V => DMath.rmul_any by_ t V hb64 ht64
    by_cases hle : by_ * t ≤ 9223372036854775807
    · rw [mulS_yes ⟨hp0, ht0, hle⟩] at hm
      have ha := fun V => DMath.radd_any n (by_ * t) V hn64 ⟨by omega, hle⟩
      by_cases hsum : n + by_ * t ≤ 9223372036854775807
      · rw [addS_yes ⟨hr1, hd0', hsum⟩] at ha
        have hs : sumD n by_ t = some (n + by_ * t) := by unfold sumD; rw [if_pos ⟨by omega, by omega, hsum⟩]
        rw [hs] at HE
        rw [HOUT.out _ HE.out]
        obtain ⟨r, hr⟩ : ∃ r, n + by_ * t = r := ⟨_, rfl⟩
        rw [hr] at ha ⊢
        have hr64 : In64 r := by unfold In64; omega
        obtain ⟨d, hd⟩ : ∃ d, by_ * t = d := ⟨_, rfl⟩
        rw [hd] at hm ha
        simp only at hm ha
        clear hs hd hr hsum hle hd0' HE HOUT
        go_enter Try.func24, Try.ntmps24
        go_wp2_with fail
        refine hg.mono ?_
        rintro e w1 ⟨rfl, b1⟩
        have hb1 := HBA.out.trans (b1.mono HBA.out.size)
        have x1 := (b1.block _ (block_lt HX.out)).trans HX.out
        have c0 := cell_at x1 0
        have c1 := cell_at x1 1
        simp only [List.getElem?_toArray, List.getElem?_cons_zero, List.getElem?_cons_succ] at c0 c1
        clear hd0 hd1 hg
        go_wp2_with fail
        refine (hm _).mono ?_
        rintro e w2 ⟨rfl, rfl⟩
        go_wp2_with fail
        refine (ha _).mono ?_
        rintro e w2 ⟨rfl, rfl⟩
        have hse := HSET.out _ hb1 r hr64
        unfold vP at hse
        go_wp2_with fail
        refine hse.mono ?_
        rintro e w3 ⟨rfl, pv', nv', m', r1, r2, r3⟩
        go_wp2_with fail
        go_ret
        exact ⟨rfl, pv', nv', m', r1, r2.1, r2.2, (Upd.of_below hb1).trans r3⟩
      · rw [addS_no (fun hh => hsum hh.2.2)] at ha
        have hs : sumD n by_ t = none := by unfold sumD; rw [if_neg (fun hh => hsum hh.2.2)]
        rw [hs] at HE
        rw [HOUT.out _ HE.out]
        obtain ⟨d, hd⟩ : ∃ d, by_ * t = d := ⟨_, rfl⟩
        rw [hd] at hm ha
        simp only at hm ha
        clear hs hd hsum hle hd0' HE HOUT HSET
        go_enter Try.func24, Try.ntmps24
        go_wp2_with fail
        refine hg.mono ?_
        rintro e w1 ⟨rfl, b1⟩
        have hb1 := HBA.out.trans (b1.mono HBA.out.size)
        have x1 := (b1.block _ (block_lt HX.out)).trans HX.out
        have c0 := cell_at x1 0
        have c1 := cell_at x1 1
        simp only [List.getElem?_toArray, List.getElem?_cons_zero, List.getElem?_cons_succ] at c0 c1
        clear hd0 hd1 hg
        go_wp2_with fail
        refine (hm _).mono ?_
        rintro e w2 ⟨rfl, rfl⟩
        go_wp2_with fail
        refine (ha _).mono ?_
        rintro e w2 ⟨rfl, rfl⟩
        go_wp2_with fail
        go_ret
        exact ⟨rfl, HK.out _ hb1⟩
    · rw [mulS_no (fun hh => hle hh.2.2)] at hm
      have hs : sumD n by_ t = none := by unfold sumD; rw [if_neg (fun hh => by omega)]
      rw [hs] at HE
      rw [HOUT.out _ HE.out]
      simp only at hm
      clear hs hle hd0' HE HOUT HSET
      go_enter Try.func24, Try.ntmps24
      go_wp2_with fail
      refine hg.mono ?_
      rintro e w1 ⟨rfl, b1⟩
      have hb1 := HBA.out.trans (b1.mono HBA.out.size)
      have x1 := (b1.block _ (block_lt HX.out)).trans HX.out
      have c0 := cell_at x1 0
      have c1 := cell_at x1 1
      simp only [List.getElem?_toArray, List.getElem?_cons_zero, List.getElem?_cons_succ] at c0 c1
      clear hd0 hd1 hg
      go_wp2_with fail
      refine (hm _).mono ?_
      rintro e w2 ⟨rfl, rfl⟩
      go_wp2_with fail
      go_ret
      exact ⟨rfl, HK.out _ hb1⟩
  · have hge : decide (0 ≤ by_) = false := by simpa using hp0
    have hlt : by_ < 0 := by omega
    by_cases hmin : by_ = -9223372036854775808
    · have hw : wrap64 (-by_) = by_ := by unfold wrap64; omega
      have hm := fun V => DMath.rmul_any by_ t V hb64 ht64
      rw [mulS_no (fun hh => by omega)] at hm
      have hs : sumD n by_ t = none := by unfold sumD; rw [if_neg (fun hh => hh.1 hmin)]
      rw [hs] at HE
      rw [HOUT.out _ HE.out]
      simp only at hm
      clear hs hmin HE HOUT HSET hb1 hb2 hb64
      go_enter Try.func24, Try.ntmps24
      go_wp2_with fail
      refine hg.mono ?_
      rintro e w1 ⟨rfl, b1⟩
      have hb1 := HBA.out.trans (b1.mono HBA.out.size)
      have x1 := (b1.block _ (block_lt HX.out)).trans HX.out
      have c0 := cell_at x1 0
      have c1 := cell_at x1 1
      simp only [List.getElem?_toArray, List.getElem?_cons_zero, List.getElem?_cons_succ] at c0 c1
      clear hd0 hd1 hg
      go_wp2_with fail
      refine (hm _).mono ?_
      rintro e w2 ⟨rfl, rfl⟩
      go_wp2_with fail
      go_ret
      exact ⟨rfl, HK.out _ hb1⟩
    · have hbl : -9223372036854775807 ≤ by_ := by omega
      have hd0' : 0 ≤ -by_ * t := Int.mul_nonneg (by omega) ht0
      have hneg : -by_ * t = -(by_ * t) := Int.neg_mul by_ t
      have hm := fun V => DMath.rmul_any (-by_) t V (by unfold In64; omega) ht64
      by_cases hle : -by_ * t ≤ 9223372036854775807
      · rw [mulS_yes ⟨by omega, ht0, hle⟩] at hm
        by_cases hdn : -by_ * t ≤ n
        · have hs : sumD n by_ t = some (n - -by_ * t) := by unfold sumD; rw [if_pos ⟨hmin, by omega, by omega⟩]; congr 1; omega
          rw [hs] at HE
          rw [HOUT.out _ HE.out]
          obtain ⟨d, hd⟩ : ∃ d, -by_ * t = d := ⟨_, rfl⟩
          rw [hd] at hm hdn hd0' ⊢
          simp only at hm
          have hgd : ¬ n < d := by omega
          have hr64 : In64 (n - d) := by unfold In64; omega
          clear hs hd hle hneg HE HOUT hmin
          go_enter Try.func24, Try.ntmps24
          go_wp2_with fail
          refine hg.mono ?_
          rintro e w1 ⟨rfl, b1⟩
          have hb1 := HBA.out.trans (b1.mono HBA.out.size)
          have x1 := (b1.block _ (block_lt HX.out)).trans HX.out
          have c0 := cell_at x1 0
          have c1 := cell_at x1 1
          simp only [List.getElem?_toArray, List.getElem?_cons_zero, List.getElem?_cons_succ] at c0 c1
          clear hd0 hd1 hg
          go_wp2_with fail
          refine (hm _).mono ?_
          rintro e w2 ⟨rfl, rfl⟩
          have hse := HSET.out _ hb1 (n - d) hr64
          unfold vP at hse
          go_wp2_with fail
          refine hse.mono ?_
          rintro e w3 ⟨rfl, pv', nv', m', r1, r2, r3⟩
          go_wp2_with fail
          go_ret
          exact ⟨rfl, pv', nv', m', r1, r2.1, r2.2, (Upd.of_below hb1).trans r3⟩
        · have hs : sumD n by_ t = none := by unfold sumD; rw [if_neg (fun hh => by omega)]
          rw [hs] at HE
          rw [HOUT.out _ HE.out]
          obtain ⟨d, hd⟩ : ∃ d, -by_ * t = d := ⟨_, rfl⟩
          rw [hd] at hm hdn hd0'
          simp only at hm
          have hgd : n < d := by omega
          clear hs hd hle hneg HE HOUT hmin HSET
          go_enter Try.func24, Try.ntmps24
          go_wp2_with fail
          refine hg.mono ?_
          rintro e w1 ⟨rfl, b1⟩
          have hb1 := HBA.out.trans (b1.mono HBA.out.size)
          have x1 := (b1.block _ (block_lt HX.out)).trans HX.out
          have c0 := cell_at x1 0
          have c1 := cell_at x1 1
          simp only [List.getElem?_toArray, List.getElem?_cons_zero, List.getElem?_cons_succ] at c0 c1
          clear hd0 hd1 hg
          go_wp2_with fail
          refine (hm _).mono ?_
          rintro e w2 ⟨rfl, rfl⟩
          go_wp2_with fail
          go_ret
          exact ⟨rfl, HK.out _ hb1⟩
      · rw [mulS_no (fun hh => hle hh.2.2)] at hm
        have hs : sumD n by_ t = none := by unfold sumD; rw [if_neg (fun hh => by omega)]
        rw [hs] at HE
        rw [HOUT.out _ HE.out]
        simp only at hm
        clear hs hle hneg hd0' HE HOUT HSET hmin
        go_enter Try.func24, Try.ntmps24
        go_wp2_with fail
        refine hg.mono ?_
        rintro e w1 ⟨rfl, b1⟩
        have hb1 := HBA.out.trans (b1.mono HBA.out.size)
        have x1 := (b1.block _ (block_lt HX.out)).trans HX.out
        have c0 := cell_at x1 0
        have c1 := cell_at x1 1
        simp only [List.getElem?_toArray, List.getElem?_cons_zero, List.getElem?_cons_succ] at c0 c1
        clear hd0 hd1 hg
        go_wp2_with fail
        refine (hm _).mono ?_
        rintro e w2 ⟨rfl, rfl⟩
        go_wp2_with fail
        go_ret
        exact ⟨rfl, HK.out _ hb1⟩
end
end Go.Proofs.Ytaecngdabgnamaa.RefCnt
