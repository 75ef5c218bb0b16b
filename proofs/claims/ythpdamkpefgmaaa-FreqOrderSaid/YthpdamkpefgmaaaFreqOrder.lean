/- FreqOrder: in which order words come plays no part: of any words, in any order, and cut into lists, the same comes, if all can be added. No condition. -/
import Derived.Test.YthpdamkpefgmaaaFreqMerge
import Derived.Test.YthpdamkpefgmaaaFreqNone
import Derived.Test.YthpdamkpefgmaaaFreqPlays
namespace Go.Proofs.Ythpdamkpefgmaaa.FreqOrder
open Go.RowKit Go.Maps Go.ChangeShapes Go.WideShapes Go.Deep Go.Proofs.YthpdamkpefgmaaaW.PrintWords Go.Proofs.YthpdamkpefgmaaaW.PrintLast Go.Proofs.YthpdamkpefgmaaaW.PrintMore Base Foot ExtTail SMap FreqPure CAdd Freq RFreq
set_option linter.unusedVariables false
set_option linter.unusedSimpArgs false
attribute [local go_sem ↓] Go.wp_at_zero Go.wp_at_succ

/-- the reading of whole numbers of 16 bits -/
def Src16 (w : World) (A : Option Addr) (l : List Int) : Prop := ∀ (j : Nat) x, l[j]? = some x → ∃ ad, A = some ad ∧ w.cell? (ad.add j) = some (.int .u16 x)
theorem Src16.below {w w' : World} {A : Option Addr} {l : List Int} (h : Src16 w A l) (hb : Below w.heap.size w w') : Src16 w' A l := fun j x hx => by
  obtain ⟨ad, e, hc⟩ := h j x hx
  exact ⟨ad, e, (hb.cell (World.block_lt_of_cell? w _ hc)).trans hc⟩
/-- two places exchanged -/
def swapL (l : List Wd) (a b : Nat) (x y : Wd) : List Wd := (l.set a y).set b x
theorem swap_perm {l : List Wd} {a b : Nat} {x y : Wd} (ha : l[a]? = some x) (hb : l[b]? = some y) : (swapL l a b x y).Perm l := by
  obtain ⟨h1, e1⟩ := List.getElem?_eq_some_iff.1 ha
  obtain ⟨h2, e2⟩ := List.getElem?_eq_some_iff.1 hb
  subst e1 e2
  exact List.set_set_perm h1 h2
theorem swap_len {l : List Wd} {a b : Nat} {x y : Wd} : (swapL l a b x y).length = l.length := by simp [swapL]
theorem flat_set (M : List Wd) (k : Nat) (y : Wd) (hk : k < M.length) : (M.set k y).flatMap encW = ((M.flatMap encW).set (k * 2) (.string y.1)).set (k * 2 + 1) (.int .i64 y.2) := by
  induction M generalizing k with
  | nil => simp at hk
  | cons a t ih =>
    cases k with
    | zero => rfl
    | succ k =>
      have e : (k + 1) * 2 = k * 2 + 1 + 1 := by omega
      rw [List.set_cons_succ, List.flatMap_cons, List.flatMap_cons, ih k (by simpa using hk), e]
      rfl
/-- an element of a row written anew -/
theorem row_set {B : Nat} {W : World} {ad : Addr} {c : Nat} {M : List Wd} (h : RowW B W (.slice (some ad) M.length c) M) {k : Nat} (hk : k < M.length) (y : Wd) :
    RowW B ((W.setCell (ad.add (k * 2)) (.string y.1)).setCell ⟨(ad.add (k * 2)).block, (ad.add (k * 2)).off + 1, none⟩ (.int .i64 y.2)) (.slice (some ad) M.length c) (M.set k y) := by
  rcases h.2 with ⟨e, _⟩ | ⟨g, cap, cur, e, hB, hg, hc, hm, hs, ht⟩
  · cases e
  · cases e
    rw [addr_add, Nat.zero_add]
    have h1 := set_at (set_at hg (k * 2) (.string y.1)) (k * 2 + 1) (.int .i64 y.2)
    refine ⟨by rw [List.length_set, flat_len encW 2 encW_len, List.length_set], .inr ⟨g, _, _, by rw [List.length_set], hB, h1, by rw [List.length_set]; exact hc, hm, by rw [Array.size_setIfInBounds, Array.size_setIfInBounds]; exact hs, ?_⟩⟩
    rw [List.length_set, flat_set M k y hk, Array.toList_setIfInBounds, Array.toList_setIfInBounds, List.take_set, List.take_set, ht]
theorem row_set2 {B : Nat} {W : World} {g n c : Nat} {M : List Wd} (h : RowW B W (.slice (some ⟨g, 0, none⟩) n c) M) (hn : M.length = n) {a b : Nat} (ha : a < n) (hb : b < n) (x y : Wd) :
    RowW B ((((W.setCell ⟨g, a * 2, none⟩ (.string y.1)).setCell ⟨g, a * 2 + 1, none⟩ (.int .i64 y.2)).setCell ⟨g, b * 2, none⟩ (.string x.1)).setCell ⟨g, b * 2 + 1, none⟩ (.int .i64 x.2)).drew (.slice (some ⟨g, 0, none⟩) n c) (swapL M a b x y) ∧ B ≤ g := by
  subst hn
  have hB : B ≤ g := by
    rcases h.2 with ⟨e, _⟩ | ⟨g', cap, cur, e, hB, _⟩
    · cases e
    · cases e; exact hB
  have h1 := row_set h ha y
  rw [addr_add, Nat.zero_add] at h1
  have hs : (M.set a y).length = M.length := List.length_set
  rw [← hs] at h1
  have h2 := row_set h1 (k := b) (by rw [hs]; exact hb) x
  rw [addr_add, Nat.zero_add, hs] at h2
  exact ⟨RowW.keep' h2 ((Below.refl _ _).drew), hB⟩
theorem fin_eq {M l : List Wd} (hp : M.Perm l) : (addsW [] l).1 = 0 ↔ (addsW [] M).1 = 0 := (adds_perm hp.symm).1
theorem fin_rows {M l : List Wd} {w9 w10 : World} {v9 v10 : Value} {B9 : Nat} (hp : M.Perm l) (n9 : (addsW [] l).1 ≠ 0 → v9 = .slice none 0 0) (y9 : (addsW [] l).1 = 0 → ∃ L, Rise L ∧ L.Perm (addsW [] l).2 ∧ RowW B9 w9 v9 L)
    (n10 : (addsW [] M).1 ≠ 0 → v10 = .slice none 0 0) (y10 : (addsW [] M).1 = 0 → ∃ B L, Rise L ∧ L.Perm (addsW [] M).2 ∧ RowW B w10 v10 L) (b : Below w9.heap.size w9 w10) (hlen : l.length ≤ 100) :
    Calls Try.prog 43 #[v9, v10] w10 fun e w' => e = .returned (.bool true) ∧ Below w10.heap.size w10 w' := by
  by_cases h0 : (addsW [] l).1 = 0
  · obtain ⟨L, q1, q2, q3⟩ := y9 h0
    obtain ⟨B, L', r1, r2, r3⟩ := y10 ((fin_eq hp).1 h0)
    have e : L = L' := rise_uniq q1 r1 (q2.trans (((adds_perm hp.symm).2 h0).trans r2.symm))
    subst e
    have h1 := q2.length_eq
    have h2 := addsW_le l []
    simp only [List.length_nil] at h2
    exact same_rows (RowW.keep' q3 b) r3 (by omega)
  · rw [n9 h0, n10 (fun h => h0 ((fin_eq hp).2 h))]
    exact same_rows (B := 0) (B2 := 0) (l := []) (World.ownsRow_nil _ _ _ _) (World.ownsRow_nil _ _ _ _) (by simp)
theorem srcw_nil {w : World} {A : Option Addr} : SrcW w A [] := ⟨rfl, fun h => absurd h (by decide)⟩
theorem flat_split (M : List Wd) (k : Nat) : M.flatMap encW = (M.take k).flatMap encW ++ (M.drop k).flatMap encW := by rw [← List.flatMap_append, List.take_append_drop]
theorem srcw_take {w : World} {A : Option Addr} {M : List Wd} (h : SrcW w A M) (k : Nat) : SrcW w A (M.take k) := by
  refine ⟨flat_len encW 2 encW_len _, fun hn => ?_⟩
  obtain ⟨ad, e, hc⟩ := h.2 (by rw [List.length_take] at hn; omega)
  refine ⟨ad, e, fun j u hj => hc j u ?_⟩
  rw [flat_split M k, List.getElem?_append_left (List.getElem?_eq_some_iff.1 hj).1]
  exact hj
theorem srcw_drop {w : World} {g : Nat} {M : List Wd} (h : SrcW w (some ⟨g, 0, none⟩) M) (k : Nat) : SrcW w (some ⟨g, k * 2, none⟩) (M.drop k) := by
  refine ⟨flat_len encW 2 encW_len _, fun hn => ?_⟩
  rw [List.length_drop] at hn
  obtain ⟨ad, e, hc⟩ := h.2 (by omega)
  cases e
  refine ⟨_, rfl, fun j u hj => ?_⟩
  have h1 := hc (k * 2 + j) u (by
    rw [flat_split M k, List.getElem?_append_right (by rw [flat_len encW 2 encW_len, List.length_take]; omega), flat_len encW 2 encW_len, List.length_take, Nat.min_eq_left (by omega), Nat.add_sub_cancel_left]
    exact hj)
  rw [addr_add] at h1 ⊢
  rw [Nat.zero_add] at h1
  exact h1
theorem merge3 {w : World} {M : List Wd} {k n1 n3 c1 c3 : Nat} {P1 P3 : Option Addr} (h1 : SrcW w P1 (M.take k)) (h3 : SrcW w P3 (M.drop k)) (e1 : (M.take k).length = n1) (e3 : (M.drop k).length = n3) (hl : M.length ≤ 100) (hz : ∀ x ∈ M, SS x.1 ∧ In64 x.2) :
    Calls Try.prog 46 #[.slice (some ⟨w.heap.size, 0, none⟩) 3 3] (w.alloc (.cells #[.slice P1 n1 c1, .slice none 0 0, .slice P3 n3 c3] 77)).drew fun e w' => ∃ v, e = .returned (.tuple #[v, .int .i64 (addsW [] M).1]) ∧ ((addsW [] M).1 ≠ 0 → v = .slice none 0 0) ∧ ((addsW [] M).1 = 0 → ∃ B L, Rise L ∧ L.Perm (addsW [] M).2 ∧ RowW B w' v L) ∧ Below w.heap.size w w' := by
  subst e1 e3
  have hb := ((Below.refl w.heap.size w).alloc (Nat.le_refl _) (.cells #[.slice P1 (M.take k).length c1, .slice none 0 0, .slice P3 (M.drop k).length c3] 77)).drew
  have hc : ∀ j : Nat, ((w.alloc (.cells #[.slice P1 (M.take k).length c1, .slice none 0 0, .slice P3 (M.drop k).length c3] 77)).drew).cell? ⟨w.heap.size, j, none⟩ = #[.slice P1 (M.take k).length c1, .slice none 0 0, .slice P3 (M.drop k).length c3][j]? := fun j => cell_at (heap_alloc_new w _) j
  have hp : Parts (some ⟨w.heap.size, 0, none⟩) [(P1, c1, M.take k), (none, 0, []), (P3, c3, M.drop k)] ((w.alloc (.cells #[.slice P1 (M.take k).length c1, .slice none 0 0, .slice P3 (M.drop k).length c3] 77)).drew) := by
    intro j x hx
    match j, hx with
    | 0, hx => cases hx; exact ⟨_, rfl, by rw [addr_add]; exact hc 0, h1.below hb⟩
    | 1, hx => cases hx; exact ⟨_, rfl, by rw [addr_add]; exact hc 1, srcw_nil⟩
    | 2, hx => cases hx; exact ⟨_, rfl, by rw [addr_add]; exact hc 2, h3.below hb⟩
    | j + 3, hx => simp at hx
  have hj : joinP [(P1, c1, M.take k), (none, 0, []), (P3, c3, M.drop k)] = M := by simp [joinP]
  have h := merge_any _ 3 _ hp (by simp) (by rw [hj]; omega) (by rw [hj]; exact hz)
  rw [hj] at h
  refine h.mono ?_
  rintro e w' ⟨v, r, n, y, b⟩
  exact ⟨v, r, n, fun h0 => by obtain ⟨L, q⟩ := y h0; exact ⟨_, L, q⟩, hb.trans (b.mono hb.size)⟩
theorem two_alloc (W0 : World) (c1 c2 : Array Value) (t1 t2 : TypeId) : ((W0.alloc (.cells c1 t1)).alloc (.cells c2 t2)).heap[W0.heap.size]? = some (.cells c1 t1 (0, 0)) ∧ ((W0.alloc (.cells c1 t1)).alloc (.cells c2 t2)).heap[W0.heap.size + 1]? = some (.cells c2 t2 (0, 0)) ∧ Below W0.heap.size W0 ((W0.alloc (.cells c1 t1)).alloc (.cells c2 t2)) := by
  refine ⟨alloc_blk (heap_alloc_new W0 _), ?_, ((Below.refl _ W0).alloc (Nat.le_refl _) _).alloc (by simp) _⟩
  have := heap_alloc_new (W0.alloc (.cells c1 t1)) (.cells c2 t2)
  simpa using this
theorem farN {W W' : World} {k o : Nat} {u : Value} (h : W'.heap[k]? = W.heap[k]?) (hc : W.cell? ⟨k, o, none⟩ = some u) : W'.cell? ⟨k, o, none⟩ = some u := by
  unfold World.cell? at hc ⊢
  rw [h]
  exact hc
theorem tmod_nat (a b : Nat) : Int.tmod (a : Int) (b : Int) = ((a % b : Nat) : Int) := by rw [Int.ofNat_tmod]
set_option maxHeartbeats 20000000 in
set_option maxRecDepth 100000 in
theorem law_any (A : Option Addr) (cap : Nat) (l : List Wd) (A2 : Option Addr) (cap2 : Nat) (bs : List Int) (cut : Int) (w : World) (hsrc : SrcW w A l) (hc : l.length ≤ cap) (hl : l.length ≤ maxLen) (hg : ∀ x ∈ l, x.1.size ≤ maxLen ∧ In64 x.2)
    (hs2 : Src16 w A2 bs) (hc2 : bs.length ≤ cap2) (hl2 : bs.length ≤ maxLen) (hg2 : ∀ x ∈ bs, 0 ≤ x ∧ x ≤ 65535) (hcut : 0 ≤ cut ∧ cut ≤ 65535) :
    Calls Try.prog 9 #[.slice A l.length cap, .slice A2 bs.length cap2, .int .u16 cut] w fun e w' => e = .returned (.bool true) ∧ Below w.heap.size w w' := by
  obtain ⟨iW, hiW, zW0, zW1, zW2⟩ := info_parts infoW
  have hlm : l.length ≤ 9223372036854775807 := by unfold maxLen at hl; omega
  have hlm2 : bs.length ≤ 9223372036854775807 := by unfold maxLen at hl2; omega
  have HG := Lib.hid hg
  have HG2 := Lib.hid hg2
  have HS := Lib.hid hsrc
  have HS2 := Lib.hid hs2
  obtain ⟨cut0, cut1⟩ := hcut
  clear hg hsrc hl hg2 hs2 hl2
  go_enter Try.func9, Try.ntmps9
  go_wp2_with fail
  refine (FreqNone.awake_any _).mono ?_
  rintro e w1 ⟨rfl, b1⟩
  have hgr := great_any A cap l (HS.out.below b1) hlm 100
  have HB1 := Lib.hid b1
  clear b1
  cases hgg : greatW l 100 with
  | true =>
    rw [hgg] at hgr
    clear hgg
    go_wp2_with fail
    refine hgr.mono ?_
    rintro e w2 ⟨rfl, rfl⟩
    go_wp2_with fail
    go_ret
    exact ⟨rfl, HB1.out⟩
  | false =>
    rw [hgg] at hgr
    have hno := great_no (n := 100) hgg
    clear hgg
    by_cases hbig : 200 < bs.length
    · have h4 : (200 : Int) < (bs.length : Int) := by omega
      clear hbig hno
      go_wp2_with fail
      refine hgr.mono ?_
      rintro e w2 ⟨rfl, rfl⟩
      go_wp2_with fail
      go_ret
      exact ⟨rfl, HB1.out⟩
    · have h4 : ¬ (200 : Int) < (bs.length : Int) := by omega
      have hl100 := hno.2
      have HZ := Lib.hid hno.1
      have HSB := Lib.hid ((HS.out.below HB1.out).below ((Below.refl _ w1).alloc (Nat.le_refl _) (.cells #[] tW)))
      clear hbig hno
      go_wp2_with fail
      refine hgr.mono ?_
      rintro e w2 ⟨rfl, rfl⟩
      clear hgr
      go_wp2_with (at_builtin; refine Src.wpList_append_src _ rfl _ _ 77 rfl w1.heap.size tW iW _ 2 24 Try.underlying77 hiW zW0 zW1 zW2 rfl (by decide) _ _ _ rfl (Src.own_empty w1 w1.heap.size tW 2 (Nat.le_refl _)) _ _ _ _ rfl HSB.out (oneW _) (by unfold maxLen; omega) (by omega) (by simp) ?_; intro v2 w2 hown2 hgrow2 hat2)
      have hba := (Below.refl _ w1).alloc (Nat.le_refl _) (.cells #[] tW)
      have HR2 := Lib.hid (show RowW w1.heap.size w2 v2 l by
        have := hown2
        rw [List.nil_append, Nat.zero_add] at this
        exact this)
      have HB2 := Lib.hid (hba.grown hgrow2 hba.size (fun k e => by
        have e2 : (some k : Option Nat) = some w1.heap.size := e.symm
        cases e2; exact Nat.le_refl _))
      obtain ⟨A7, c7, rfl⟩ := slc HR2.out
      clear hown2 hgrow2 hat2 hba HSB
      go_wp2_with fail
      go_loopw [8] (fun v8 wr => ∃ (i : Nat) (M : List Wd), i ≤ bs.length ∧ v8 = .int .i64 (i : Int) ∧ Hid (RowW w1.heap.size wr (.slice A7 l.length c7) M) ∧ Hid (M.Perm l) ∧ Hid (Below w1.heap.size w1 wr)) (fun i _ => bs.length - (intOf i).toNat)
      case atStart => exact ⟨0, l, by omega, rfl, HR2, Lib.hid (.refl _), HB2⟩
      case round =>
        clear HR2 HB2
        obtain ⟨i, M, hi, rfl, HR, HP, HB⟩ := hrel
        have i0 : (0 : Int) ≤ (i : Int) := by omega
        have hml := HP.out.length_eq
        by_cases hgo : i < bs.length ∧ 0 < l.length
        · obtain ⟨hlt, hpos⟩ := hgo
          have i1 : (i : Int) < (bs.length : Int) := by omega
          have hpos2 : (0 : Int) < (l.length : Int) := by omega
          have hx := List.getElem?_eq_getElem hlt
          have hgx := HG2.out _ (List.getElem_mem hlt)
          generalize bs[i] = z at hx hgx
          obtain ⟨ad2, rfl, y0⟩ := (HS2.out.below HB1.out).below HB.out i z hx
          obtain ⟨z0, z1⟩ := hgx
          obtain ⟨zn, rfl⟩ := Int.eq_ofNat_of_zero_le z0
          have ha : i % l.length < l.length := Nat.mod_lt _ hpos
          have hb : zn % l.length < l.length := Nat.mod_lt _ hpos
          have hta := tmod_nat i l.length
          have htb := tmod_nat zn l.length
          have hcv : IntKind.i64.wrap (zn : Int) = (zn : Int) := IntWalk.i64_in (zn : Int) ⟨by omega, by omega⟩
          generalize i % l.length = a at *
          generalize zn % l.length = b at *
          have hne : ((l.length : Int) == 0) = false := beq_eq_false_iff_ne.2 (by omega)
          clear hx
          go_wp2_with fail
          go_quiet (fail)
          go_wp2_with fail
          have hbq := bdrew wr.heap.size wr nq
          have HR0 := Lib.hid (RowW.keep' HR.out hbq)
          have HB0 := Lib.hid (HB.out.trans (hbq.mono HB.out.size))
          have hax := List.getElem?_eq_getElem (l := M) (i := a) (by omega)
          have hbx := List.getElem?_eq_getElem (l := M) (i := b) (by omega)
          generalize M[a] = x at hax
          generalize M[b] = y at hbx
          have hrow : RowW w1.heap.size (wr.drewN nq) (.slice A7 M.length c7) M := by rw [hml]; exact HR0.out
          obtain ⟨ad, c8, e, hcp, p0, p1⟩ := row_at hrow hax
          cases e
          obtain ⟨ad', c8', e, _, q0, q1⟩ := row_at hrow hbx
          cases e
          obtain ⟨xs, xn⟩ := x
          obtain ⟨ys, yn⟩ := y
          simp only at p0 p1 q0 q1
          have HAX := Lib.hid hax
          have HBX := Lib.hid hbx
          have HROW := Lib.hid hrow
          clear hax hbx hrow hbq hta htb hcv y0
          generalize wr.drewN nq = W0 at *
          have n0 := World.new_ne W0 _ p0
          have n1 := World.new_ne W0 _ p1
          have n2 := World.new_ne W0 _ q0
          have n3 := World.new_ne W0 _ q1
          have a0 : (0 : Int) ≤ (a : Int) := by omega
          have a1 : (a : Int) < (l.length : Int) := by omega
          have b0 : (0 : Int) ≤ (b : Int) := by omega
          have b1 : (b : Int) < (l.length : Int) := by omega
          go_cut [11, 12] from 53 to 60 (fun v11 v12 wx => ∃ gx gy : Nat, v11 = .pointer (some ⟨gx, 0, none⟩) ∧ v12 = .pointer (some ⟨gy, 0, none⟩) ∧ Hid (wx.heap[gx]? = some (.cells #[.string xs, .int .i64 xn] tW (0, 0))) ∧ Hid (wx.heap[gy]? = some (.cells #[.string ys, .int .i64 yn] tW (0, 0))) ∧ Hid (W0.heap.size ≤ gx ∧ W0.heap.size ≤ gy ∧ gx ≠ gy) ∧ Hid (Below W0.heap.size W0 wx))
          case first =>
            go_region_held3 (fun W => W.cell? (ad.add (a * 2)) = some (.string xs) ∧ W.cell? ⟨(ad.add (a * 2)).block, (ad.add (a * 2)).off + 1, none⟩ = some (.int .i64 xn) ∧ W.cell? (ad.add (b * 2)) = some (.string ys) ∧ W.cell? ⟨(ad.add (b * 2)).block, (ad.add (b * 2)).off + 1, none⟩ = some (.int .i64 yn)) (go_keep) (fail)
            · go_wp2_with fail
              go_meet
              obtain ⟨k1, k2, k3⟩ := two_alloc W0 #[.string xs, .int .i64 xn] #[.string ys, .int .i64 yn] tW tW
              obtain ⟨j1, j2, j3⟩ := two_alloc W0 #[.string ys, .int .i64 yn] #[.string xs, .int .i64 xn] tW tW
              first
                | exact ⟨W0.heap.size, W0.heap.size + 1, rfl, rfl, Lib.hid k1, Lib.hid k2, Lib.hid (by omega), Lib.hid k3.drew⟩
                | exact ⟨W0.heap.size + 1, W0.heap.size, rfl, rfl, Lib.hid j2, Lib.hid j1, Lib.hid (by omega), Lib.hid j3.drew⟩
            · go_wp2_with fail
              go_meet
              obtain ⟨k1, k2, k3⟩ := two_alloc W0 #[.string xs, .int .i64 xn] #[.string ys, .int .i64 yn] tW tW
              obtain ⟨j1, j2, j3⟩ := two_alloc W0 #[.string ys, .int .i64 yn] #[.string xs, .int .i64 xn] tW tW
              first
                | exact ⟨W0.heap.size, W0.heap.size + 1, rfl, rfl, Lib.hid k1, Lib.hid k2, Lib.hid (by omega), Lib.hid k3.drew⟩
                | exact ⟨W0.heap.size + 1, W0.heap.size, rfl, rfl, Lib.hid j2, Lib.hid j1, Lib.hid (by omega), Lib.hid j3.drew⟩
          case rest =>
            obtain ⟨gx, gy, rfl, rfl, HGX, HGY, HNE, HBW⟩ := hcut
            have hX0 := cell_at HGX.out 0
            have hX1 := cell_at HGX.out 1
            have hY0 := cell_at HGY.out 0
            have hY1 := cell_at HGY.out 1
            simp only [List.getElem?_toArray, List.getElem?_cons_zero, List.getElem?_cons_succ] at hX0 hX1 hY0 hY1
            have hROWx := RowW.keep' HROW.out HBW.out
            have p0' := (HBW.out.cell (World.block_lt_of_cell? W0 _ p0)).trans p0
            have p1' := (HBW.out.cell (World.block_lt_of_cell? W0 _ p1)).trans p1
            have q0' := (HBW.out.cell (World.block_lt_of_cell? W0 _ q0)).trans q0
            have q1' := (HBW.out.cell (World.block_lt_of_cell? W0 _ q1)).trans q1
            have hlt0 := World.block_lt_of_cell? W0 _ p0
            obtain ⟨g, rfl, hfz⟩ : ∃ g, ad = ⟨g, 0, none⟩ ∧ ∀ o, wc.frozen? ⟨g, o, none⟩ = false := by
              rcases hROWx.2 with ⟨e, _⟩ | ⟨g, cap, cur, e, _, hg, _⟩
              · cases e
              · cases e; exact ⟨g, rfl, fun o => frozen_at hg o⟩
            simp only [addr_add, Nat.zero_add] at p0' p1' q0' q1' hlt0
            have fa0 := hfz (a * 2)
            have fa1 := hfz (a * 2 + 1)
            have fb0 := hfz (b * 2)
            have fb1 := hfz (b * 2 + 1)
            have HRX := Lib.hid hROWx
            obtain ⟨ne1, ne2, ne3⟩ := HNE.out
            have m1 : gx ≠ g := by omega
            have m3 : gy ≠ g := by omega
            have HNN := Lib.hid (And.intro ne1 (And.intro ne2 ne3))
            clear hROWx hfz ne1 ne2 ne3 hlt0 n0 n1 n2 n3 p0 p1 q0 q1
            by_cases hab : a = b
            · subst hab
              have hxy : xs = ys ∧ xn = yn := by
                have h1 := HAX.out
                rw [HBX.out] at h1
                cases h1
                exact ⟨rfl, rfl⟩
              obtain ⟨rfl, rfl⟩ := hxy
              clear q0' q1' fb0 fb1
              go_wp2_with fail
              go_region_held3 (fun W => W.cell? ⟨gx, 0, none⟩ = some (.string xs) ∧ W.cell? ⟨gx, 1, none⟩ = some (.int .i64 xn) ∧ W.cell? ⟨gy, 0, none⟩ = some (.string xs) ∧ W.cell? ⟨gy, 1, none⟩ = some (.int .i64 xn)) (exact ⟨farN (by first | rfl | exact (set_blk_eq m1).trans (set_blk_eq m1) | exact (set_blk_eq m1).trans ((set_blk_eq m1).trans ((set_blk_eq m1).trans (set_blk_eq m1)))) hX0, farN (by first | rfl | exact (set_blk_eq m1).trans (set_blk_eq m1) | exact (set_blk_eq m1).trans ((set_blk_eq m1).trans ((set_blk_eq m1).trans (set_blk_eq m1)))) hX1, farN (by first | rfl | exact (set_blk_eq m3).trans (set_blk_eq m3) | exact (set_blk_eq m3).trans ((set_blk_eq m3).trans ((set_blk_eq m3).trans (set_blk_eq m3)))) hY0, farN (by first | rfl | exact (set_blk_eq m3).trans (set_blk_eq m3) | exact (set_blk_eq m3).trans ((set_blk_eq m3).trans ((set_blk_eq m3).trans (set_blk_eq m3)))) hY1⟩) (fail)
              go_wp2_with fail
              obtain ⟨r1, r2⟩ := row_set2 (n := l.length) (by rw [← hml]; exact HRX.out) hml ha ha (xs, xn) (xs, xn)
              have HR9 := Lib.hid r1
              have HB9 := Lib.hid ((((((HB0.out.trans (HBW.out.mono HB0.out.size)).setCell (p := ⟨g, a * 2, none⟩) r2 (.string xs)).setCell (p := ⟨g, a * 2 + 1, none⟩) r2 (.int .i64 xn)).setCell (p := ⟨g, a * 2, none⟩) r2 (.string xs)).setCell (p := ⟨g, a * 2 + 1, none⟩) r2 (.int .i64 xn)).drew)
              have HP9 := Lib.hid ((swap_perm HAX.out HBX.out).trans HP.out)
              clear r1 r2
              go_roundw
              case rel => exact ⟨i + 1, swapL M a a (xs, xn) (xs, xn), by omega, by go_num, HR9, HP9, HB9⟩
              case measure => simp [intOf]; omega
            · go_wp2_with fail
              have e1 : a * 2 ≠ b * 2 := by omega
              have e2 : a * 2 ≠ b * 2 + 1 := by omega
              have e3 : a * 2 + 1 ≠ b * 2 := by omega
              have e4 : a * 2 + 1 ≠ b * 2 + 1 := by omega
              go_region_held3 (fun W => W.cell? ⟨gx, 0, none⟩ = some (.string xs) ∧ W.cell? ⟨gx, 1, none⟩ = some (.int .i64 xn) ∧ W.cell? ⟨gy, 0, none⟩ = some (.string ys) ∧ W.cell? ⟨gy, 1, none⟩ = some (.int .i64 yn)) (exact ⟨farN (by first | rfl | exact (set_blk_eq m1).trans (set_blk_eq m1) | exact (set_blk_eq m1).trans ((set_blk_eq m1).trans ((set_blk_eq m1).trans (set_blk_eq m1)))) hX0, farN (by first | rfl | exact (set_blk_eq m1).trans (set_blk_eq m1) | exact (set_blk_eq m1).trans ((set_blk_eq m1).trans ((set_blk_eq m1).trans (set_blk_eq m1)))) hX1, farN (by first | rfl | exact (set_blk_eq m3).trans (set_blk_eq m3) | exact (set_blk_eq m3).trans ((set_blk_eq m3).trans ((set_blk_eq m3).trans (set_blk_eq m3)))) hY0, farN (by first | rfl | exact (set_blk_eq m3).trans (set_blk_eq m3) | exact (set_blk_eq m3).trans ((set_blk_eq m3).trans ((set_blk_eq m3).trans (set_blk_eq m3)))) hY1⟩) (fail)
              go_wp2_with fail
              obtain ⟨r1, r2⟩ := row_set2 (n := l.length) (by rw [← hml]; exact HRX.out) hml ha hb (xs, xn) (ys, yn)
              have HR9 := Lib.hid r1
              have HB9 := Lib.hid ((((((HB0.out.trans (HBW.out.mono HB0.out.size)).setCell (p := ⟨g, a * 2, none⟩) r2 (.string ys)).setCell (p := ⟨g, a * 2 + 1, none⟩) r2 (.int .i64 yn)).setCell (p := ⟨g, b * 2, none⟩) r2 (.string xs)).setCell (p := ⟨g, b * 2 + 1, none⟩) r2 (.int .i64 xn)).drew)
              have HP9 := Lib.hid ((swap_perm HAX.out HBX.out).trans HP.out)
              clear r1 r2
              go_roundw
              case rel => exact ⟨i + 1, swapL M a b (xs, xn) (ys, yn), by omega, by go_num, HR9, HP9, HB9⟩
              case measure => simp [intOf]; omega
        · rcases Nat.lt_or_ge i bs.length with hlt | hge
          · have i1 : (i : Int) < (bs.length : Int) := by omega
            have hnp : ¬ (0 : Int) < (l.length : Int) := by omega
            clear hgo
            have hcap : l.length ≤ c7 ∧ c7 ≤ 9223372036854775807 := by
              rcases HR.out.2 with ⟨e, h0⟩ | ⟨g, cp, cur, e, _, hg, h5, h6, _⟩
              · injection e with e1 e2 e3; rw [e3, e2]; decide
              · injection e with e1 e2 e3; unfold maxLen at h6; rw [e3]; exact ⟨by omega, by omega⟩
            obtain ⟨cn, rfl⟩ := Int.eq_ofNat_of_zero_le cut0
            have hcv : IntKind.i64.wrap (cn : Int) = (cn : Int) := IntWalk.i64_in (cn : Int) ⟨by omega, by omega⟩
            have hl1 : (l.length : Int) + 1 = ((l.length + 1 : Nat) : Int) := by omega
            have hl201 : l.length ≤ 100 := hl100
            have hlv : IntKind.i64.wrap ((l.length : Int) + 1) = ((l.length + 1 : Nat) : Int) := (IntWalk.i64_in _ ⟨by omega, by omega⟩).trans hl1
            have hkm : (cn : Int) % ((l.length : Int) + 1) = ((cn % (l.length + 1) : Nat) : Int) := by push_cast; rfl
            have hkl : cn % (l.length + 1) ≤ l.length := Nat.le_of_lt_succ (Nat.mod_lt cn (Nat.succ_pos l.length))
            have hne : (((l.length + 1 : Nat) : Int) == 0) = false := beq_eq_false_iff_ne.2 (by omega)
            generalize cn % (l.length + 1) = k at *
            clear hl1
            have hparts : Parts (some ⟨wr.heap.size, 0, none⟩) [(A, cap, l)] (wr.alloc (.cells #[.slice A l.length cap] 77)) := by
              intro j x hx
              match j, hx with
              | 0, hx =>
                cases hx
                refine ⟨_, rfl, ?_, (HS.out.below (HB1.out.trans (HB.out.mono HB1.out.size))).below ((Below.refl _ wr).alloc (Nat.le_refl _) _)⟩
                rw [addr_add, Nat.zero_add, cell_at (heap_alloc_new wr _)]
                rfl
              | j + 1, hx => simp at hx
            have hjo : joinP [(A, cap, l)] = l := by simp [joinP]
            have HM := Lib.hid (merge_any (some ⟨wr.heap.size, 0, none⟩) 1 [(A, cap, l)] hparts (by simp) (by rw [hjo]; omega) (by rw [hjo]; exact HG.out))
            rw [hjo] at HM
            clear hparts hjo
            go_wp2_with fail
            refine HM.out.mono ?_
            rintro e w9 ⟨v9, rfl, n9, y9, b9⟩
            have HB9 := Lib.hid (HB.out.trans (((((Below.refl _ wr).alloc (Nat.le_refl _) _)).trans (b9.mono (by simp))).mono HB.out.size))
            have HN9 := Lib.hid n9
            have HY9 := Lib.hid y9
            have HR9 := Lib.hid (RowW.keep' HR.out (((Below.refl _ wr).alloc (Nat.le_refl _) _).trans (b9.mono (by simp))))
            clear n9 y9 b9 HM
            have k0 : (0 : Int) ≤ (k : Int) := by omega
            have k1 : (k : Int) ≤ (l.length : Int) := by omega
            have k2 : (k : Int) ≤ (c7 : Int) := by omega
            have k3 : (l.length : Int) ≤ (c7 : Int) := by omega
            go_wp2_with fail
            have hml := HP.out.length_eq
            have HTK := Lib.hid (show (M.take k).length = k by rw [List.length_take]; omega)
            have HDK := Lib.hid (show (M.drop k).length = l.length - k by rw [List.length_drop, hml])
            have HSR := Lib.hid (show SrcW w9 A7 M from SrcW.of_row (cap := c7) (by rw [hml]; exact HR9.out))
            have hfin : ∀ (x y : Int), (x = 0 ↔ y = 0) → ((x == 0) == (y == 0)) = true := fun x y h => by
              by_cases hx : x = 0
              · have hy := h.1 hx
                subst hx hy
                rfl
              · have hy : y ≠ 0 := fun hy => hx (h.2 hy)
                rw [beq_eq_false_iff_ne.2 hx, beq_eq_false_iff_ne.2 hy]
                rfl
            by_cases hA : A7 = none
            · subst hA
              obtain ⟨hz0, hc70⟩ : l.length = 0 ∧ c7 = 0 := by
                rcases HR9.out.2 with ⟨e, h0⟩ | ⟨g, cp, cur, e, _⟩
                · injection e with e1 e2 e3; exact ⟨e2, e3⟩
                · injection e with e1 e2 e3; cases e1
              obtain rfl : k = 0 := by omega
              subst hc70
              go_region_held3 (fun _ => True) (trivial) (first | (go_at_call 46; refine (merge3 (M := M) (k := 0) (P1 := none) (P3 := none) (by have : M = [] := List.length_eq_zero_iff.1 (by omega); subst this; exact srcw_nil) (by have : M = [] := List.length_eq_zero_iff.1 (by omega); subst this; exact srcw_nil) (by rw [List.length_take]; omega) (by rw [List.length_drop]; omega) (by omega) (fun x hx => HG.out x (HP.out.mem_iff.1 hx))).mono ?_; rintro e w10 ⟨v10, rfl, n10, y10, b10⟩; have HB10 := Lib.hid (HB9.out.trans (b10.mono HB9.out.size)); have HFIN := Lib.hid (fin_rows HP.out HN9.out HY9.out n10 y10 b10 hl100); have HEQ := Lib.hid (fin_eq HP.out); clear n10 y10 b10))
              all_goals (have hq := hfin _ _ HEQ.out; go_wp2_with fail; refine HFIN.out.mono ?_; rintro e w11 ⟨rfl, b11⟩; have HB11 := Lib.hid (HB1.out.trans ((HB10.out.trans (b11.mono HB10.out.size)).mono HB1.out.size)); clear b11; go_wp2_with fail; go_ret; exact ⟨rfl, HB11.out⟩)
            · obtain ⟨g, rfl⟩ : ∃ g, A7 = some ⟨g, 0, none⟩ := by
                rcases HR9.out.2 with ⟨e, h0⟩ | ⟨g, cp, cur, e, _⟩
                · injection e with e1 e2 e3; exact absurd e1 hA
                · injection e with e1 e2 e3; exact ⟨g, e1⟩
              by_cases hke : k = c7
              · subst hke
                go_region_held3 (fun _ => True) (trivial) (first | (go_at_call 46; refine (merge3 (M := M) (k := k) (P1 := some ⟨g, 0, none⟩) (P3 := some ⟨g, 0, none⟩) (srcw_take HSR.out k) (by rw [show M.drop k = [] from List.drop_eq_nil_of_le (by omega)]; exact srcw_nil) HTK.out (by rw [HDK.out]; omega) (by omega) (fun x hx => HG.out x (HP.out.mem_iff.1 hx))).mono ?_; rintro e w10 ⟨v10, rfl, n10, y10, b10⟩; have HB10 := Lib.hid (HB9.out.trans (b10.mono HB9.out.size)); have HFIN := Lib.hid (fin_rows HP.out HN9.out HY9.out n10 y10 b10 hl100); have HEQ := Lib.hid (fin_eq HP.out); clear n10 y10 b10))
                all_goals (have hq := hfin _ _ HEQ.out; go_wp2_with fail; refine HFIN.out.mono ?_; rintro e w11 ⟨rfl, b11⟩; have HB11 := Lib.hid (HB1.out.trans ((HB10.out.trans (b11.mono HB10.out.size)).mono HB1.out.size)); clear b11; go_wp2_with fail; go_ret; exact ⟨rfl, HB11.out⟩)
              · have hke2 : k < c7 := by omega
                have hke3 : ¬ c7 = k := by omega
                clear hke
                go_region_held3 (fun _ => True) (trivial) (first | (go_at_call 46; refine (merge3 (M := M) (k := k) (P1 := some ⟨g, 0, none⟩) (P3 := some ⟨g, k * 2, none⟩) (srcw_take HSR.out k) (srcw_drop HSR.out k) HTK.out HDK.out (by omega) (fun x hx => HG.out x (HP.out.mem_iff.1 hx))).mono ?_; rintro e w10 ⟨v10, rfl, n10, y10, b10⟩; have HB10 := Lib.hid (HB9.out.trans (b10.mono HB9.out.size)); have HFIN := Lib.hid (fin_rows HP.out HN9.out HY9.out n10 y10 b10 hl100); have HEQ := Lib.hid (fin_eq HP.out); clear n10 y10 b10))
                all_goals (have hq := hfin _ _ HEQ.out; go_wp2_with fail; refine HFIN.out.mono ?_; rintro e w11 ⟨rfl, b11⟩; have HB11 := Lib.hid (HB1.out.trans ((HB10.out.trans (b11.mono HB10.out.size)).mono HB1.out.size)); clear b11; go_wp2_with fail; go_ret; exact ⟨rfl, HB11.out⟩)
          · have i1 : ¬ (i : Int) < (bs.length : Int) := by omega
            clear hgo
            have hcap : l.length ≤ c7 ∧ c7 ≤ 9223372036854775807 := by
              rcases HR.out.2 with ⟨e, h0⟩ | ⟨g, cp, cur, e, _, hg, h5, h6, _⟩
              · injection e with e1 e2 e3; rw [e3, e2]; decide
              · injection e with e1 e2 e3; unfold maxLen at h6; rw [e3]; exact ⟨by omega, by omega⟩
            obtain ⟨cn, rfl⟩ := Int.eq_ofNat_of_zero_le cut0
            have hcv : IntKind.i64.wrap (cn : Int) = (cn : Int) := IntWalk.i64_in (cn : Int) ⟨by omega, by omega⟩
            have hl1 : (l.length : Int) + 1 = ((l.length + 1 : Nat) : Int) := by omega
            have hl201 : l.length ≤ 100 := hl100
            have hlv : IntKind.i64.wrap ((l.length : Int) + 1) = ((l.length + 1 : Nat) : Int) := (IntWalk.i64_in _ ⟨by omega, by omega⟩).trans hl1
            have hkm : (cn : Int) % ((l.length : Int) + 1) = ((cn % (l.length + 1) : Nat) : Int) := by push_cast; rfl
            have hkl : cn % (l.length + 1) ≤ l.length := Nat.le_of_lt_succ (Nat.mod_lt cn (Nat.succ_pos l.length))
            have hne : (((l.length + 1 : Nat) : Int) == 0) = false := beq_eq_false_iff_ne.2 (by omega)
            generalize cn % (l.length + 1) = k at *
            clear hl1
            have hparts : Parts (some ⟨wr.heap.size, 0, none⟩) [(A, cap, l)] (wr.alloc (.cells #[.slice A l.length cap] 77)) := by
              intro j x hx
              match j, hx with
              | 0, hx =>
                cases hx
                refine ⟨_, rfl, ?_, (HS.out.below (HB1.out.trans (HB.out.mono HB1.out.size))).below ((Below.refl _ wr).alloc (Nat.le_refl _) _)⟩
                rw [addr_add, Nat.zero_add, cell_at (heap_alloc_new wr _)]
                rfl
              | j + 1, hx => simp at hx
            have hjo : joinP [(A, cap, l)] = l := by simp [joinP]
            have HM := Lib.hid (merge_any (some ⟨wr.heap.size, 0, none⟩) 1 [(A, cap, l)] hparts (by simp) (by rw [hjo]; omega) (by rw [hjo]; exact HG.out))
            rw [hjo] at HM
            clear hparts hjo
            go_wp2_with fail
            refine HM.out.mono ?_
            rintro e w9 ⟨v9, rfl, n9, y9, b9⟩
            have HB9 := Lib.hid (HB.out.trans (((((Below.refl _ wr).alloc (Nat.le_refl _) _)).trans (b9.mono (by simp))).mono HB.out.size))
            have HN9 := Lib.hid n9
            have HY9 := Lib.hid y9
            have HR9 := Lib.hid (RowW.keep' HR.out (((Below.refl _ wr).alloc (Nat.le_refl _) _).trans (b9.mono (by simp))))
            clear n9 y9 b9 HM
            have k0 : (0 : Int) ≤ (k : Int) := by omega
            have k1 : (k : Int) ≤ (l.length : Int) := by omega
            have k2 : (k : Int) ≤ (c7 : Int) := by omega
            have k3 : (l.length : Int) ≤ (c7 : Int) := by omega
            go_wp2_with fail
            have hml := HP.out.length_eq
            have HTK := Lib.hid (show (M.take k).length = k by rw [List.length_take]; omega)
            have HDK := Lib.hid (show (M.drop k).length = l.length - k by rw [List.length_drop, hml])
            have HSR := Lib.hid (show SrcW w9 A7 M from SrcW.of_row (cap := c7) (by rw [hml]; exact HR9.out))
            have hfin : ∀ (x y : Int), (x = 0 ↔ y = 0) → ((x == 0) == (y == 0)) = true := fun x y h => by
              by_cases hx : x = 0
              · have hy := h.1 hx
                subst hx hy
                rfl
              · have hy : y ≠ 0 := fun hy => hx (h.2 hy)
                rw [beq_eq_false_iff_ne.2 hx, beq_eq_false_iff_ne.2 hy]
                rfl
            by_cases hA : A7 = none
            · subst hA
              obtain ⟨hz0, hc70⟩ : l.length = 0 ∧ c7 = 0 := by
                rcases HR9.out.2 with ⟨e, h0⟩ | ⟨g, cp, cur, e, _⟩
                · injection e with e1 e2 e3; exact ⟨e2, e3⟩
                · injection e with e1 e2 e3; cases e1
              obtain rfl : k = 0 := by omega
              subst hc70
              go_region_held3 (fun _ => True) (trivial) (first | (go_at_call 46; refine (merge3 (M := M) (k := 0) (P1 := none) (P3 := none) (by have : M = [] := List.length_eq_zero_iff.1 (by omega); subst this; exact srcw_nil) (by have : M = [] := List.length_eq_zero_iff.1 (by omega); subst this; exact srcw_nil) (by rw [List.length_take]; omega) (by rw [List.length_drop]; omega) (by omega) (fun x hx => HG.out x (HP.out.mem_iff.1 hx))).mono ?_; rintro e w10 ⟨v10, rfl, n10, y10, b10⟩; have HB10 := Lib.hid (HB9.out.trans (b10.mono HB9.out.size)); have HFIN := Lib.hid (fin_rows HP.out HN9.out HY9.out n10 y10 b10 hl100); have HEQ := Lib.hid (fin_eq HP.out); clear n10 y10 b10))
              all_goals (have hq := hfin _ _ HEQ.out; go_wp2_with fail; refine HFIN.out.mono ?_; rintro e w11 ⟨rfl, b11⟩; have HB11 := Lib.hid (HB1.out.trans ((HB10.out.trans (b11.mono HB10.out.size)).mono HB1.out.size)); clear b11; go_wp2_with fail; go_ret; exact ⟨rfl, HB11.out⟩)
            · obtain ⟨g, rfl⟩ : ∃ g, A7 = some ⟨g, 0, none⟩ := by
                rcases HR9.out.2 with ⟨e, h0⟩ | ⟨g, cp, cur, e, _⟩
                · injection e with e1 e2 e3; exact absurd e1 hA
                · injection e with e1 e2 e3; exact ⟨g, e1⟩
              by_cases hke : k = c7
              · subst hke
                go_region_held3 (fun _ => True) (trivial) (first | (go_at_call 46; refine (merge3 (M := M) (k := k) (P1 := some ⟨g, 0, none⟩) (P3 := some ⟨g, 0, none⟩) (srcw_take HSR.out k) (by rw [show M.drop k = [] from List.drop_eq_nil_of_le (by omega)]; exact srcw_nil) HTK.out (by rw [HDK.out]; omega) (by omega) (fun x hx => HG.out x (HP.out.mem_iff.1 hx))).mono ?_; rintro e w10 ⟨v10, rfl, n10, y10, b10⟩; have HB10 := Lib.hid (HB9.out.trans (b10.mono HB9.out.size)); have HFIN := Lib.hid (fin_rows HP.out HN9.out HY9.out n10 y10 b10 hl100); have HEQ := Lib.hid (fin_eq HP.out); clear n10 y10 b10))
                all_goals (have hq := hfin _ _ HEQ.out; go_wp2_with fail; refine HFIN.out.mono ?_; rintro e w11 ⟨rfl, b11⟩; have HB11 := Lib.hid (HB1.out.trans ((HB10.out.trans (b11.mono HB10.out.size)).mono HB1.out.size)); clear b11; go_wp2_with fail; go_ret; exact ⟨rfl, HB11.out⟩)
              · have hke2 : k < c7 := by omega
                have hke3 : ¬ c7 = k := by omega
                clear hke
                go_region_held3 (fun _ => True) (trivial) (first | (go_at_call 46; refine (merge3 (M := M) (k := k) (P1 := some ⟨g, 0, none⟩) (P3 := some ⟨g, k * 2, none⟩) (srcw_take HSR.out k) (srcw_drop HSR.out k) HTK.out HDK.out (by omega) (fun x hx => HG.out x (HP.out.mem_iff.1 hx))).mono ?_; rintro e w10 ⟨v10, rfl, n10, y10, b10⟩; have HB10 := Lib.hid (HB9.out.trans (b10.mono HB9.out.size)); have HFIN := Lib.hid (fin_rows HP.out HN9.out HY9.out n10 y10 b10 hl100); have HEQ := Lib.hid (fin_eq HP.out); clear n10 y10 b10))
                all_goals (have hq := hfin _ _ HEQ.out; go_wp2_with fail; refine HFIN.out.mono ?_; rintro e w11 ⟨rfl, b11⟩; have HB11 := Lib.hid (HB1.out.trans ((HB10.out.trans (b11.mono HB10.out.size)).mono HB1.out.size)); clear b11; go_wp2_with fail; go_ret; exact ⟨rfl, HB11.out⟩)
end Go.Proofs.Ythpdamkpefgmaaa.FreqOrder
