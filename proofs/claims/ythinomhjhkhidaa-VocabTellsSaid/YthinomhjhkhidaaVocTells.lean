/- VocabTells: of any merges whether any text is one of theirs, its depth, its uses, the longest texts of any word, and all texts, are what the document says, or there is none, and why. No condition. -/
import Derived.Test.YthinomhjhkhidaaVocRef3
import Derived.Test.YthinomhjhkhidaaKindsMerge
namespace Go.Proofs.Ythinomhjhkhidaa.VocTells
open Go.RowKit Go.Maps Go.ChangeShapes Go.WideShapes Go.Deep Go.Shelf Go.Proofs.YthinomhjhkhidaaW.PrintWords Go.Proofs.YthinomhjhkhidaaW.PrintLast Go.Proofs.YthinomhjhkhidaaW.PrintMore Base Foot ExtTail SymPure Kinds FilePure FileJoin SMap Src FileLaw RefFile Voc
set_option linter.unusedVariables false
set_option linter.unusedSimpArgs false
attribute [local go_sem] Oper.semAt_some
attribute [local go_sem ↓] Go.wp_at_zero Go.wp_at_succ
attribute [local go_sem] max2_int min2_int max_two min_two

theorem fs_eq (F : Nat) (f c : Array Value) (w : World) : (binOp .eql 42 (.func (.func F) f c) .nilFunc).run Try.prog w = .ok (.bool false) w := by kernel_rfl
theorem cells_own {W W' : World} {row : Option Nat} {D : Nat} (hg : W.grownBy W' row) (hr : ∀ r, row = some r → D ≤ r ∧ ∃ o : Obj, W.heap[r]? = some o ∧ o.isCells = false) {k : Nat} {arr : Array Value} {t : TypeId} {fz : Nat × Nat} (hk : W.heap[k]? = some (.cells arr t fz)) : W'.heap[k]? = W.heap[k]? :=
  hg.block k (block_lt hk) (fun e => by
    obtain ⟨_, o, ho, hc⟩ := hr k e.symm
    rw [hk] at ho; cases ho; cases hc)
theorem pre_next {zs pre : List ByteArray} {x : ByteArray} (h : pre <+: zs) (hx : zs[pre.length]? = some x) : (pre ++ [x]) <+: zs := by
  obtain ⟨t, rfl⟩ := h
  rw [List.getElem?_append_right (Nat.le_refl _), Nat.sub_self] at hx
  cases t with
  | nil => simp at hx
  | cons y t =>
    simp at hx
    subst hx
    exact ⟨t, by simp⟩
theorem pre_not {zs pre : List ByteArray} {x y : ByteArray} (hy : zs[pre.length]? = some y) (hne : x ≠ y) : ¬ (pre ++ [x]) <+: zs := by
  rintro ⟨t, rfl⟩
  simp at hy
  exact hne hy
set_option maxHeartbeats 6400000 in
set_option maxRecDepth 100000 in
theorem law_any (A : Option Addr) (cp : Nat) (l : List Mg) (text word : ByteArray) (w : World) (hr : Kd.C kSS w A l.length l) (hc : l.length ≤ cp) (hl : l.length ≤ maxLen) (ht : text.size ≤ maxLen) (hw : word.size ≤ maxLen) :
    Calls Try.prog 3 #[.slice A l.length cp, .string text, .string word] w fun e w' => e = .returned (.bool true) ∧ Below w.heap.size w w' := by
  unfold maxLen at ht hw
  have b0 : Below w.heap.size w (w.alloc (.cells #[.bool false] 4)) := (Below.refl _ _).alloc (Nat.le_refl _) _
  have k1 := heap_alloc_new w (.cells #[.bool false] 4)
  have hfq := fun f c W => fs_eq FV1 f c W
  refine (callsIn_wide (n := 20)).1 ?_
  refine callsIn_of_wp_marks Try.func3 rfl trivial ?_ rfl
  refine wpIn_wide.2 ?_
  simp only [Try.ntmps3, List.size_toArray, List.length_cons, List.length_nil, Nat.reduceAdd, Nat.reduceSub, Array.replicate_succ, Array.replicate_zero, List.push_toArray, List.append_toArray, List.nil_append, List.cons_append]
  go_wp2_with fail
  generalize w.alloc (.cells #[.bool false] 4) = w0 at *
  refine (awake_any _).mono ?_
  rintro e w1 ⟨rfl, b1⟩
  replace k1 := (b1.block _ (block_lt k1)).trans k1
  have b01 := b0.trans (b1.mono b0.size)
  have z1 := frozen_at k1 0
  have d1 := cell_at k1 0
  simp only [List.getElem?_toArray, List.getElem?_cons_zero] at d1
  have hr1 := Kd.C_below hr b01
  have hgr := great_any A cp l 60 w1 hr1 hl (by omega)
  have fin : ∀ (u : Bool), ((w1.setCell ⟨w.heap.size, 0, none⟩ (.bool u)).heap[w.heap.size]? = some (.cells #[.bool u] 4 (0, 0))) := fun u => by rw [set_at k1]; rfl
  have c5 := cell_at (fin true) 0
  simp only [List.getElem?_toArray, List.getElem?_cons_zero] at c5
  have hbT := b01.setCell (p := ⟨w.heap.size, 0, none⟩) (Nat.le_refl _) (.bool true)
  have HBT := Lib.hid hbT
  clear fin hbT
  cases hgb : greatB l 60 with
  | true =>
    rw [hgb] at hgr
    go_wp2_with fail
    refine hgr.mono ?_
    rintro e w2 ⟨rfl, rfl⟩
    go_wp2_with fail
    refine ⟨.bool true, ?_, rfl, HBT.out⟩
    simp [results, Try.f3, go_sem, c5]
  | false =>
    rw [hgb] at hgr
    by_cases htl : 300 < text.size
    · have htl2 : (300 : Int) < (text.size : Int) := by omega
      go_wp2_with fail
      refine hgr.mono ?_
      rintro e w2 ⟨rfl, rfl⟩
      go_wp2_with fail
      refine ⟨.bool true, ?_, rfl, HBT.out⟩
      simp [results, Try.f3, go_sem, c5]
    · have htl2 : ¬ (300 : Int) < (text.size : Int) := by omega
      have htb : decide ((300 : Int) < (text.size : Int)) = false := decide_eq_false htl2
      by_cases hwl : 300 < word.size
      · have hwl2 : (300 : Int) < (word.size : Int) := by omega
        go_wp2_with fail
        refine hgr.mono ?_
        rintro e w2 ⟨rfl, rfl⟩
        go_wp2_with fail
        refine ⟨.bool true, ?_, rfl, HBT.out⟩
        simp [results, Try.f3, go_sem, c5]
      · have hwl2 : ¬ (300 : Int) < (word.size : Int) := by omega
        have hwb : decide ((300 : Int) < (word.size : Int)) = false := decide_eq_false hwl2
        have HG2 := Lib.hid (show ∀ m ∈ l, m.1.size ≤ 300 ∧ m.2.size ≤ 300 from fun m hm => by
          unfold greatB at hgb
          rw [Bool.or_eq_false_iff, List.any_eq_false] at hgb
          have := hgb.1 m hm
          unfold longM at this
          simp at this
          omega)
        have HL2 := Lib.hid (show l.length ≤ 60 by
          unfold greatB at hgb
          rw [Bool.or_eq_false_iff] at hgb
          have := of_decide_eq_false hgb.2
          omega)
        have HR0 := Lib.hid hr
        have hK1 := Lib.hid k1
        have HB := Lib.hid b01
        have hsz1 := block_lt k1
        go_wp2_with fail
        refine hgr.mono ?_
        rintro e w2 ⟨rfl, rfl⟩
        clear hgr
        have hnew := new_any A cp l w2 hr1 (fun m hm => by have := (HG2.out m hm); omega) (by have := HL2.out; omega)
        obtain ⟨ce, hce⟩ : ∃ ce, (chk [] l).2 = ce := ⟨_, rfl⟩
        rw [hce] at hnew
        have HCE := Lib.hid hce
        clear hce b0 b01 b1 hr hr1 d1 z1 c5 HBT k1
        go_wp2_with fail
        refine hnew.mono ?_
        rintro e w4 ⟨v, rfl, b4, hno, hyes⟩
        clear hnew
        have HB4 := Lib.hid (HB.out.trans (b4.mono HB.out.size))
        have HK4 := Lib.hid ((b4.block _ (block_lt hK1.out)).trans hK1.out)
        have hrc := rcheck_any A cp l w4 (Kd.C_below HR0.out HB4.out) hc (fun m hm => by have := (HG2.out m hm); omega) (by have := HL2.out; omega)
        rw [HCE.out] at hrc
        clear b4
        go_wp2_with fail
        refine hrc.mono ?_
        rintro e w5 ⟨rfl, n5, rfl⟩
        have HB5 := Lib.hid (HB4.out.trans (bdrew _ _ n5))
        have HK5 := Lib.hid (show (w4.drewN n5).heap[w.heap.size]? = some (.cells #[.bool false] 4 (0, 0)) from HK4.out)
        clear hrc
        by_cases h0 : ce = 0
        · subst h0
          obtain ⟨b, md, mu, rfl, hV⟩ := hyes rfl
          have HV := Lib.hid (hV.below (bdrew _ w4 n5))
          clear hno hyes hV
          generalize w4.drewN n5 = w6 at *
          have hh := has_any HV.out text (ss_small (by omega))
          have hrh := rhas_any text A cp l w6 (Kd.C_below HR0.out HB5.out) (fun m hm => by have := (HG2.out m hm); omega) (by have := HL2.out; omega)
          generalize sideB text l = sb at hh hrh
          have hdd := fun n => depth_any (HV.out.below (bdrew _ w6 n)) text (ss_small (by omega))
          have hrd := fun n => rdepth_any 60 l text A cp (w6.drewN n) (by have := HL2.out; omega) (by omega) (Kd.C_drewN (Kd.C_below HR0.out HB5.out) n) hc (fun m hm => by have := (HG2.out m hm); omega)
          rw [rdep_eq l (rt_of HCE.out) 60 (by have := HL2.out; omega) text] at hrd
          generalize depV (vD l) text = dv at hdd hrd
          have hus := fun n => uses_any (HV.out.below (bdrew _ w6 n)) text (ss_small (by omega))
          have hru := fun n => ruses_any text A cp l (w6.drewN n) (Kd.C_drewN (Kd.C_below HR0.out HB5.out) n) (by have := HL2.out; omega)
          generalize usesN l text = uv at hus hru
          have hln := fun n => Voc.len_any (HV.out.below (bdrew _ w6 n))
          have hVl := (vD_len (m := l) HCE.out l.length (Nat.le_refl _)).1
          rw [List.take_length] at hVl
          rw [hVl] at hln
          have hlg := fun n => longest_any (HV.out.below (bdrew _ w6 n)) word (by omega)
          have hrl := fun (W : World) (hb : Below w6.heap.size w6 W) => rlongest_any A cp l W (Kd.C_below HR0.out (HB5.out.trans (hb.mono HB5.out.size))) (fun m hm => by have := (HG2.out m hm); omega) (by have := HL2.out; omega) word (by omega)
          obtain ⟨L, hL⟩ : ∃ L, longL (fun s => sideB s l) word = L := ⟨_, rfl⟩
          have hLc := (longL_cat (fun s => sideB s l) word.size word (Nat.le_refl _)).2.1
          rw [hL] at hLc
          rw [hL] at hlg hrl
          have HLC := Lib.hid (show L.length ≤ 300 by omega)
          have HVL := Lib.hid hVl
          have HH := Lib.hid hh
          have HRH := Lib.hid hrh
          have HDD := Lib.hid hdd
          have HRD := Lib.hid hrd
          have HUS := Lib.hid hus
          have HRU := Lib.hid hru
          have HLN := Lib.hid hln
          have HLG := Lib.hid hlg
          have HRL := Lib.hid hrl
          have hw9 : IntKind.i64.wrap (256 + (l.length : Int)) = 256 + (l.length : Int) := IntWalk.i64_in _ (by have := HL2.out; omega)
          clear hh hrh hdd hrd hus hru hln hlg hrl hVl hL hLc
          go_wp2_with (first
            | (go_at_call 12; refine HH.out.mono ?_; rintro e w7 ⟨rfl, rfl⟩)
            | (go_at_call 13; refine HRH.out.mono ?_; rintro e w7 ⟨rfl, n7, rfl⟩)
            | (go_at_call 14; refine (HDD.out _).mono ?_; rintro e w8 ⟨rfl, rfl⟩)
            | (go_at_call 15; refine (HRD.out _).mono ?_; rintro e w9 ⟨rfl, m9, hw9'⟩; rw [World.drewN_drewN] at hw9'; subst hw9')
            | (go_at_call 16; refine (HUS.out _).mono ?_; rintro e wA ⟨rfl, rfl⟩)
            | (go_at_call 17; refine (HRU.out _).mono ?_; rintro e wA ⟨rfl, rfl⟩)
            | (go_at_call 18; refine (HLN.out _).mono ?_; rintro e wA ⟨rfl, rfl⟩))
          refine (HLG.out _).mono ?_
          rintro e wB ⟨lv, rfl, hrow, bB⟩
          obtain ⟨A3, c3, rfl⟩ := slcT hrow
          have bB2 := (bdrew _ w7 _).trans bB
          have HROW := Lib.hid hrow
          have HBB := Lib.hid bB2
          clear hrow bB bB2
          go_wp2_with fail
          refine (HRL.out _ HBB.out).mono ?_
          rintro e wC ⟨lv, rfl, hrow2, bC⟩
          obtain ⟨A4, c4, rfl⟩ := slcT hrow2
          have hty := texts_yes A3 A4 c3 c4 L wC ((Src.of_own HROW.out).below bC) (Src.of_own hrow2) (by have := HLC.out; omega)
          have HBC := Lib.hid (HBB.out.trans (bC.mono HBB.out.size))
          clear hrow2 bC
          go_wp2_with fail
          refine hty.mono ?_
          rintro e wD ⟨rfl, bD⟩
          have HBD := Lib.hid (HBC.out.trans (bD.mono HBC.out.size))
          have HB8 := Lib.hid (HB5.out.trans (HBD.out.mono HB5.out.size))
          have HV8 := Lib.hid (HV.out.below HBD.out)
          have HKD := Lib.hid ((HBD.out.block _ (block_lt HK5.out)).trans HK5.out)
          have hrt := rtexts_any A cp l wD (Kd.C_below HR0.out HB8.out) (fun m hm => by have := (HG2.out m hm); omega) (by have := HL2.out; omega)
          clear hty bD
          go_wp2_with fail
          refine hrt.mono ?_
          rintro e wE ⟨wv, rfl, hrowW, bE⟩
          have HWL := Lib.hid (want_len l)
          obtain ⟨W8, hW8⟩ : ∃ W8, wantL l = W8 := ⟨_, rfl⟩
          have HW8 := Lib.hid hW8
          rw [hW8] at hrowW
          clear hrt hW8
          obtain ⟨A5, c5, rfl⟩ := slcT hrowW
          have bF := bE.alloc bE.size (.cells #[.slice A5 W8.length c5] 37)
          have kF := heap_alloc_new wE (.cells #[.slice A5 W8.length c5] 37)
          have HROWF := Lib.hid (own_keep (w1 := wE.alloc (.cells #[.slice A5 W8.length c5] 37)) hrowW (fun q hq => Below.heap_alloc _ _ _ (hrowW.lt q hq).2))
          have htx := texts_any (HV8.out.below bF) (by rw [HVL.out]; have := HL2.out; omega)
          have HKF := Lib.hid kF
          have HKG := Lib.hid ((bF.block _ (block_lt HKD.out)).trans HKD.out)
          have HBF := Lib.hid (HB8.out.trans (bF.mono HB8.out.size))
          have heF : wE.heap.size < (wE.alloc (.cells #[.slice A5 W8.length c5] 37)).heap.size := by simp
          have HEF := Lib.hid heF
          clear hrowW bE bF kF heF
          go_wp2_with fail
          generalize wE.alloc (.cells #[.slice A5 W8.length c5] 37) = wF at *
          generalize wE.heap.size = bf at *
          refine htx.mono ?_
          rintro e wG ⟨bx, v, ks, rfl, hS, hbx, hcb, hStr, hob, b7⟩
          have hkw := keys_want HCE.out hS
          rw [HW8.out] at hkw
          rw [hkw] at hStr
          have k6 := heap_alloc_new wG (.cells #[.int .i64 0] 3)
          have b6 := (Below.refl _ wG).alloc (Nat.le_refl _) (.cells #[.int .i64 0] 3)
          have HK6 := Lib.hid k6
          have HSTR := Lib.hid (hStr.below b6)
          have HCB := Lib.hid (show (wG.alloc (.cells #[.int .i64 0] 3)).cell? ⟨bx, 0, none⟩ = some v from (World.cell?_alloc_lt _ _ _ hbx).trans hcb)
          have HBX := Lib.hid (show bx < (wG.alloc (.cells #[.int .i64 0] 3)).heap.size by simp; omega)
          have HVB := Lib.hid (show ∀ q, v.ownBlock = some q → q < wG.heap.size from hStr.lt)
          have HB7 := Lib.hid b7
          have hs6 : (wG.alloc (.cells #[.int .i64 0] 3)).heap.size = wG.heap.size + 1 := by simp
          have HS6 := Lib.hid hs6
          have HB6 := Lib.hid b6
          clear htx hS hbx hcb hStr hob b7 k6 b6 hkw hs6
          go_wp2_with fail
          generalize wG.alloc (.cells #[.int .i64 0] 3) = wH at *
          have h6s := HS6.out
          have hBG := HBF.out.trans (HB7.out.mono HBF.out.size)
          have hKG := (hBG.size)
          have HBG := Lib.hid hBG
          have hlB := block_lt hK1.out
          have kB0 := HB5
          have HKB := Lib.hid ((HB7.out.block _ (block_lt HKG.out)).trans HKG.out)
          have HKW := Lib.hid ((HB7.out.block _ (block_lt HKF.out)).trans HKF.out)
          have HRW := Lib.hid (own_keep (w1 := wG) HROWF.out (fun q hq => HB7.out.block q (HROWF.out.lt q hq).2))
          have hWl : W8.length ≤ 1000 := by rw [← HW8.out, HWL.out]; have := HL2.out; omega
          refine (wpIn_wide (n := 20)).1 ?_
          refine wpIn_rangeFunc_ownG (F := Fence.wide) rfl (by omega) rfl trivial (enters_of Try.func67 (by kernel_rfl) rfl) (values_stops Fence.wide 19 trivial rfl (by omega) bx v W8 (by omega) wH HBX.out HCB.out HSTR.out) kb_t (fun W l o o' hl _ _ _ => kb_b HSTR.out.lt W l o o' hl) (Below.refl _ _) (fun _ => rfl)
            (fun pre W => W.heap[wG.heap.size]? = some (.cells #[.int .i64 (pre.length : Int)] 3 (0, 0)) ∧ Below wG.heap.size wG W ∧ pre <+: W8)
            (fun c pre W => ¬ pre <+: W8) ?own ?ownx ⟨HK6.out, HB6.out, List.nil_prefix⟩ ?a1 ?assign ?body ?done ?stop
          case own => exact fun s X Y row h hg hr => ⟨(cells_own hg hr h.1).trans h.1, ownFrom_below (n₀ := wG.heap.size) (Nat.le_refl _) (by omega) s X Y row h.2.1 hg hr, h.2.2⟩
          case ownx => exact fun c s X Y row h hg hr => h
          case assign =>
            intro l x W K hK
            gi_wp2
            exact hK
          case stop =>
            rintro D2 c pre W2 hD2 hpre hno hdef2
            exact absurd hpre hno
          case body =>
            rintro l' pre x W2 ⟨kc, hb, hle⟩ hlt2
            have d0 := cell_at kc 0
            have e0 := frozen_at kc 0
            have kw := (hb.block _ (block_lt HKW.out)).trans HKW.out
            have f0 := cell_at kw 0
            have hkb := (hb.block _ (block_lt HKB.out)).trans HKB.out
            have rb0 := cell_at hkb 0
            have rz0 := frozen_at hkb 0
            have hx := List.getElem?_eq_getElem hlt2
            have hrw := own_keep (w1 := W2) HRW.out (fun q hq => hb.block q (HRW.out.lt q hq).2)
            obtain ⟨y, hy⟩ : ∃ y, W8[pre.length] = y := ⟨_, rfl⟩
            rw [hy] at hx
            obtain ⟨ad8, cap8, e8, hcap, y0, _⟩ := own_at (f := encT) (sz := 1) (fun _ => rfl) hrw (by omega) hx
            cases e8
            have y1 := y0 _ rfl
            rw [Nat.mul_one] at y1
            simp only [List.getElem?_toArray, List.getElem?_cons_zero] at d0 f0 rb0
            have h0p : (0 : Int) ≤ (pre.length : Int) := by omega
            have h1p : (pre.length : Int) < (W8.length : Int) := by omega
            have h1q : ¬ (W8.length : Int) ≤ (pre.length : Int) := by omega
            have h1r : ¬ W8.length ≤ pre.length := by omega
            have hvne : ∀ q, v.ownBlock = some q → q ≠ wG.heap.size := fun q e => by have := HVB.out q e; omega
            have HKP := Lib.hid (show KB v.ownBlock W2 (W2.setCell ⟨wG.heap.size, 0, none⟩ (.int .i64 ((pre.length : Int) + 1))) from fun q e => Below.heap_setCell _ _ _ _ (hvne q e))
            have HKO := Lib.hid (KeepsOthers.setCell W2 ⟨wG.heap.size, 0, none⟩ (.int .i64 ((pre.length : Int) + 1)))
            have HKR := Lib.hid (KeepsOthers.setCell W2 ⟨w.heap.size, 0, none⟩ (.bool false))
            have HBS := Lib.hid (hb.setCell (p := ⟨wG.heap.size, 0, none⟩) (Nat.le_refl _) (.int .i64 ((pre.length : Int) + 1)))
            have HKC := Lib.hid (show (W2.setCell ⟨wG.heap.size, 0, none⟩ (.int .i64 ((pre.length : Int) + 1))).heap[wG.heap.size]? = some (.cells #[.int .i64 ((pre.length : Int) + 1)] 3 (0, 0)) by rw [set_at kc]; rfl)
            have HX8 := Lib.hid hx
            have HLE := Lib.hid hle
            clear kc hb kw hkb hrw y0 hvne hx hle hy
            by_cases hxy : x = y
            · have hq : (x.toList == y.toList) = true := by rw [beq_toList]; exact decide_eq_true hxy
              have HN := Lib.hid (show (pre ++ [x]) <+: W8 from pre_next HLE.out (by rw [hxy]; exact HX8.out))
              clear hxy
              gi_wp2
              exact ⟨HKO.out.from _, HKP.out, by have := HKC.out; simpa using this, HBS.out, HN.out⟩
            · have hq : (x.toList == y.toList) = false := by rw [beq_toList]; exact decide_eq_false hxy
              have HN := Lib.hid (show ¬ (pre ++ [x]) <+: W8 from pre_not HX8.out hxy)
              clear hxy
              gi_wp2
              exact ⟨HKR.out.from _, HN.out⟩
          case done =>
            rintro D2 xs W2 hD2 rfl ⟨kc, hb, hle⟩ hdef2
            have d0 := cell_at kc 0
            have kw := (hb.block _ (block_lt HKW.out)).trans HKW.out
            have f0 := cell_at kw 0
            have k1 := (hb.block _ (block_lt HKB.out)).trans HKB.out
            have z1 := frozen_at k1 0
            have d1 := cell_at k1 0
            simp only [List.getElem?_toArray, List.getElem?_cons_zero] at d0 f0 d1
            have hbw := HBG.out.trans (hb.mono HBG.out.size)
            have HBW := Lib.hid hbw
            have K1 := Lib.hid k1
            have HDF := Lib.hid hdef2
            have hbe : ((xs.length : Int) == (xs.length : Int)) = true := by simp
            clear kc hb kw k1 hbw hdef2
            go_wp2_with fail
            try simp only [beq_self_eq_true]
            have hDw2 : D2 ≠ w.heap.size := fun e => by
              have h1 := HDF.out
              rw [e, K1.out] at h1
              cases h1
            have e3 := set_blk (p := ⟨w.heap.size, 0, none⟩) (v := .bool true) HDF.out hDw2
            have e4 : (W2.setCell ⟨w.heap.size, 0, none⟩ (.bool true)).heap[w.heap.size]? = some (.cells #[.bool true] 4 (0, 0)) := by rw [set_at K1.out]; rfl
            have e5 : ((W2.setCell ⟨w.heap.size, 0, none⟩ (.bool true)).putObj D2 (.deferred none)).heap[w.heap.size]? = some (.cells #[.bool true] 4 (0, 0)) := (World.putObj_heap_other (fun e => hDw2 e.symm)).trans e4
            have c5 := cell_at e5 0
            simp only [List.getElem?_toArray, List.getElem?_cons_zero] at c5
            refine ⟨by simp, .inl ⟨_, _, rfl, run_takeDeferred e3, ?_⟩⟩
            refine ⟨.bool true, ?_, rfl, (HBW.out.setCell (Nat.le_refl _) _).trans (belowK_b (w := wH) (by omega) _ D2 _ _ hD2 e3 rfl rfl)⟩
            simp [results, Try.f3, go_sem, c5]
        · have hne : (ce != 0) = true := by simpa using h0
          obtain rfl := hno h0
          have z1 := frozen_at HK5.out 0
          have d1 := cell_at HK5.out 0
          simp only [List.getElem?_toArray, List.getElem?_cons_zero] at d1
          have fin : ((w4.drewN n5).setCell ⟨w.heap.size, 0, none⟩ (.bool true)).heap[w.heap.size]? = some (.cells #[.bool true] 4 (0, 0)) := by rw [set_at HK5.out]; rfl
          have c5 := cell_at fin 0
          simp only [List.getElem?_toArray, List.getElem?_cons_zero] at c5
          clear hno hyes
          go_wp2_with fail
          refine ⟨.bool true, ?_, rfl, HB5.out.setCell (Nat.le_refl _) _⟩
          simp [results, Try.f3, go_sem, c5]
theorem walk (W : World) (A : Option Addr) (cp : Nat) (l : List (ByteArray × ByteArray)) (hr : Kd.C kSS W A l.length l) (hc : l.length ≤ cp) (hg : ∀ x ∈ l, True) (hs : l.length * 32 ≤ reachBytes) (text : ByteArray) (ht : text.size ≤ 140737488351232) (word : ByteArray) (hw : word.size ≤ 140737488351232) :
    Calls Try.prog 3 #[.slice A l.length cp, .string text, .string word] W fun e w' => e = .returned (.bool true) ∧ Below W.heap.size W w' :=
  law_any A cp l text word W hr hc (by unfold reachBytes at hs; unfold maxLen; omega) (by unfold maxLen; omega) (by unfold maxLen; omega)
end Go.Proofs.Ythinomhjhkhidaa.VocTells
