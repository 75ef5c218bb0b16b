/- VocabWhole: the longest texts of a word are texts of the vocabulary, and, one behind the other, the word; a nil vocabulary has nothing. No condition. -/
import Derived.Test.YthinomhjhkhidaaVocLaw
import Derived.Test.YthinomhjhkhidaaKindsMerge
import Derived.StillTailTactics
namespace Go.Proofs.Ythinomhjhkhidaa.VocWhole
open Go.RowKit Go.Maps Go.ChangeShapes Go.WideShapes Go.Deep Go.Shelf Go.Proofs.YthinomhjhkhidaaW.PrintWords Go.Proofs.YthinomhjhkhidaaW.PrintLast Go.Proofs.YthinomhjhkhidaaW.PrintMore Base Foot ExtTail SymPure Kinds FilePure FileJoin SMap Src FileLaw RefFile Voc
set_option linter.unusedVariables false
set_option linter.unusedSimpArgs false
attribute [local go_sem] Oper.semAt_some
attribute [local go_sem ↓] Go.wp_at_zero Go.wp_at_succ
attribute [local go_sem] max2_int min2_int max_two min_two

theorem fs_eq (F : Nat) (f c : Array Value) (w : World) : (binOp .eql 42 (.func (.func F) f c) .nilFunc).run Try.prog w = .ok (.bool false) w := by kernel_rfl
theorem cells_own {W W' : World} {row : Option Nat} {D : Nat} (hg : W.grownBy W' row) (hr : ∀ r, row = some r → D ≤ r ∧ ∃ o : Obj, W.heap[r]? = some o ∧ o.isCells = false) {k : Nat} {arr : Array Value} {t : TypeId} {fz : Nat × Nat} (hk : W.heap[k]? = some (.cells arr t fz)) : W'.heap[k]? = W.heap[k]? :=
  hg.block k (block_lt hk) (fun e => by
    obtain ⟨_, o, ho, hc⟩ := hr k e.symm
    rw [hk] at ho; cases ho; cases hc)
set_option maxHeartbeats 800000 in
set_option maxRecDepth 100000 in
/-- the iterator of no text -/
theorem none_stops (F : Fence) (n : Nat) (h7 : F.fn FN1) (hro : F.round = none) (Kp : World → World → Prop) (w : World) :
    SeqStopsK F n Try.prog FN1 #[] (fun x : ByteArray => #[Value.string x]) Kp (fun ys => ys = []) (fun _ => False) 0 w := fun l J Jx W hW _ _ hY h0 => by
  refine callsIn_of_wp Try.func44 rfl h7 ?_ hro
  simp only [Try.ntmps44, List.size_toArray, List.length_cons, List.length_nil, Nat.reduceAdd, Nat.reduceSub, Array.replicate_succ, Array.replicate_zero, List.push_toArray, List.append_toArray, List.nil_append, List.cons_append]
  gi_wp2
  refine bodyPost_end (results_none rfl _ _ _) rfl ?_
  exact ⟨⟨_, rfl⟩, h0⟩
theorem foldl_cat (L : List ByteArray) : ∀ a : ByteArray, L.foldl (· ++ ·) a = a ++ L.foldr (· ++ ·) ByteArray.empty := by
  induction L with
  | nil => intro a; exact (ByteArray.append_empty).symm
  | cons x t ih => intro a; rw [List.foldl_cons, ih, List.foldr_cons, ByteArray.append_assoc]
set_option maxHeartbeats 6400000 in
set_option maxRecDepth 100000 in
theorem law_any (A : Option Addr) (cp : Nat) (l : List Mg) (word : ByteArray) (few : Nat) (w : World) (hr : Kd.C kSS w A l.length l) (hl : l.length ≤ maxLen) (hw : word.size ≤ maxLen) (hf : few ≤ 255) :
    Calls Try.prog 4 #[.slice A l.length cp, .string word, .int .u8 (few : Int)] w fun e w' => e = .returned (.bool true) ∧ Below w.heap.size w w' := by
  unfold maxLen at hw
  have b0 : Below w.heap.size w ((w.alloc (.cells #[.int .u8 (few : Int)] 5)).alloc (.cells #[.bool false] 4)) := ((Below.refl _ _).alloc (Nat.le_refl _) _).alloc (by simp) _
  have k0 := alloc_blk (x := .cells #[.bool false] 4) (heap_alloc_new w (.cells #[.int .u8 (few : Int)] 5))
  have k1 : ((w.alloc (.cells #[.int .u8 (few : Int)] 5)).alloc (.cells #[.bool false] 4)).heap[w.heap.size + 1]? = some (.cells #[.bool false] 4 (0, 0)) := by
    have := heap_alloc_new (w.alloc (.cells #[.int .u8 (few : Int)] 5)) (.cells #[.bool false] 4)
    simpa using this
  have hfq := fun f c W => fs_eq FN1 f c W
  refine (callsIn_wide (n := 20)).1 ?_
  refine callsIn_of_wp_marks Try.func4 rfl trivial ?_ rfl
  refine wpIn_wide.2 ?_
  simp only [Try.ntmps4, List.size_toArray, List.length_cons, List.length_nil, Nat.reduceAdd, Nat.reduceSub, Array.replicate_succ, Array.replicate_zero, List.push_toArray, List.append_toArray, List.nil_append, List.cons_append]
  go_wp2_with fail
  generalize (w.alloc (.cells #[.int .u8 (few : Int)] 5)).alloc (.cells #[.bool false] 4) = w0 at *
  refine (awake_any _).mono ?_
  rintro e w1 ⟨rfl, b1⟩
  replace k0 := (b1.block _ (block_lt k0)).trans k0
  replace k1 := (b1.block _ (block_lt k1)).trans k1
  have b01 := b0.trans (b1.mono b0.size)
  have hr1 := Kd.C_below hr b01
  have z1 := frozen_at k1 0
  have d1 := cell_at k1 0
  simp only [List.getElem?_toArray, List.getElem?_cons_zero] at d1
  have hgr := great_any A cp l 60 w1 hr1 hl (by omega)
  have fin : ∀ (u : Bool), ((w1.setCell ⟨w.heap.size + 1, 0, none⟩ (.bool u)).heap[w.heap.size + 1]? = some (.cells #[.bool u] 4 (0, 0))) := fun u => by rw [set_at k1]; rfl
  cases hgb : greatB l 60 with
  | true =>
    rw [hgb] at hgr
    go_wp2_with fail
    refine hgr.mono ?_
    rintro e w2 ⟨rfl, rfl⟩
    go_wp2_with fail
    have c5 := cell_at (fin true) 0
    simp only [List.getElem?_toArray, List.getElem?_cons_zero] at c5
    refine ⟨.bool true, ?_, rfl, b01.setCell (by show w.heap.size ≤ w.heap.size + 1; omega) _⟩
    simp [results, Try.f4, go_sem, c5]
  | false =>
    rw [hgb] at hgr
    by_cases hwl : 300 < word.size
    · have hwl2 : (300 : Int) < (word.size : Int) := by omega
      go_wp2_with fail
      refine hgr.mono ?_
      rintro e w2 ⟨rfl, rfl⟩
      go_wp2_with fail
      have c5 := cell_at (fin true) 0
      simp only [List.getElem?_toArray, List.getElem?_cons_zero] at c5
      refine ⟨.bool true, ?_, rfl, b01.setCell (by show w.heap.size ≤ w.heap.size + 1; omega) _⟩
      simp [results, Try.f4, go_sem, c5]
    · have hwl2 : ¬ (300 : Int) < (word.size : Int) := by omega
      have hwb : decide ((300 : Int) < (word.size : Int)) = false := decide_eq_false hwl2
      go_wp2_with fail
      refine hgr.mono ?_
      rintro e w2 ⟨rfl, rfl⟩
      clear hgr
      go_wp2_with (first
        | (go_at_call 12; refine (has_nil _ word).mono ?_; rintro e w3 ⟨rfl, rfl⟩)
        | (go_at_call 14; refine (depth_nil _ word).mono ?_; rintro e w3 ⟨rfl, rfl⟩)
        | (go_at_call 20; refine (longest_nil _ word).mono ?_; rintro e w3 ⟨rfl, rfl⟩)
        | (go_at_call 16; refine (uses_nil _ word).mono ?_; rintro e w3 ⟨rfl, rfl⟩)
        | (go_at_call 23; refine (texts_nil _).mono ?_; rintro e w3 ⟨rfl, rfl⟩)
        | (go_at_call 18; refine (Voc.len_nil _).mono ?_; rintro e w3 ⟨rfl, rfl⟩))
      have HG2 := Lib.hid (show ∀ m ∈ l, m.1.size ≤ 300 ∧ m.2.size ≤ 300 from fun m hm => by
        unfold greatB at hgb
        rw [Bool.or_eq_false_iff, List.any_eq_false] at hgb
        have := hgb.1 m hm
        unfold longM at this
        simp at this
        omega)
      have HL2 := Lib.hid (show l.length ≤ 60 by
        unfold greatB at hgb
        rw [Bool.or_eq_false_iff] at hgb
        have := of_decide_eq_false hgb.2
        omega)
      have HR0 := Lib.hid hr
      have hK1 := Lib.hid k1
      have hK0 := Lib.hid k0
      have HB := Lib.hid b01
      have HR := Lib.hid hr1
      have hsz1 := block_lt k1
      clear k1 k0 b01 hr1 hr z1 d1 fin b1 b0
      refine (wpIn_wide (n := 20)).1 ?_
      refine wpIn_rangeFunc_ownG (F := Fence.wide) rfl (by omega) rfl trivial (enters_of Try.func44 (by kernel_rfl) rfl) (none_stops Fence.wide 19 trivial rfl (fun _ _ => True) w3) (fun _ _ => trivial) (fun _ _ _ _ _ _ _ _ => trivial) (Below.refl _ _) (fun _ => rfl)
        (fun _ W => W.heap[w.heap.size]? = some (.cells #[.int .u8 (few : Int)] 5 (0, 0)) ∧ W.heap[w.heap.size + 1]? = some (.cells #[.bool false] 4 (0, 0)) ∧ Below w.heap.size w W)
        (fun _ _ _ => False) ?own ?ownx ⟨hK0.out, hK1.out, HB.out⟩ ?a1 ?assign ?body ?done ?stop
      case own => exact fun s X Y row h hg hr => ⟨(cells_own hg hr h.1).trans h.1, (cells_own hg hr h.2.1).trans h.2.1, ownFrom_below (n₀ := w.heap.size) (Nat.le_refl _) (by omega) s X Y row h.2.2 hg hr⟩
      case ownx => exact fun c s X Y row h hg hr => h
      case assign =>
        intro l x W K hK
        gi_wp2
        exact hK
      case body => exact fun l pre x W _ h => absurd h (Nat.not_lt_zero _)
      case stop => exact fun D c pre W _ h => h.elim
      case done =>
        rintro D xs W hD rfl ⟨q0, q1, qb⟩ hdef
        have hnew := new_any A cp l W (Kd.C_below HR0.out qb) (fun m hm => by have := (HG2.out m hm); omega) (by have := HL2.out; omega)
        obtain ⟨ce, hce⟩ : ∃ ce, (chk [] l).2 = ce := ⟨_, rfl⟩
        rw [hce] at hnew
        have HCE := Lib.hid hce
        have HQ0 := Lib.hid q0
        have HQ1 := Lib.hid q1
        have HQB := Lib.hid qb
        have HDF := Lib.hid hdef
        clear q0 q1 qb hdef hce
        go_wp2_with fail
        refine hnew.mono ?_
        rintro e w4 ⟨v, rfl, b4, hno, hyes⟩
        clear hnew
        have HB4 := Lib.hid b4
        by_cases h0 : ce = 0
        · subst h0
          obtain ⟨b, md, mu, rfl, hV⟩ := hyes rfl
          have HV := Lib.hid hV
          clear hno hyes hV b4
          have hlong := longest_any HV.out word (by omega)
          go_wp2_with fail
          refine hlong.mono ?_
          rintro e w5 ⟨lv, rfl, hrow, b5⟩
          obtain ⟨L, hL⟩ : ∃ L, longL (fun s => sideB s l) word = L := ⟨_, rfl⟩
          rw [hL] at hrow
          obtain ⟨q1, q2, q3⟩ := longL_cat (fun s => sideB s l) word.size word (Nat.le_refl _)
          rw [hL] at q1 q2 q3
          have HQ3 := Lib.hid (q3 (fun b hb => by unfold sideB; simp [hb]))
          have HCAT := Lib.hid q1
          have hLl : L.length ≤ 300 := by omega
          obtain ⟨A5, cp5, rfl⟩ := slcT hrow
          have HROW := Lib.hid hrow
          have HV5 := Lib.hid (HV.out.below b5)
          have HB5 := Lib.hid (HB4.out.trans (b5.mono HB4.out.size))
          clear q1 q2 q3 hrow b5 hL hlong
          go_wp2_with fail
          go_loopw [10, 12] (fun v10 v12 wr => ∃ (i : Nat) (s : ByteArray), i ≤ L.length ∧ v10 = .string s ∧ v12 = .int .i64 (i : Int) ∧ w5 = wr ∧ Hid (s = (L.take i).foldl (· ++ ·) ByteArray.empty) ∧ s.size ≤ 100000 * i) (fun _ v12 _ => L.length - (intOf v12).toNat)
          case atStart => exact ⟨0, ByteArray.empty, by omega, rfl, rfl, rfl, Lib.hid rfl, by decide⟩
          case round =>
            obtain ⟨i, s, hi, rfl, rfl, hq, HS, hss⟩ := hrel
            subst hq
            have hi0 : (0 : Int) ≤ (i : Int) := by omega
            have hi3 : (i : Int) ≤ 300 := by omega
            by_cases hlt : i < L.length
            · have hli : (i : Int) < (L.length : Int) := by omega
              have hx := List.getElem?_eq_getElem hlt
              have htk : L.take (i + 1) = L.take i ++ [L[i]] := List.take_succ_eq_append_getElem hlt
              have hgx := HQ3.out _ (List.getElem_mem hlt)
              generalize L[i] = x at hx htk hgx
              obtain ⟨ad, cap6, e, hcap, y0, _⟩ := own_at (f := encT) (sz := 1) (fun _ => rfl) HROW.out (by omega) hx
              cases e
              have y1 := y0 _ rfl
              rw [Nat.mul_one] at y1
              have hxs : x.size ≤ 100000 := by
                have h1 := has_size hgx.1
                have h2 := vM_le l 1000 (by omega) (fun m hm => by rw [tx_size]; have := HG2.out m hm; omega)
                omega
              have hhas := has_any HV5.out x (ss_small hxs)
              rw [hgx.1] at hhas
              have hdep := depth_any HV5.out x (ss_small hxs)
              have hd0 : 0 ≤ depV (vD l) x := of_decide_eq_true ((dep_has l x).trans hgx.1)
              generalize depV (vD l) x = dd at hdep hd0
              have hdn : ¬ dd < 0 := by omega
              have hxe : x.toList.isEmpty = false := by
                cases e : x.toList.isEmpty with
                | false => rfl
                | true => exact absurd ((empty_iff x).1 e) hgx.2
              have HTK := Lib.hid htk
              have hsx : s.size + x.size ≤ 9223372036854775807 := by omega
              have HSX := Lib.hid (show s.size + x.size ≤ 100000 * (i + 1) by omega)
              clear hx htk hgx y0 hxs
              go_wp2_with (first
                | (go_at_call 12; refine hhas.mono ?_; rintro e w6 ⟨rfl, rfl⟩)
                | (go_at_call 14; refine hdep.mono ?_; rintro e w7 ⟨rfl, rfl⟩))
              go_roundw
              case rel => exact ⟨i + 1, s ++ x, by omega, rfl, by go_num, trivial, Lib.hid (by rw [HTK.out, List.foldl_append, ← HS.out]; rfl), by rw [ByteArray.size_append]; exact HSX.out⟩
              case measure => simp [intOf]; omega
            · obtain rfl : i = L.length := by omega
              have hnl : ¬ (L.length : Int) < (L.length : Int) := by omega
              have hcat : s = word := by
                have h1 := HS.out
                rw [List.take_length] at h1
                have h2 := HCAT.out
                rw [h1, foldl_cat, h2, ByteArray.empty_append]
              clear HS hss
              subst hcat
              have k6 := heap_alloc_new w5 (.cells #[.int .i64 0] 3)
              have b6 := (Below.refl _ w5).alloc (Nat.le_refl _) (.cells #[.int .i64 0] 3)
              have hVl := (vD_len (m := l) HCE.out l.length (Nat.le_refl _)).1
              rw [List.take_length] at hVl
              have htx := texts_any (HV5.out.below b6) (by have := HL2.out; omega)
              have HVL := Lib.hid hVl
              have HB6 := Lib.hid b6
              have HK6 := Lib.hid k6
              have hfq2 := fun f c W => fs_eq FV1 f c W
              have hs6 : (w5.alloc (.cells #[.int .i64 0] 3)).heap.size = w5.heap.size + 1 := by simp
              have HS6 := Lib.hid hs6
              clear k6 b6 hVl hs6
              go_wp2_with fail
              generalize w5.alloc (.cells #[.int .i64 0] 3) = w6 at *
              refine htx.mono ?_
              rintro e w7 ⟨bx, v, ks, rfl, hS, hbx, hcb, hStr, hob, b7⟩
              have HSO := Lib.hid hS
              have HBX := Lib.hid hbx
              have HCB := Lib.hid hcb
              have HSTR := Lib.hid hStr
              have HOB := Lib.hid hob
              have HB7 := Lib.hid b7
              have hkl : (kTx ks).length = 256 + l.length := by
                unfold kTx
                rw [List.length_map, hS.1.length_eq, List.length_map]; exact HVL.out
              have HKL := Lib.hid hkl
              clear htx hS hbx hcb hStr hob b7 hkl
              go_wp2_with fail
              have h67 := HB7.out.size
              have h6s := HS6.out
              refine (wpIn_wide (n := 20)).1 ?_
              refine wpIn_rangeFunc_ownG (F := Fence.wide) rfl (by omega) rfl trivial (enters_of Try.func67 (by kernel_rfl) rfl) (values_stops Fence.wide 19 trivial rfl (by omega) bx v (kTx ks) (by have := HKL.out; have := HL2.out; omega) w7 HBX.out HCB.out HSTR.out) kb_t (fun W l o o' hl _ _ _ => kb_b HSTR.out.lt W l o o' hl) (Below.refl _ _) (fun _ => rfl)
                (fun pre W => W.heap[w5.heap.size]? = some (.cells #[.int .i64 (pre.length : Int)] 3 (0, 0)) ∧ Below w5.heap.size w5 W ∧ pre.length ≤ few)
                (fun c pre W => c = .exit 4 ∧ W.heap[w5.heap.size]? = some (.cells #[.int .i64 ((few : Int) + 1)] 3 (0, 0)) ∧ Below w5.heap.size w5 W) ?own ?ownx ⟨(HB7.out.block _ (by omega)).trans HK6.out, HB6.out.trans (HB7.out.mono (by omega)), by simp⟩ ?a2 ?assign2 ?body2 ?done2 ?stop2
              case own => exact fun s X Y row h hg hr => ⟨(cells_own hg hr h.1).trans h.1, ownFrom_below (n₀ := w5.heap.size) (Nat.le_refl _) (by omega) s X Y row h.2.1 hg hr, h.2.2⟩
              case ownx => exact fun c s X Y row h hg hr => ⟨h.1, (cells_own hg hr h.2.1).trans h.2.1, ownFrom_below (n₀ := w5.heap.size) (Nat.le_refl _) (by omega) s X Y row h.2.2 hg hr⟩
              case assign2 =>
                intro l x W K hK
                gi_wp2
                exact hK
              case done2 =>
                rintro D2 xs W2 hD2 rfl ⟨_, _, hle⟩ hdef2
                exfalso
                have := HKL.out
                omega
              case body2 =>
                rintro l' pre x W2 ⟨kc, hb, hle⟩ hlt2
                have d0 := cell_at kc 0
                have e0 := frozen_at kc 0
                have hwlt := block_lt HQ0.out
                have hw5 := HB5.out.size
                have kf := (hb.block _ (show w.heap.size < w5.heap.size by omega)).trans ((HB5.out.block _ hwlt).trans HQ0.out)
                have hwne : w.heap.size ≠ w5.heap.size := by omega
                have hS4 := cell_at (set_blk (p := ⟨w5.heap.size, 0, none⟩) (v := .int .i64 ((pre.length : Int) + 1)) kf hwne) 0
                simp only [List.getElem?_toArray, List.getElem?_cons_zero] at d0 hS4
                have hvne : ∀ q, v.ownBlock = some q → q ≠ w5.heap.size := fun q e => by have := HOB.out q e; omega
                have HKP := Lib.hid (show KB v.ownBlock W2 (W2.setCell ⟨w5.heap.size, 0, none⟩ (.int .i64 ((pre.length : Int) + 1))) from fun q e => Below.heap_setCell _ _ _ _ (hvne q e))
                have HKO := Lib.hid (KeepsOthers.setCell W2 ⟨w5.heap.size, 0, none⟩ (.int .i64 ((pre.length : Int) + 1)))
                have HBS := Lib.hid (hb.setCell (p := ⟨w5.heap.size, 0, none⟩) (Nat.le_refl _) (.int .i64 ((pre.length : Int) + 1)))
                have HKC := Lib.hid (show (W2.setCell ⟨w5.heap.size, 0, none⟩ (.int .i64 ((pre.length : Int) + 1))).heap[w5.heap.size]? = some (.cells #[.int .i64 ((pre.length : Int) + 1)] 3 (0, 0)) by rw [set_at kc]; rfl)
                clear kc hb kf hvne hlt2
                by_cases hk : pre.length = few
                · subst hk
                  gi_wp2
                  exact ⟨HKO.out.from _, rfl, HKC.out, HBS.out⟩
                · gi_wp2
                  exact ⟨HKO.out.from _, HKP.out, by have := HKC.out; simpa using this, HBS.out, by simp; omega⟩
              case stop2 =>
                rintro D2 c pre W2 hD2 _ ⟨rfl, kc, hb⟩ hdef2
                have hwlt := block_lt HQ1.out
                have hDlt := block_lt HDF.out
                have hw5 := HB5.out.size
                have kf := (hb.block _ (show w.heap.size < w5.heap.size by omega)).trans ((HB5.out.block _ (show w.heap.size < W.heap.size by omega)).trans HQ0.out)
                have k1 := (hb.block _ (show w.heap.size + 1 < w5.heap.size by omega)).trans ((HB5.out.block _ hwlt).trans HQ1.out)
                have kd := (hb.block _ (show D < w5.heap.size by omega)).trans ((HB5.out.block _ hDlt).trans HDF.out)
                have hbw := HB5.out.trans (hb.mono HB5.out.size)
                have HBW := Lib.hid (HQB.out.trans (hbw.mono HQB.out.size))
                have f0 := cell_at kf 0
                have c0 := cell_at kc 0
                have z1 := frozen_at k1 0
                simp only [List.getElem?_toArray, List.getElem?_cons_zero] at f0 c0
                have hlq : Calls Try.prog 18 #[.pointer (some ⟨b, 0, none⟩)] W2.drew fun e w'' => e = .returned (.int .i64 ((vD l).length : Int)) ∧ w'' = W2.drew := Voc.len_any ((HV5.out.below hb).keep (fun _ _ => rfl))
                rw [HVL.out] at hlq
                obtain ⟨n9, hn9⟩ : ∃ n9 : Nat, 256 + l.length = n9 := ⟨_, rfl⟩
                rw [hn9] at hlq
                have HLQ := Lib.hid hlq
                have hw1 : IntKind.i64.wrap (few : Int) = (few : Int) := IntWalk.i64_in _ (by omega)
                have hw2 : IntKind.i64.wrap ((few : Int) + 1) = (few : Int) + 1 := IntWalk.i64_in _ (by omega)
                have hmin2 : (if (few : Int) + 1 < (n9 : Int) then (few : Int) + 1 else (n9 : Int)) = (few : Int) + 1 := by split <;> omega
                clear hlq hb hbw kf kc
                refine wpIn_wide.2 ?_
                go_wp2_with fail
                go_still_tail 13, (by kernel_rfl)
                still_call HLQ.out
                repeat still_step
                refine wpStill_nil ?_
                change wpList _ _ _ _ _ W2.drew
                have hbd : Below w.heap.size w W2.drew := HBW.out.drew
                have k1d : W2.drew.heap[w.heap.size + 1]? = some (.cells #[.bool false] 4 (0, 0)) := k1
                have hdd : W2.drew.heap[D]? = some (.deferred (some [])) := kd
                have hdd2 : W2.drew.heap[D2]? = some (.deferred (some [])) := hdef2
                generalize W2.drew = W3 at *
                have z2 := frozen_at k1d 0
                have d2 := cell_at k1d 0
                simp only [List.getElem?_toArray, List.getElem?_cons_zero] at d2
                have hDw : D ≠ w.heap.size + 1 := fun e => by subst e; rw [k1d] at hdd; cases hdd
                have hDw2 : D2 ≠ w.heap.size + 1 := fun e => by subst e; rw [k1d] at hdd2; cases hdd2
                have hDD : D ≠ D2 := by omega
                go_wp2
                try simp only [beq_self_eq_true]
                have e3 := set_blk (p := ⟨w.heap.size + 1, 0, none⟩) (v := .bool true) hdd2 hDw2
                have e3' := (World.putObj_heap_other (o := .deferred none) hDD).trans (set_blk (p := ⟨w.heap.size + 1, 0, none⟩) (v := .bool true) hdd hDw)
                have e4 : (W3.setCell ⟨w.heap.size + 1, 0, none⟩ (.bool true)).heap[w.heap.size + 1]? = some (.cells #[.bool true] 4 (0, 0)) := by rw [set_at k1d]; rfl
                have e5 : (((W3.setCell ⟨w.heap.size + 1, 0, none⟩ (.bool true)).putObj D2 (.deferred none)).putObj D (.deferred none)).heap[w.heap.size + 1]? = some (.cells #[.bool true] 4 (0, 0)) := ((World.putObj_heap_other (fun e => hDw e.symm)).trans (World.putObj_heap_other (fun e => hDw2 e.symm))).trans e4
                have c5 := cell_at e5 0
                simp only [List.getElem?_toArray, List.getElem?_cons_zero] at c5
                refine ⟨by simp, .inl ⟨_, _, rfl, run_takeDeferred e3, ?_⟩⟩
                refine ⟨by simp, .inl ⟨_, _, rfl, run_takeDeferred e3', ?_⟩⟩
                refine ⟨.bool true, ?_, rfl, ((hbd.setCell (by show w.heap.size ≤ w.heap.size + 1; omega) _).trans (belowK_b (w := w7) (by omega) _ D2 _ _ hD2 e3 rfl rfl)).trans (belowK_b (w := w3) (by omega) _ D _ _ hD e3' rfl rfl)⟩
                simp [results, Try.f4, go_sem, c5]
        · have hne : (ce != 0) = true := by simpa using h0
          obtain rfl := hno h0
          have k1 := (b4.block _ (block_lt HQ1.out)).trans HQ1.out
          have kd := (b4.block _ (block_lt HDF.out)).trans HDF.out
          have z1 := frozen_at k1 0
          have d1 := cell_at k1 0
          simp only [List.getElem?_toArray, List.getElem?_cons_zero] at d1
          clear hno hyes b4
          go_wp2_with fail
          have hDw : D ≠ w.heap.size + 1 := fun e => by subst e; rw [k1] at kd; cases kd
          have e3 := set_blk (p := ⟨w.heap.size + 1, 0, none⟩) (v := .bool true) kd hDw
          have e4 : (w4.setCell ⟨w.heap.size + 1, 0, none⟩ (.bool true)).heap[w.heap.size + 1]? = some (.cells #[.bool true] 4 (0, 0)) := by rw [set_at k1]; rfl
          have e5 : ((w4.setCell ⟨w.heap.size + 1, 0, none⟩ (.bool true)).putObj D (.deferred none)).heap[w.heap.size + 1]? = some (.cells #[.bool true] 4 (0, 0)) := (World.putObj_heap_other (fun e => hDw e.symm)).trans e4
          have c5 := cell_at e5 0
          simp only [List.getElem?_toArray, List.getElem?_cons_zero] at c5
          refine ⟨by simp, .inl ⟨_, _, rfl, run_takeDeferred e3, ?_⟩⟩
          refine ⟨.bool true, ?_, rfl, ((HQB.out.trans (HB4.out.mono HQB.out.size)).setCell (by show w.heap.size ≤ w.heap.size + 1; omega) _).trans (belowK_b (w := w3) (by omega) _ D _ _ hD e3 rfl rfl)⟩
          simp [results, Try.f4, go_sem, c5]
theorem walk (W : World) (A : Option Addr) (cp : Nat) (l : List (ByteArray × ByteArray)) (hr : Kd.C kSS W A l.length l) (hc : l.length ≤ cp) (hg : ∀ x ∈ l, True) (hs : l.length * 32 ≤ reachBytes) (word : ByteArray) (hw : word.size ≤ 140737488351232) (few : Int) (hf : (Lit.int .u8 few).wf = true) :
    Calls Try.prog 4 #[.slice A l.length cp, .string word, .int .u8 few] W fun e w' => e = .returned (.bool true) ∧ Below W.heap.size W w' := by
  have h : 0 ≤ few ∧ few ≤ 255 := by simpa [Lit.wf, IntKind.min, IntKind.max, IntKind.signed, IntKind.bits] using hf
  obtain ⟨n, rfl⟩ := Int.eq_ofNat_of_zero_le h.1
  exact law_any A cp l word n W hr (by unfold reachBytes at hs; unfold maxLen; omega) (by unfold maxLen; omega) (by omega)
end Go.Proofs.Ythinomhjhkhidaa.VocWhole
