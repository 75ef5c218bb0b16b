/- LazyAll: if each change is put, what is taken is the pair that is live most often, each once, until none is left. No condition. -/
import Derived.Test.YthpdamkpefgmaaaLazySt
import Derived.Test.YthpdamkpefgmaaaKindsDeed
import Derived.Test.YthpdamkpefgmaaaOpen
import Derived.Lib.SmallJoins
namespace Go.Proofs.Ythpdamkpefgmaaa.LazyAll
open Go.RowKit Go.ChangeShapes Go.WideShapes Go.Deep Go.Shelf Go.Maps Go.Proofs.YthpdamkpefgmaaaW.PrintWords Go.Proofs.YthpdamkpefgmaaaW.PrintLast Go.Proofs.YthpdamkpefgmaaaW.PrintMore Base Foot Src RangeSt ExtTail SymPure Sym PairW BetOrd HeapPure Heap3 PMap LazyQ LazyPut LazyPop LazyLaw RefCnt LazyInv LazySt Kinds
set_option linter.unusedVariables false
set_option linter.unusedSimpArgs false
attribute [local go_sem ↓] Go.wp_at_zero Go.wp_at_succ
attribute [-go_sem] Instr.build
theorem buildC (w : World) : (Instr.build 34 #[]).run Try.prog w = .ok (.agg #[.slice none 0 0, .slice none 0 0]) w := run_build w _ _ _ (by kernel_rfl)
attribute [local go_sem high] buildI buildI0 buildS0 buildP buildC eqIt eqSt

def Cnt (l : Nat) (i : Nat) (L : List It) (m : List (PK × Int)) (s : Sts) : Prop := L.length ≤ i ∧ m.length ≤ i ∧ s.pushes ≤ i ∧ s.rebuilds ≤ i ∧ s.pops = 0

theorem st_init {w w2 w3 : World} {q tb bh : Nat} {hl : Value} {mb : Nat} (h : QueT w2.heap.size w3 q tb (.slice none 0 0) (.map none) [] bh hl mb [] [] Sts.zero) (hz : w.heap.size ≤ w2.heap.size) (b : Below w.heap.size w w3) :
    St w w2.heap.size ((w3.alloc (.cells #[.slice none 0 0, .slice none 0 0] tC)).alloc (.cells #[.pointer (some ⟨w3.heap.size, 0, none⟩)] 39)) q tb bh hl mb w3.heap.size (w3.heap.size + 1) (.slice none 0 0) (.slice none 0 0) [] [] [] Sts.zero := by
  have b4 : Below w3.heap.size w3 ((w3.alloc (.cells #[.slice none 0 0, .slice none 0 0] tC)).alloc (.cells #[.pointer (some ⟨w3.heap.size, 0, none⟩)] 39)) := b_two _ _ _
  have k0 := alloc_blk (x := .cells #[.pointer (some ⟨w3.heap.size, 0, none⟩)] 39) (heap_alloc_new w3 (.cells #[.slice none 0 0, .slice none 0 0] tC))
  have k1 := heap_alloc_new (w3.alloc (.cells #[.slice none 0 0, .slice none 0 0] tC)) (.cells #[.pointer (some ⟨w3.heap.size, 0, none⟩)] 39)
  simp only [World.size_alloc] at k1
  have hc : ∀ k, CFoot w3.heap.size (.slice none 0 0) (.slice none 0 0) k → k = w3.heap.size := by
    rintro k (h | h | h)
    · exact h
    · cases h
    · cases h
  refine ⟨QueT.below h b4, ⟨k0, rfl, rfl, by decide, by decide, World.ownsRow_nil _ _ _ _, World.ownsRow_nil _ _ _ _, by simp, (fun x h => nomatch h), List.nodup_nil⟩, k1, fun k hk hq => ?_, fun k hk hcf => ?_, fun hq => ?_, fun hcf => ?_, hz, fun k hk => ?_, b.trans (b4.mono b.size)⟩
  · have := hc k hk; have := (QueT.lt h k hq).2; omega
  · have := hc k hcf; have := QueT.symlt h k hk; omega
  · have := (QueT.lt h _ hq).2; omega
  · have := hc _ hcf; omega
  · have := hc k hk; have := b.size; omega
theorem lv_range {B : Nat} {W : World} {b o : Nat} {arr : Array Value} {t : TypeId} {pv nv : Value} {m K : List (PK × Int)} {L : List It} (h : RC B W b o arr t pv nv m) (hI : Inv m K L) (p : PK) : 0 ≤ lv m p ∧ lv m p ≤ 9223372036854775807 := by
  cases e : PMap.look m p with
  | none => simp [lv, e]
  | some n =>
    have hm := look_some_mem e
    have h1 := (h.al _ hm).2
    have h2 := (hI.pos _ (hI.sub _ (hI.perm.mem_iff.2 hm))).1
    simp only [lv, e, Option.getD_some]
    unfold In64 at h1
    exact ⟨by simp at h2; omega, by simp at h1; omega⟩

theorem set_len {m m' : List (PK × Int)} {p : PK} {n : Int} (h : SetR m p n m') : m'.length ≤ m.length + 1 := by
  unfold SetR at h
  rw [h.length_eq]
  have := drop_le m p
  split
  · omega
  · simp only [putL, List.length_cons]; omega
theorem put_all {w W : World} {Bq q tb bh : Nat} {hl : Value} {mb cb vb : Nat} {pv nv : Value} {L : List It} {K m m8 : List (PK × Int)} {s : Sts} {N i : Nat} (h : St w Bq W q tb bh hl mb cb vb pv nv L K m8 s) {p : PK} {n : Int} (hI : Inv m K L) (hset : SetR m p n m8) (hC : Cnt N i L m s) (hi : i < 200) (hp : Byt p) (h0 : 0 ≤ n) (hn : In64 n) :
    Calls Try.prog 15 #[qp q, vP p, .int .i64 n] W fun e W' => e = .returned (.tuple #[]) ∧ ∃ bh' hl' L' K' s', St w Bq W' q tb bh' hl' mb cb vb pv nv L' K' m8 s' ∧ Inv m8 K' L' ∧ Cnt N (i + 1) L' m8 s' := by
  obtain ⟨c1, c2, c3, c4, c5⟩ := hC
  have hml := set_len hset
  have hKL := hI.le
  by_cases hz : n = 0
  · subst hz
    refine (put_low h.que p hp.p64 0 (by omega)).mono ?_
    rintro e W' ⟨rfl, h1, h2⟩
    exact ⟨rfl, _, _, _, _, _, h.puts h1 h2, hI.low hset, by omega, by omega, by omega, by omega, c5⟩
  · refine (put_high h.que p hp.p64 n (by omega) hn (by omega) (by omega) (by omega) (by omega)).mono ?_
    rintro e W' ⟨rfl, bh', hl', h1, h2⟩
    have hpl := push_len L K p n hKL
    refine ⟨rfl, _, _, _, _, _, h.puts h1 h2, hI.high (by omega) hp hset, by omega, by omega, ?_, ?_, ?_⟩
    · unfold pushS; split <;> simp <;> omega
    · unfold pushS; split <;> simp <;> omega
    · unfold pushS; split <;> simp <;> omega

/-- a store into a block of none of these -/
theorem st_other {w W W' : World} {Bq q tb bh : Nat} {hl : Value} {mb cb vb lb : Nat} {pv nv : Value} {L : List It} {K m : List (PK × Int)} {s : Sts} (h : St w Bq W q tb bh hl mb cb vb pv nv L K m s) (hk : ∀ k, k ≠ lb → W'.heap[k]? = W.heap[k]?) (hb : Below w.heap.size w W')
    (hq : ¬ QFoot q bh hl mb lb) (hc : ¬ CFoot cb pv nv lb) (hs : ¬ Sym.Foot tb (.slice none 0 0) (.map none) lb) (hv : lb ≠ vb) : St w Bq W' q tb bh hl mb cb vb pv nv L K m s :=
  ⟨QueT.keep h.que (fun k e => hk k (by rintro rfl; rcases e with e | e; exact hq e; exact hs e)), h.cnt.keep (fun k e => hk k (by rintro rfl; exact hc e)), (hk vb (fun e => hv e.symm)).trans h.var, h.qc, h.qs, h.vq, h.vc, h.zq, h.zc, hb⟩

theorem st_last {w W : World} {Bq q tb bh : Nat} {hl : Value} {mb cb vb lb : Nat} {pv nv : Value} {L : List It} {K m : List (PK × Int)} {s : Sts} (h : St w Bq W q tb bh hl mb cb vb pv nv L K m s) {a c d : Value} {t : TypeId} {fz : Nat × Nat} (hx : W.heap[lb]? = some (.cells #[a, c, d] t fz))
    (hq : ¬ QFoot q bh hl mb lb) (hc : ¬ CFoot cb pv nv lb) (hs : ¬ Sym.Foot tb (.slice none 0 0) (.map none) lb) (hv : lb ≠ vb) (lz : w.heap.size ≤ lb) (x y z : Value) :
    St w Bq (((W.setCell ⟨lb, 0, none⟩ x).setCell ⟨lb, 1, none⟩ y).setCell ⟨lb, 2, none⟩ z) q tb bh hl mb cb vb pv nv L K m s ∧ (((W.setCell ⟨lb, 0, none⟩ x).setCell ⟨lb, 1, none⟩ y).setCell ⟨lb, 2, none⟩ z).heap[lb]? = some (.cells #[x, y, z] t fz) := by
  have hk : ∀ k, k ≠ lb → (((W.setCell ⟨lb, 0, none⟩ x).setCell ⟨lb, 1, none⟩ y).setCell ⟨lb, 2, none⟩ z).heap[k]? = W.heap[k]? := fun k hk => by
    rw [set_blk_eq (p := ⟨lb, 2, none⟩) hk, set_blk_eq (p := ⟨lb, 1, none⟩) hk, set_blk_eq (p := ⟨lb, 0, none⟩) hk]
  have hu : Upd (fun k => k = lb) (fun k => k = lb) W (((W.setCell ⟨lb, 0, none⟩ x).setCell ⟨lb, 1, none⟩ y).setCell ⟨lb, 2, none⟩ z) :=
    ((Upd.set (F := fun k => k = lb) (p := ⟨lb, 0, none⟩) rfl).trans (Upd.set (F := fun k => k = lb) (p := ⟨lb, 1, none⟩) rfl)).trans (Upd.set (F := fun k => k = lb) (p := ⟨lb, 2, none⟩) rfl)
  have hb := hu.below h.bel.size (fun k hk => by rw [hk]; exact lz)
  exact ⟨st_other h hk (h.bel.trans hb) hq hc hs hv, set_three hx⟩

set_option maxHeartbeats 6400000 in
set_option maxRecDepth 100000 in
theorem law_any (A : Option Addr) (cap : Nat) (l : List Dd) (w : World) (hr : Kd.C kD w A l.length l) (hc : l.length ≤ cap) (hl : l.length ≤ maxLen) (hg : ∀ x ∈ l, In64 x.1 ∧ (In64 x.2.1.1 ∧ In64 x.2.1.2) ∧ In64 x.2.2) :
    Calls Try.prog 4 #[.slice A l.length cap] w fun e w' => e = .returned (.bool true) ∧ Below w.heap.size w w' := by
  have hmf : ∀ (fn : Fn) (first cap : Array Value) (w : World), (Instr.makeFunc fn first cap).run Try.prog w = .ok (.func fn first cap) w := fun _ _ _ _ => rfl
  have HG := Lib.hid hg
  clear hg
  go_enter Try.func4, Try.ntmps4
  go_wp2_with fail
  refine (awake_any _).mono ?_
  rintro e w1 ⟨rfl, b1⟩
  by_cases h2 : 200 < l.length
  · have h3 : (200 : Int) < (l.length : Int) := by omega
    go_wp2_with fail
    go_ret
    exact ⟨rfl, b1⟩
  · have h3 : (l.length : Int) ≤ 200 := by omega
    clear h2
    go_wp2_with fail
    refine (Sym.new_any w1).mono ?_
    rintro e w2 ⟨rfl, s2, b2⟩
    go_wp2_with fail
    refine (LazyPut.new_any s2).mono ?_
    rintro e w3 ⟨q, bh, mb, rfl, q3, b3⟩
    have b03 := (b1.trans (b2.mono b1.size)).trans (b3.mono (b1.trans (b2.mono b1.size)).size)
    have hz2 := (b1.trans (b2.mono b1.size)).size
    have hz3 := b03.size
    generalize w1.heap.size = tb at *
    unfold qp
    go_wp2_with fail
    have hst := st_init q3 hz2 b03
    clear q3 s2 b1 b2 b3 b03
    generalize (w3.alloc (.cells #[.slice none 0 0, .slice none 0 0] 34)).alloc (.cells #[.pointer (some ⟨w3.heap.size, 0, none⟩)] 39) = w4 at *
    generalize hvb : w3.heap.size + 1 = vb at *
    generalize w3.heap.size = cb at *
    generalize w2.heap.size = Bq at *
    clear hvb
    go_loopw [6] (fun v6 wr => ∃ (i bh : Nat) (hl pv nv : Value) (L : List It) (K m : List (PK × Int)) (s : Sts), i ≤ l.length ∧ v6 = .int .i64 (i : Int) ∧ St w Bq wr q tb bh hl mb cb vb pv nv L K m s ∧ Hid (Inv m K L) ∧ Hid (Cnt l.length i L m s)) (fun i _ => l.length - (intOf i).toNat)
    case atStart => exact ⟨0, _, _, _, _, _, _, _, _, by omega, rfl, hst, Lib.hid Inv.nil, Lib.hid (by simp [Cnt, Sts.zero])⟩
    case round =>
      clear hst bh
      obtain ⟨i, bh, hl, pv, nv, L, K, m, s, hi, rfl, hst, HI, HC⟩ := hrel
      by_cases hlt : i < l.length
      · have hli : (i : Int) < (l.length : Int) := by omega
        have hx := List.getElem?_eq_getElem hlt
        generalize l[i] = x at hx
        obtain ⟨kd, ⟨a, b⟩, n⟩ := x
        obtain ⟨_, ⟨ga, gb⟩, gn⟩ := HG.out _ (List.mem_of_getElem? hx)
        simp only at ga gb gn
        obtain ⟨ad, rfl, _, y1, y2, y3⟩ := at_D (Kd.C_below hr hst.bel) hx
        simp only at y1 y2 y3
        have y3A : ∀ O, (wr.alloc O).cell? ⟨(ad.add (i * 4)).block, (ad.add (i * 4)).off + 3, none⟩ = some (.int .i64 n) := fun O => ((b_one wr O).cell (World.block_lt_of_cell? wr _ y3)).trans y3
        have HX := Lib.hid hx
        have HS := Lib.hid hst
        have lv4 := block_lt hst.var
        have hq4 : ∀ k, CFoot cb pv nv k → k < wr.heap.size := fun k hk => hst.cnt.lt k hk
        have hv4 := cell_at hst.var 0
        simp only [List.getElem?_toArray, List.getElem?_cons_zero] at hv4
        clear hx hst
        by_cases ha1 : a < 0
        · go_wp2_with fail
          go_ret
          exact ⟨rfl, HS.out.bel.trans ((b_one _ _).mono HS.out.bel.size)⟩
        · by_cases ha2 : 255 < a
          · go_wp2_with fail
            go_ret
            exact ⟨rfl, HS.out.bel.trans ((b_one _ _).mono HS.out.bel.size)⟩
          · by_cases hb1 : b < 0
            · go_wp2_with fail
              go_ret
              exact ⟨rfl, HS.out.bel.trans ((b_one _ _).mono HS.out.bel.size)⟩
            · by_cases hb2 : 255 < b
              · go_wp2_with fail
                go_ret
                exact ⟨rfl, HS.out.bel.trans ((b_one _ _).mono HS.out.bel.size)⟩
              · have hByt : Byt (a, b) := ⟨⟨by simp; omega, by simp; omega⟩, by simp; omega, by simp; omega⟩
                go_upto_region 14 with fail
                go_cut [8] from 26 to 75 (fun v8 wx => ∃ nn : Int, v8 = .int .i64 nn ∧ 0 ≤ nn ∧ In64 nn ∧ wx = wr.alloc (.cells #[.int .i64 a, .int .i64 b] 41))
                case first =>
                  have hz : In64 0 := by unfold In64; omega
                  go_wp2_with fail
                  all_goals go_meet
                  · exact ⟨0, rfl, by omega, hz, rfl⟩
                  · exact ⟨n, rfl, by omega, gn, rfl⟩
                case rest =>
                  obtain ⟨nn, rfl, hn0, hn64, rfl⟩ := hcut
                  have k7 := heap_alloc_new wr (.cells #[.int .i64 a, .int .i64 b] 41)
                  have hs5 := HS.out.below (b_one wr (.cells #[.int .i64 a, .int .i64 b] 41))
                  have n7 : ¬ CFoot cb pv nv wr.heap.size := fun h => by have := hq4 _ h; omega
                  have hr0 := lv_range HS.out.cnt HI.out (a, b)
                  obtain ⟨z, hz⟩ : ∃ z, lv m (a, b) = z := ⟨_, rfl⟩
                  rw [hz] at hr0
                  have hneg : wrap64 (-z) = -z := by unfold wrap64; omega
                  have hget := fun W (h : Below _ _ W) => get_any (hs5.below h).cnt (a, b)
                  rw [show (PMap.look m (a, b)).getD 0 = z from hz] at hget
                  have hml : m.length < 1000 := by have := HC.out.2.1; omega
                  have HS5 := Lib.hid hs5
                  clear ha1 ha2 hb1 hb2 y1 y2 y3 y3A hv4 hq4 hs5
                  generalize wr.alloc (.cells #[.int .i64 a, .int .i64 b] 41) = w5 at *
                  have v5 := cell_at HS5.out.var 0
                  have p0 := cell_at k7 0
                  have p1 := cell_at k7 1
                  simp only [List.getElem?_toArray, List.getElem?_cons_zero, List.getElem?_cons_succ] at v5 p0 p1
                  have gv := fun g => Ext.cell (u := .pointer (some ⟨cb, 0, none⟩)) v5 g
                  have g0 := fun g => Ext.cell (u := .int .i64 a) p0 g
                  have g1 := fun g => Ext.cell (u := .int .i64 b) p1 g
                  have HZ := Lib.hid hz
                  clear hz v5 p0 p1
                  go_upto_region 15 with fail
                  refine wp_region_ext_tail 6 (by kernel_rfl) (by kernel_rfl) ?_
                  simp only [List.take_succ_cons, List.take_zero, List.drop_succ_cons, List.drop_zero]
                  repeat (quiet_step (first
                    | (go_at_call 18; exact ext_of (hget _ (Ext.below _)))))
                  refine wpQuiet_nil ?_
                  rintro w6 ⟨⟨_, b6⟩, rfl⟩
                  go_wp2_with fail
                  refine ((HS5.out.below b6).off hml (a, b) z hByt.p64 hr0 HZ.out).mono ?_
                  rintro e w7 ⟨rfl, pv7, nv7, m7, hs7, hset7, hu7⟩
                  have kk6 := (b6.block _ (block_lt k7)).trans k7
                  have n6 := n7
                  replace k7 := (hu7.block _ (block_lt kk6) n6).trans kk6
                  replace n7 := far1 hu7 (block_lt kk6) n6
                  have hI7 := HI.out.nd
                  have hl7 : lv m7 (a, b) = 0 := by rw [set_look hI7 hset7, if_pos rfl]
                  have hm7 : m7.length ≤ m.length := by
                    have h1 := hset7
                    unfold SetR at h1
                    rw [if_pos rfl] at h1
                    rw [h1.length_eq]
                    exact drop_le _ _
                  have hv7 := cell_at hs7.var 0
                  have p70 := cell_at k7 0
                  have p71 := cell_at k7 1
                  simp only [List.getElem?_toArray, List.getElem?_cons_zero, List.getElem?_cons_succ] at hv7 p70 p71
                  have HS7 := Lib.hid hs7
                  have HSET7 := Lib.hid hset7
                  have HL7 := Lib.hid hl7
                  clear hs7 hset7 hl7 hu7 b6 kk6 n6 hget gv g0 g1 HS5 HZ hneg hr0 hI7
                  clear w6
                  go_wp2_with fail
                  refine (HS7.out.new (by omega) (a, b) nn hByt.p64 hn64 hn0 HL7.out).mono ?_
                  rintro e w8 ⟨rfl, pv8, nv8, m8, hs8, hset8, hu8⟩
                  have hset := two_sets HSET7.out hset8
                  replace k7 := (hu8.block _ (block_lt k7) n7).trans k7
                  replace n7 := True.intro
                  have p80 := cell_at k7 0
                  have p81 := cell_at k7 1
                  simp only [List.getElem?_toArray, List.getElem?_cons_zero, List.getElem?_cons_succ] at p80 p81
                  have HS8 := Lib.hid hs8
                  have HSET := Lib.hid hset
                  clear hs8 hset8 hset hu8 HS7 HSET7 HL7 hv7 p70 p71 k7 n7
                  go_wp2_with fail
                  refine (put_all HS8.out HI.out HSET.out HC.out (by omega) hByt hn0 hn64).mono ?_
                  rintro e w9 ⟨rfl, bh9, hl9, L9, K9, s9, hs9, hI9, hC9⟩
                  have HS9 := Lib.hid hs9
                  have HI9 := Lib.hid hI9
                  have HC9 := Lib.hid hC9
                  clear hs9 hI9 hC9 p80 p81
                  go_wp2_with fail
                  go_roundw
                  case rel =>
                    exact ⟨i + 1, _, _, _, _, _, _, _, _, by omega, by go_num, HS9.out, HI9, HC9⟩
                  case measure => simp [intOf] <;> omega
      · obtain rfl : i = l.length := by omega
        obtain ⟨Ap, cp0, rfl⟩ := hst.cnt.ps
        have hv4 := cell_at hst.var 0
        have cp4 := hst.cnt.cp
        simp only [List.getElem?_toArray, List.getElem?_cons_zero] at hv4
        have HS := Lib.hid hst
        clear hst
        go_wp2_with fail
        have x6 := heap_alloc_new wr (.cells #[.int .i64 0, .int .i64 0, .int .i64 0] 48)
        have hst := HS.out.below (b_one wr (.cells #[.int .i64 0, .int .i64 0, .int .i64 0] 48))
        have lq : ¬ QFoot q bh hl mb wr.heap.size := fun h => by have := (QueT.lt HS.out.que _ h).2; omega
        have lc : ¬ CFoot cb (.slice Ap m.length cp0) nv wr.heap.size := fun h => by have := HS.out.cnt.lt _ h; omega
        have ls : ¬ Sym.Foot tb (.slice none 0 0) (.map none) wr.heap.size := fun h => by have := QueT.symlt HS.out.que _ h; omega
        have lv0 : wr.heap.size ≠ vb := by have := block_lt HS.out.var; omega
        have lz : w.heap.size ≤ wr.heap.size := HS.out.bel.size
        have hpops : s.pops + L.length ≤ 200 := by
          obtain ⟨c1, c2, c3, c4, c5⟩ := HC.out
          omega
        have hm200 : m.length ≤ 200 := by
          obtain ⟨c1, c2, c3, c4, c5⟩ := HC.out
          omega
        have HP := Lib.hid hpops
        clear hv4 cp4 HS hpops
        generalize wr.alloc (.cells #[.int .i64 0, .int .i64 0, .int .i64 0] 48) = w5 at *
        generalize wr.heap.size = lb at *
        go_loopw [11] (fun v11 wr => ∃ (i bh : Nat) (hl pv nv : Value) (L : List It) (K m2 : List (PK × Int)) (s : Sts) (l1 l2 l3 : Int), v11 = .int .i64 (i : Int) ∧ St w Bq wr q tb bh hl mb cb vb pv nv L K m2 s ∧ Hid (Inv m2 K L) ∧ m2.length + i = m.length ∧ wr.heap[lb]? = some (.cells #[.int .i64 l1, .int .i64 l2, .int .i64 l3] 48 (0, 0)) ∧ ¬ QFoot q bh hl mb lb ∧ ¬ CFoot cb pv nv lb ∧ Hid (0 < i → Lst [] m2 L ((l1, l2), l3)) ∧ Hid (s.pops + L.length ≤ 200)) (fun i _ => m.length - (intOf i).toNat)
        case atStart => exact ⟨0, _, _, _, _, _, _, _, _, _, _, _, rfl, hst, HI, rfl, x6, lq, lc, Lib.hid (fun h => absurd h (by omega)), HP⟩
        case round =>
          clear hst x6 lq lc HI HP HC
          obtain ⟨i, bh, hl, pv, nv, L, K, m2, s, l1, l2, l3, rfl, hst, HI, hmi, x6, lq, lc, HL, HP⟩ := hrel
          have HS := Lib.hid hst
          clear hst
          have hpop := fun (LF : Nat) (cbv : Array Value) hLv => pop_any HS.out.que (LF := LF) (cb := cbv) (lf := lv m2) (IL := ILc cb vb pv nv m2) (GL := GLc cb vb pv nv) hLv ⟨HS.out.var, _, HS.out.cnt⟩ (fun k hk => by
            rcases hk with rfl | hk
            · exact HS.out.vq
            · exact HS.out.qc k hk) (by have := HP.out; omega) (fun x hx => (HI.out.pos x hx).2.p64)
          have HPOP := Lib.hid hpop
          clear hpop
          unfold qp at HPOP
          by_cases hlt : i < m.length
          · have hli : (i : Int) < (m.length : Int) := by omega
            go_wp2_with fail
            refine (HPOP.out _ _ live_all1).mono ?_
            rintro e w7 ⟨hl7, pre, hob, hu7, hB, ⟨rfl, hpre, hst7, hq7⟩ | ⟨pr, x, rest, rfl, rfl, hperm, hpr, hxl, hq7⟩⟩
            · exfalso
              have := HI.out.none hpre hst7
              rw [this] at hmi
              simp at hmi
              omega
            · obtain ⟨⟨xa, xb⟩, xn⟩ := x
              have hxL : ((xa, xb), xn) ∈ L := hperm.mem_iff.1 (by simp)
              have hx1 : 1 ≤ xn := (HI.out.pos _ hxL).1
              have hxB : Byt (xa, xb) := (HI.out.pos _ hxL).2
              have hxl2 : xn = lv m2 (xa, xb) := hxl
              have hxr := lv_range HS.out.cnt HI.out (xa, xb)
              rw [← hxl2] at hxr
              have hneg : wrap64 (-xn) = -xn := by unfold wrap64; omega
              have hbet : 0 < i → betB [] ((l1, l2), l3) ((xa, xb), xn) = true := fun h => (HL.out h).better HI.out hxL hxl
              have hst7 := HS.out.puts hq7 hu7
              have x7 := (hu7.block _ (block_lt x6) lq).trans x6
              have lq7 := far1 hu7 (block_lt x6) lq
              have hlen : s.pops + (((pr ++ [((xa, xb), xn)]).length : Nat) : Int) + ((rest.length : Nat) : Int) ≤ 200 := by
                have h1 := hperm.length_eq
                have h2 := HP.out
                simp only [List.length_append] at h1 ⊢
                omega
              have HB := Lib.hid hB
              have HPERM := Lib.hid hperm
              have HPR := Lib.hid hpr
              have HXL := Lib.hid hxL
              have HX2 := Lib.hid hxl2
              have HBET := Lib.hid hbet
              have HST7 := Lib.hid hst7
              have HLEN := Lib.hid hlen
              clear hB hperm hpr hxL hxl hxl2 hbet hst7 hlen hu7 hq7 hob x6 lq HPOP
              go_wp2_with fail
              have k12 := heap_alloc_new w7 (.cells #[.int .i64 xa, .int .i64 xb, .int .i64 xn] 48)
              have hs8 := HST7.out.below (b_one w7 (.cells #[.int .i64 xa, .int .i64 xb, .int .i64 xn] 48))
              have x8 := alloc_blk (x := .cells #[.int .i64 xa, .int .i64 xb, .int .i64 xn] 48) x7
              have n12 : ¬ CFoot cb pv nv w7.heap.size := fun h => by have := HST7.out.cnt.lt _ h; omega
              have l12 : lb ≠ w7.heap.size := by have := block_lt x7; omega
              clear x7
              generalize w7.alloc (.cells #[.int .i64 xa, .int .i64 xb, .int .i64 xn] 48) = w8 at *
              generalize w7.heap.size = xbk at *
              have hget : ∀ W, Below w8.heap.size w8 W → Calls Try.prog 18 #[.pointer (some ⟨cb, 0, none⟩), vP (xa, xb)] W fun e w' => e = .returned (.int .i64 xn) ∧ Below W.heap.size W w' := fun W h => by
                have := get_any (hs8.below h).cnt (xa, xb)
                rw [show (PMap.look m2 (xa, xb)).getD 0 = xn from HX2.out.symm] at this
                exact this
              have hbt : 0 < i → ∀ W, Below w8.heap.size w8 W → Calls Try.prog 26 #[.pointer (some ⟨tb, 0, none⟩), .agg #[.int .i64 l1, .int .i64 l2, .int .i64 l3], .agg #[.int .i64 xa, .int .i64 xb, .int .i64 xn]] W fun e w' => e = .returned (.bool true) ∧ Below W.heap.size W w' := fun h0 W h => by
                obtain ⟨_, B, hsym⟩ := QueT.inv hs8.que
                have := better_any (hsym.below h) ((l1, l2), l3) ((xa, xb), xn)
                rw [HBET.out h0] at this
                exact this
              have v5 := cell_at hs8.var 0
              have p0 := cell_at k12 0
              have p1 := cell_at k12 1
              have p2 := cell_at k12 2
              have q0 := cell_at x8 0
              have q1 := cell_at x8 1
              have q2 := cell_at x8 2
              simp only [List.getElem?_toArray, List.getElem?_cons_zero, List.getElem?_cons_succ] at v5 p0 p1 p2 q0 q1 q2
              have gv := fun g => Ext.cell (u := .pointer (some ⟨cb, 0, none⟩)) v5 g
              have g0 := fun g => Ext.cell (u := .int .i64 xa) p0 g
              have g1 := fun g => Ext.cell (u := .int .i64 xb) p1 g
              have g2 := fun g => Ext.cell (u := .int .i64 xn) p2 g
              have g3 := fun g => Ext.cell (u := .int .i64 l1) q0 g
              have g4 := fun g => Ext.cell (u := .int .i64 l2) q1 g
              have g5 := fun g => Ext.cell (u := .int .i64 l3) q2 g
              have hd1 : decide (xn < 1) = false := by simp; omega
              have hd1' : ¬ xn < 1 := by omega
              have HS8 := Lib.hid hs8
              have HBT := Lib.hid hbt
              clear hs8 hbt v5 p0 p1 p2 q0 q1 q2
              go_cut [119] from 82 to 127 (fun v119 wx => v119 = .bool false ∧ Below w8.heap.size w8 wx)
              case first =>
                by_cases hi0 : 0 < i
                · have hbt := HBT.out hi0
                  have hd2 : decide ((0 : Int) < (i : Int)) = true := by simp; omega
                  have hd2' : (0 : Int) < (i : Int) := by omega
                  refine wp_region_ext (by kernel_rfl) (by kernel_rfl) ?_
                  repeat (quiet_step (first
                    | (go_at_call 18; exact ext_of (hget _ (Ext.below _)))
                    | (go_at_call 26; exact ext_of (hbt _ (Ext.below _)))))
                  refine wpQuiet_nil ?_
                  rintro w9 ⟨⟨_, b9⟩, rfl⟩
                  go_wp2_with fail
                  go_meet
                  exact ⟨rfl, b9⟩
                · obtain rfl : i = 0 := by omega
                  refine wp_region_ext (by kernel_rfl) (by kernel_rfl) ?_
                  repeat (quiet_step (first
                    | (go_at_call 18; exact ext_of (hget _ (Ext.below _)))))
                  refine wpQuiet_nil ?_
                  rintro w9 ⟨⟨_, b9⟩, rfl⟩
                  go_wp2_with fail
                  go_meet
                  exact ⟨rfl, b9⟩
              case rest =>
                obtain ⟨rfl, b9⟩ := hcut
                clear gv g0 g1 g2 g3 g4 g5 hget HBT
                have hs9 := HS8.out.below b9
                have x9 := (b9.block _ (block_lt x8)).trans x8
                have k9 := (b9.block _ (block_lt k12)).trans k12
                generalize wc = w9 at *
                have v5 := cell_at hs9.var 0
                have p0 := cell_at k9 0
                have p1 := cell_at k9 1
                have p2 := cell_at k9 2
                simp only [List.getElem?_toArray, List.getElem?_cons_zero, List.getElem?_cons_succ] at v5 p0 p1 p2
                have HS9 := Lib.hid hs9
                clear hs9 b9 x8 k12 HS8
                go_wp2_with fail
                have hml : m2.length < 1000 := by
                  have h1 := HI.out.le
                  have h2 := HI.out.perm.length_eq
                  have h3 := HP.out
                  have h4 := HS.out.que.num
                  omega
                refine (HS9.out.off hml (xa, xb) xn hxB.p64 hxr HX2.out.symm).mono ?_
                rintro e w10 ⟨rfl, pv10, nv10, m10, hs10, hset10, hu10⟩
                have x10 := (hu10.block _ (block_lt x9) lc).trans x9
                have k10 := (hu10.block _ (block_lt k9) n12).trans k9
                have lc10 := far1 hu10 (block_lt x9) lc
                have q0 := cell_at k10 0
                have q1 := cell_at k10 1
                have q2 := cell_at k10 2
                have z0 := cell_at x10 0
                have z1 := cell_at x10 1
                have z2 := cell_at x10 2
                have f0 := frozen_at x10 0
                have f1 := frozen_at x10 1
                have f2 := frozen_at x10 2
                simp only [List.getElem?_toArray, List.getElem?_cons_zero, List.getElem?_cons_succ] at q0 q1 q2 z0 z1 z2
                have HS10 := Lib.hid hs10
                have HSET := Lib.hid hset10
                clear hs10 hset10 hu10 x9 k9 lc v5 p0 p1 p2
                go_wp2_with fail
                obtain ⟨hs11, x11⟩ := st_last HS10.out x10 lq7 lc10 ls lv0 lz (.int .i64 xa) (.int .i64 xb) (.int .i64 xn)
                have HS11 := Lib.hid hs11
                have HX11 := Lib.hid x11
                clear hs11 x11 q0 q1 q2 z0 z1 z2 f0 f1 f2 x10 k10
                go_roundw
                case rel =>
                  have hf := HI.out.fewer HXL.out HX2.out HSET.out
                  exact ⟨i + 1, _, _, _, _, _, _, _, _, xa, xb, xn, by go_num, HS11.out, Lib.hid (HI.out.pop HPERM.out HPR.out HSET.out), by omega, HX11.out, lq7, lc10, Lib.hid (fun _ => Lst.next HI.out HB.out HPERM.out HSET.out), HLEN⟩
                case measure => simp [intOf] <;> omega
          · obtain rfl : m2 = [] := List.eq_nil_of_length_eq_zero (by
              have hile : m2.length + i = m.length := hmi
              omega)
            have hge : ¬ (i : Int) < (m.length : Int) := by omega
            go_wp2_with fail
            refine (HPOP.out _ _ live_all2).mono ?_
            rintro e w7 ⟨hl7, pre, hob, hu7, hB, ⟨rfl, hpre, hst7, hq7⟩ | ⟨pr, x, rest, rfl, rfl, hperm, hpr, hxl, hq7⟩⟩
            · have hK : K = [] := List.Perm.eq_nil HI.out.perm
              subst hK
              have hst7 := HS.out.puts hq7 hu7
              have HS7 := Lib.hid hst7
              clear hst7 hq7 hu7 hB hpre hob HPOP
              go_wp2_with fail
              have hs8 := HS7.out.below (b_one w7 (.cells #[.int .i64 0, .int .i64 0, .int .i64 0] 48))
              have hlen := qlen_any hs8.que
              have hkn := known_any hs8.que
              simp only [List.length_nil, Int.natCast_zero] at hlen hkn
              refine hlen.mono ?_
              rintro e w8 ⟨rfl, rfl⟩
              go_wp2_with fail
              refine hkn.mono ?_
              rintro e w8 ⟨rfl, rfl⟩
              go_wp2_with fail
              go_ret
              exact ⟨rfl, hs8.bel⟩
            · exfalso
              have h1 := (HI.out.pos x (hperm.mem_iff.1 (by simp))).1
              simp [lv, PMap.look_nil] at hxl
              omega
theorem walk (W : World) (A : Option Addr) (cp : Nat) (l : List Dd) (hr : Kd.C kD W A l.length l) (hc : l.length ≤ cp) (hg : ∀ x ∈ l, In64 x.1 ∧ (In64 x.2.1.1 ∧ In64 x.2.1.2) ∧ In64 x.2.2) (hs : l.length * 32 ≤ reachBytes) :
    Calls Try.prog 4 #[.slice A l.length cp] W fun e w' => e = .returned (.bool true) ∧ Below W.heap.size W w' :=
  law_any A cp l W hr hc (by unfold reachBytes at hs; unfold maxLen; omega) hg
end Go.Proofs.Ythpdamkpefgmaaa.LazyAll
