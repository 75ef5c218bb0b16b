/- Layer 20: a coder, made: the symbol table and the map from pairs to symbols. -/
import Derived.Test.YthinomhjhkhidaaCodPure
import Derived.Test.YthinomhjhkhidaaFileJoin
import Derived.Test.YthinomhjhkhidaaMMapT
namespace Go.Proofs.Ythinomhjhkhidaa.Cod
open Go.RowKit Go.ChangeShapes Go.WideShapes Go.Deep Go.Proofs.YthinomhjhkhidaaW.PrintWords Go.Proofs.YthinomhjhkhidaaW.PrintLast Go.Proofs.YthinomhjhkhidaaW.PrintMore Base Foot SymPure Sym Kinds FilePure FileJoin CodPure PMap
set_option linter.unusedVariables false
set_option linter.unusedSimpArgs false
attribute [local go_sem ↓] Go.wp_at_zero Go.wp_at_succ

abbrev tCo : TypeId := 90
/-- a coder at block b, its table at tb, its map at mb -/
structure CT (B : Nat) (w : World) (b tb mb : Nat) (lv mv : Value) (T : List J) (M : List (PK × Int)) : Prop where
  blk : w.heap[b]? = some (.cells #[.pointer (some ⟨tb, 0, none⟩), .map (some mb)] tCo (0, 0))
  st : SymT B w tb lv mv T
  pm : PM w mb M
  is : Mk T M
  fb : ¬ Sym.Foot tb lv mv b
  fm : ¬ Sym.Foot tb lv mv mb
section
variable {B : Nat} {w w' : World} {b tb mb : Nat} {lv mv : Value} {T : List J} {M : List (PK × Int)} (h : CT B w b tb mb lv mv T M)
include h
theorem CT.same (hh : w'.heap = w.heap) : CT B w' b tb mb lv mv T M :=
  ⟨by rw [hh]; exact h.blk, h.st.keep fun k _ => by rw [hh], h.pm.keep (by rw [hh]), h.is, h.fb, h.fm⟩
theorem CT.below (hb : Below w.heap.size w w') : CT B w' b tb mb lv mv T M :=
  ⟨(hb.block b (block_lt h.blk)).trans h.blk, h.st.below hb, h.pm.below hb, h.is, h.fb, h.fm⟩
theorem CT.ne : b ≠ mb := by
  rintro rfl
  obtain ⟨es, cl, e⟩ := h.pm.map
  rw [h.blk] at e
  cases e
end
theorem buildCo (p' : Option Addr) (m' : Option Nat) (w : World) : (Instr.build tCo #[(0, .pointer p'), (1, .map m')]).run Try.prog w = .ok (.agg #[.pointer p', .map m']) w := run_build w _ _ _ (by kernel_rfl)
theorem buildP (a b : Int) (w : World) : (Instr.build 94 #[(0, .int .i64 a), (1, .int .i64 b)]).run Try.prog w = .ok (.agg #[.int .i64 a, .int .i64 b]) w := run_build w _ _ _ (by kernel_rfl)
attribute [-go_sem] Instr.build
attribute [local go_sem high] buildCo buildP
/-- what New tells -/
def NewV (B : Nat) (w' : World) (l : List Mg) (er : Int) (v : Value) : Prop := (er ≠ 0 → v = .pointer none) ∧ (er = 0 → ∃ b tb mb lv mv T M, v = .pointer (some ⟨b, 0, none⟩) ∧ CT B w' b tb mb lv mv T M ∧ Rel T l)
theorem NewV.yes {B : Nat} {w : World} {b tb mb : Nat} {lv mv : Value} {T : List J} {M : List (PK × Int)} {l : List Mg} (h : CT B w b tb mb lv mv T M) (r : Rel T l) : NewV B w l 0 (.pointer (some ⟨b, 0, none⟩)) :=
  ⟨fun h => absurd rfl h, fun _ => ⟨b, tb, mb, lv, mv, T, M, rfl, h, r⟩⟩
theorem foot0 {tb x : Nat} (h : x ≠ tb) : ¬ Sym.Foot tb (.slice none 0 0) (.map none) x := by
  rintro (e | e | e)
  · exact h e
  · cases e
  · cases e
theorem join_in64 (T : List J) (a c : Int) (hT : T.length ≤ 1000000) : In64 (joinI T a c) := by
  unfold joinI In64
  split <;> constructor <;> omega
theorem put_len {M : List (PK × Int)} (h : Nd M) (p : PK) (n : Int) : (putL M p n).length ≤ M.length + 1 := by
  have := drop_len h p
  unfold putL
  rw [List.length_cons]
  omega
theorem _root_.Go.Proofs.Ythinomhjhkhidaa.Sym.SymT.low {B B' : Nat} {w : World} {b : Nat} {lv mv : Value} {T : List J} (h : SymT B w b lv mv T) (hB : B' ≤ B) : SymT B' w b lv mv T := by
  refine ⟨Nat.le_trans hB h.base, h.blk, ?_, ?_, h.small, h.size, h.good⟩
  · obtain ⟨h1, h2⟩ := h.row
    refine ⟨h1, ?_⟩
    rcases h2 with h2 | ⟨g, cap, cur, a, b, c⟩
    · exact .inl h2
    · exact .inr ⟨g, cap, cur, a, Nat.le_trans hB b, c⟩
  · rcases h.map with h1 | ⟨mb, D, e, hb, ho⟩
    · exact .inl h1
    · exact .inr ⟨mb, D, e, Nat.le_trans hB hb, ho⟩
theorem CT.low {B B' : Nat} {w : World} {b tb mb : Nat} {lv mv : Value} {T : List J} {M : List (PK × Int)} (h : CT B w b tb mb lv mv T M) (hB : B' ≤ B) : CT B' w b tb mb lv mv T M := ⟨h.blk, h.st.low hB, h.pm, h.is, h.fb, h.fm⟩
theorem CT.step {B : Nat} {w5 w6 w7 : World} {b tb mb : Nat} {lv mv lv' mv' : Value} {T : List J} {M : List (PK × Int)} {p q : Int} (h : CT B w5 b tb mb lv mv T M) (ht6 : SymT B w6 tb lv' mv' (joinT T p q))
    (hU : Upd (Sym.Foot tb lv mv) (Sym.Foot tb lv' mv') w5 w6) (hp7 : PM w7 mb (putL M (p, q) (joinI T p q))) (hg : w6.grownBy w7 (some mb)) (hE : joinE T p q = 0) : CT B w7 b tb mb lv' mv' (joinT T p q) (putL M (p, q) (joinI T p q)) := by
  have hb5 := block_lt h.blk
  have hm5 := h.pm.lt
  have hs := hU.size
  have fb : ¬ Sym.Foot tb lv' mv' b := fun hf => by
    rcases hU.new _ hf with h1 | h1
    · exact h.fb h1
    · omega
  have fm : ¬ Sym.Foot tb lv' mv' mb := fun hf => by
    rcases hU.new _ hf with h1 | h1
    · exact h.fm h1
    · omega
  refine ⟨?_, ?_, hp7, h.is.snoc h.st.good hE, fb, fm⟩
  · rw [hg.block b (by omega) (by have := h.ne; simp; exact this), hU.block b hb5 h.fb]
    exact h.blk
  · refine ht6.keep fun k hk => hg.block k (ht6.foot_lt k hk).2 ?_
    intro e
    cases e
    exact fm hk
theorem chk_err {l : List Mg} (h0 : (chk [] l).2 = 0) {k : Nat} {m : Mg} (hx : l[k]? = some m) (hC : chk [] l = chk (l.take k) (l.drop k)) : errM (l.take k) m = 0 := by
  cases Decidable.em (errM (l.take k) m = 0) with
  | inl h => exact h
  | inr h => rw [hC, chk_stop hx h] at h0; exact absurd h0 h

set_option maxHeartbeats 6400000 in
set_option maxRecDepth 100000 in
theorem new_any (A : Option Addr) (cp : Nat) (l : List Mg) (w : World) (hr : Kd.C kSS w A l.length l) (hg : ∀ m ∈ l, m.1.size ≤ maxLen ∧ m.2.size ≤ maxLen) (hl : l.length ≤ 1000) :
    Calls Try.prog 28 #[.slice A l.length cp] w fun e w' => ∃ v, e = .returned (.tuple #[v, .int .i64 (chk [] l).2]) ∧ Below w.heap.size w w' ∧ NewV w.heap.size w' l (chk [] l).2 v := by
  have hmm := @run_makeMap Try.prog
  have HG := Lib.hid hg
  have hck := check_any A cp l w hr hg (by omega)
  obtain ⟨ck, hc⟩ : ∃ ck, chk [] l = ck := ⟨_, rfl⟩
  have HC0 := Lib.hid hc
  rw [hc] at hck ⊢
  obtain ⟨ca, ce⟩ := ck
  simp only at hck ⊢
  clear hg hc
  go_enter Try.func28, Try.ntmps28
  go_wp2_with fail
  refine hck.mono ?_
  rintro e w1 ⟨rfl, b1⟩
  clear hck
  by_cases h0 : ce = 0
  · subst h0
    have hE0 : (chk [] l).2 = 0 := by rw [HC0.out]
    have HE0 := Lib.hid hE0
    clear hE0 HC0
    go_wp2_with fail
    refine (Sym.new_any w1).mono ?_
    rintro e w2 ⟨rfl, ht2, b2⟩
    have hm2 := PM.made w2
    have k3 := heap_alloc_new (w2.alloc (.map #[] 0)) (.cells #[.pointer (some ⟨w1.heap.size, 0, none⟩), .map (some w2.heap.size)] tCo)
    simp only [World.size_alloc] at k3
    have s1 := b1.size
    have s2 := b2.size
    have hl2 := block_lt ht2.blk
    have ba := ((Below.refl w2.heap.size w2).alloc (Nat.le_refl _) (.map #[] 0))
    have bb := ba.alloc (by simp) (.cells #[.pointer (some ⟨w1.heap.size, 0, none⟩), .map (some w2.heap.size)] tCo)
    have hcc : ((w2.alloc (.map #[] 0)).alloc (.cells #[.pointer (some ⟨w1.heap.size, 0, none⟩), .map (some w2.heap.size)] tCo)).heap.size = w2.heap.size + 1 + 1 := by simp
    have HV := Lib.hid (show CT w1.heap.size _ (w2.heap.size + 1) w1.heap.size w2.heap.size (.slice none 0 0) (.map none) [] [] from
      ⟨k3, ht2.below bb, hm2.below ((Below.refl _ _).alloc (by simp) _), Mk.nil,
        foot0 (by omega), foot0 (by omega)⟩)
    have HB := Lib.hid (show Below w.heap.size w _ from (b1.trans (b2.mono s1)).trans (bb.mono (by omega)))
    have hsz12 : w.heap.size ≤ w1.heap.size := s1
    have HLT := Lib.hid (show w1.heap.size < w2.heap.size from hl2)
    clear hm2 k3 ba bb hcc ht2 b1 b2 s2 hl2
    go_wp2_with fail
    generalize (w2.alloc (.map #[] 0)).alloc (.cells #[.pointer (some ⟨w1.heap.size, 0, none⟩), .map (some w2.heap.size)] tCo) = w3 at *
    go_loopw [29] (fun v29 wr => ∃ (k : Nat) (T : List J) (lv mv : Value) (M : List (PK × Int)), k ≤ l.length ∧ v29 = .int .i64 (k : Int) ∧ Hid (CT w1.heap.size wr (w2.heap.size + 1) w1.heap.size w2.heap.size lv mv T M) ∧ Hid (Rel T (l.take k)) ∧ Hid (chk [] l = chk (l.take k) (l.drop k)) ∧ Hid (M.length ≤ k) ∧ Hid (Below w.heap.size w wr)) (fun i _ => l.length - (intOf i).toNat)
    case atStart => exact ⟨0, [], _, _, [], by omega, rfl, HV, Lib.hid Rel.nil, Lib.hid (rfl : chk [] l = chk (l.take 0) (l.drop 0)), Lib.hid (Nat.le_refl _), HB⟩
    case round =>
      clear HV HB
      obtain ⟨k, T, lv, mv, M, hk, rfl, HT, HR, HC, HM, HW⟩ := hrel
      by_cases hlt : k < l.length
      · have hx := List.getElem?_eq_getElem hlt
        obtain ⟨ad, e1, hx0, hx1⟩ := at_SS hr hx
        cases e1
        replace hx0 := (HW.out.cell (World.block_lt_of_cell? w _ hx0)).trans hx0
        replace hx1 := (HW.out.cell (World.block_lt_of_cell? w _ hx1)).trans hx1
        have hgx := HG.out _ (List.getElem_mem hlt)
        have hee := chk_err HE0.out hx HC.out
        have htk : l.take (k + 1) = l.take k ++ [l[k]] := List.take_succ_eq_append_getElem hlt
        have HGO := Lib.hid (HC.out.trans (chk_go hx hee))
        generalize l[k] = x at *
        obtain ⟨xa, xb⟩ := x
        simp only at hx0 hx1 hgx
        have hTl : T.length = k := by rw [HR.out.len, List.length_take]; omega
        have hba := ((Below.refl wr.heap.size wr).alloc (Nat.le_refl _) (.cells #[.string xa, .string xb] 70))
        have HT1 := Lib.hid (HT.out.below hba)
        have HW1 := Lib.hid (HW.out.trans (hba.mono HW.out.size))
        have i1 := findS_in (T := T) (by omega) xa
        have i2 := findS_in (T := T) (by omega) xb
        have hp1 := HR.out.find xa
        have hp2 := HR.out.find xb
        have hab : sideB xa (l.take k) = true ∧ sideB xb (l.take k) = true := by
          unfold errM at hee
          simp only at hee
          split at hee <;> first | omega | (rename_i hh; exact hh) | simp_all
        have hje := HR.out.err (m := (xa, xb)) hab.1 hab.2
        have hst := HR.out.step (m := (xa, xb)) hee
        simp only at hje hst
        have k0 := cell_at HT1.out.blk 0
        have k1 := cell_at HT1.out.blk 1
        simp only [List.getElem?_toArray, List.getElem?_cons_zero, List.getElem?_cons_succ] at k0 k1
        have hq1 := fun n => quiet_left (find_any (HT1.out.st.keep (w' := (wr.alloc (.cells #[.string xa, .string xb] 70)).drewN n) (fun _ _ => rfl)) xa hgx.1)
        rw [hp1, hab.1] at hq1
        rw [hab.2] at hp2
        have HQ1 := Lib.hid hq1
        have HP2 := Lib.hid hp2
        have HJE := Lib.hid (hje.trans hee)
        have HST := Lib.hid hst
        have HTK := Lib.hid htk
        clear hq1 hje hst htk hp1 hp2 hab hee hx hba
        generalize (findS T xa).1 = p at *
        obtain ⟨q, hqi⟩ : ∃ q, (findS T xb).1 = q := ⟨_, rfl⟩
        rw [hqi] at i2 HJE HST
        have HQI := Lib.hid hqi
        clear hqi
        go_wp2_with fail
        go_quiet ((go_at_call 53; exact HQ1.out _))
        go_wp2_with fail
        have HT4 := Lib.hid (HT1.out.same (w' := (wr.alloc (.cells #[.string xa, .string xb] 70)).drewN nq) rfl)
        have HW4 := Lib.hid (HW1.out.trans (bdrew _ (wr.alloc (.cells #[.string xa, .string xb] 70)) nq))
        have k0 := cell_at HT4.out.blk 0
        have hmb := (show ((wr.alloc (.cells #[.string xa, .string xb] 70)).drewN nq).heap[wr.heap.size]? = some (.cells #[.string xa, .string xb] 70 (0, 0)) from heap_alloc_new _ _)
        have k1 := cell_at hmb 1
        simp only [List.getElem?_toArray, List.getElem?_cons_zero, List.getElem?_cons_succ] at k0 k1
        generalize (wr.alloc (.cells #[.string xa, .string xb] 70)).drewN nq = w4 at *
        have hq2 := fun n => quiet_left (find_any (HT4.out.st.keep (w' := w4.drewN n) (fun _ _ => rfl)) xb hgx.2)
        rw [HQI.out, HP2.out] at hq2
        have HQ2 := Lib.hid hq2
        clear hq2 hmb HT1 HW1 HQ1
        go_quiet ((go_at_call 53; exact HQ2.out _))
        go_wp2_with fail
        have HT5 := Lib.hid (HT4.out.same (w' := w4.drewN nq) rfl)
        have HW5 := Lib.hid (HW4.out.trans (bdrew _ w4 nq))
        generalize w4.drewN nq = w5 at *
        clear HT4 HW4 k0 k1 HQ2
        refine (Sym4.join_any HT5.out.st p q i1 i2 (by omega)).mono ?_
        rintro e w6 ⟨rfl, lv', mv', ht6, hU⟩
        rw [HJE.out]
        have hb6 := (hU.block _ (block_lt HT5.out.blk) HT5.out.fb).trans HT5.out.blk
        have k1 := cell_at hb6 1
        simp only [List.getElem?_toArray, List.getElem?_cons_zero, List.getElem?_cons_succ] at k1
        have HM6 := Lib.hid (HT5.out.pm.keep (hU.block _ HT5.out.pm.lt HT5.out.fm))
        have hz := join_in64 T p q (by omega)
        obtain ⟨z, hzz⟩ : ∃ z, joinI T p q = z := ⟨_, rfl⟩
        rw [hzz] at hz ⊢
        have HZ := Lib.hid hzz
        have HT6 := Lib.hid ht6
        have HU := Lib.hid hU
        clear ht6 hU hb6 hzz
        go_wp2_with (at_mapUpdate; refine wp_put rfl _ _ _ rfl rfl HM6.out (by have := HM.out; omega) (p := (p, q)) (n := z) rfl rfl ⟨i1, i2⟩ hz ?_; intro w7 hm7 hg7)
        go_roundw
        case rel =>
          have hT7 := CT.step HT5.out HT6.out HU.out (by rw [HZ.out]; exact hm7) hg7 HJE.out
          refine ⟨k + 1, _, _, _, _, by omega, by go_num, Lib.hid hT7, Lib.hid (by rw [HTK.out]; exact HST.out), HGO, Lib.hid ?_, Lib.hid ?_⟩
          · have := put_len HM6.out.nd (p, q) (joinI T p q)
            have := HM.out
            omega
          · exact (HW5.out.trans (HU.out.below (by have := HW5.out.size; omega) fun k hk => Nat.le_trans hsz12 (HT5.out.st.foot_lt k hk).1)).grown hg7 (by have := HW5.out.size; have := HU.out.size; omega) (fun k e => by cases e; have := HLT.out; omega)
        case measure => simp [intOf]; omega
      · obtain rfl : k = l.length := by omega
        go_wp2_with fail
        go_ret2
        have hrr := HR.out
        rw [List.take_length] at hrr
        exact ⟨_, rfl, HW.out, NewV.yes (CT.low HT.out hsz12) hrr⟩
  · go_wp2_with fail
    go_ret2
    exact ⟨_, rfl, b1, fun _ => rfl, fun h => absurd h h0⟩
end Go.Proofs.Ythinomhjhkhidaa.Cod