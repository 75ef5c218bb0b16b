/- Layer 12: Apply, walked. -/
import Derived.Test.YtaecngdabgnamaaDeltaAll
namespace Go.Proofs.Ytaecngdabgnamaa.Delta
open Go.RowKit Go.Maps Go.Proofs.YtaecngdabgnamaaW.PrintWords Go.Proofs.YtaecngdabgnamaaW.PrintLast Go.Proofs.YtaecngdabgnamaaW.PrintMore Base Foot ExtTail PMap DMath SeqPure
set_option linter.unusedVariables false
set_option linter.unusedSimpArgs false
attribute [local go_sem ↓] Go.wp_at_zero Go.wp_at_succ

/-- what stands in each world that differs from this one in new blocks and in the footprint alone -/
def Stands (F : Nat → Prop) (w : World) (φ : World → Prop) : Prop := ∀ W : World, (∀ k, k < w.heap.size → ¬ F k → W.heap[k]? = w.heap[k]?) → φ W
theorem Stands.at {F F' : Nat → Prop} {w W : World} {φ : World → Prop} (h : Stands F w φ) (hu : Upd F F' w W) : φ W := h W hu.block
/-- an array of changes that is read -/
def Ch3 (A : Option Addr) (l : List (PK × Int)) (w : World) : Prop := ∀ (j : Nat) x, l[j]? = some x → ∃ ad, A = some ad ∧ w.cell? (ad.add (j * 3)) = some (.int .i64 x.1.1) ∧ w.cell? ⟨(ad.add (j * 3)).block, (ad.add (j * 3)).off + 1, none⟩ = some (.int .i64 x.1.2) ∧ w.cell? ⟨(ad.add (j * 3)).block, (ad.add (j * 3)).off + 2, none⟩ = some (.int .i64 x.2)
def appE (m : List (PK × Int)) : List (PK × Int) → Int → Int × List (PK × Int)
  | [], _ => (0, m)
  | x :: l, t => if (addE m x.1 x.2 t).1 = 0 then appE (addE m x.1 x.2 t).2 l t else addE m x.1 x.2 t
theorem appE_app (m : List (PK × Int)) (a b : List (PK × Int)) (t : Int) {m1 : List (PK × Int)} (h : appE m a t = (0, m1)) : appE m (a ++ b) t = appE m1 b t := by
  induction a generalizing m with
  | nil => simp [appE] at h; rw [h]; rfl
  | cons x a ih =>
    rw [List.cons_append]
    have e1 : appE m (x :: (a ++ b)) t = if (addE m x.1 x.2 t).1 = 0 then appE (addE m x.1 x.2 t).2 (a ++ b) t else addE m x.1 x.2 t := rfl
    have e2 : appE m (x :: a) t = if (addE m x.1 x.2 t).1 = 0 then appE (addE m x.1 x.2 t).2 a t else addE m x.1 x.2 t := rfl
    rw [e1]
    rw [e2] at h
    split at h
    · rename_i h0
      rw [if_pos h0]
      exact ih _ h
    · rename_i h0
      rw [h] at h0
      exact absurd rfl h0
theorem appE_one (m : List (PK × Int)) (x : PK × Int) (l : List (PK × Int)) (t : Int) : appE m (x :: l) t = if (addE m x.1 x.2 t).1 = 0 then appE (addE m x.1 x.2 t).2 l t else addE m x.1 x.2 t := rfl
/-- the counts of these changes' pairs as they were -/
def WasI (m L K : List (PK × Int)) : Prop := ∀ p, PMap.look K p = if ∃ x ∈ L, x.1 = p then some (res m p) else none
theorem WasI.nil (m : List (PK × Int)) : WasI m [] [] := fun p => by simp [PMap.look_nil]
theorem WasI.keep {m L K : List (PK × Int)} (h : WasI m L K) {x : PK × Int} (hx : (PMap.look K x.1).isSome = true) : WasI m (L ++ [x]) K := by
  intro p
  rw [h p]
  by_cases e : x.1 = p
  · subst e
    rw [h x.1] at hx
    split at hx
    · rename_i h1
      rw [if_pos h1, if_pos (by obtain ⟨y, hy, e⟩ := h1; exact ⟨y, by simp [hy], e⟩)]
    · cases hx
  · have : (∃ y ∈ L ++ [x], y.1 = p) ↔ ∃ y ∈ L, y.1 = p := by
      constructor
      · rintro ⟨y, hy, e1⟩
        rcases List.mem_append.1 hy with hy | hy
        · exact ⟨y, hy, e1⟩
        · rw [List.mem_singleton.1 hy] at e1; exact absurd e1 e
      · rintro ⟨y, hy, e1⟩; exact ⟨y, by simp [hy], e1⟩
    by_cases h1 : ∃ y ∈ L, y.1 = p
    · rw [if_pos h1, if_pos (this.2 h1)]
    · rw [if_neg h1, if_neg (fun h2 => h1 (this.1 h2))]
theorem WasI.more {m L K : List (PK × Int)} (h : WasI m L K) {x : PK × Int} : WasI m (L ++ [x]) (putL K x.1 (res m x.1)) := by
  intro p
  by_cases e : x.1 = p
  · subst e
    rw [look_put_same, if_pos ⟨x, by simp, rfl⟩]
  · rw [look_put_other _ (Ne.symm e), h p]
    have : (∃ y ∈ L ++ [x], y.1 = p) ↔ ∃ y ∈ L, y.1 = p := by
      constructor
      · rintro ⟨y, hy, e1⟩
        rcases List.mem_append.1 hy with hy | hy
        · exact ⟨y, hy, e1⟩
        · rw [List.mem_singleton.1 hy] at e1; exact absurd e1 e
      · rintro ⟨y, hy, e1⟩; exact ⟨y, by simp [hy], e1⟩
    by_cases h1 : ∃ y ∈ L, y.1 = p
    · rw [if_pos h1, if_pos (this.2 h1)]
    · rw [if_neg h1, if_neg (fun h2 => h1 (this.1 h2))]
theorem set_res (m : List (PK × Int)) (p q : PK) (r : Int) : res (setL m p r) q = if q = p then r else res m q := by
  unfold res setL
  by_cases e : q = p
  · subst e
    rw [if_pos rfl]
    split
    · rename_i h; rw [look_drop_same, h]; rfl
    · rw [look_put_same]; rfl
  · rw [if_neg e]
    split
    · rw [look_drop_other e]
    · rw [look_put_other _ e]
/-- an error leaves the counts; a pair that isn't named keeps its count -/
theorem addE_res (m : List (PK × Int)) (p q : PK) (b t : Int) (h : q ≠ p) : res (addE m p b t).2 q = res m q := by
  unfold addE
  split
  · rfl
  · split
    · rfl
    · rw [set_res, if_neg h]
theorem appE_res {l : List (PK × Int)} : ∀ {m : List (PK × Int)} {t : Int} (q : PK), (∀ x ∈ l, x.1 ≠ q) → res (appE m l t).2 q = res m q := by
  induction l with
  | nil => intro m t q _; rfl
  | cons x l ih =>
    intro m t q h
    rw [appE_one]
    split
    · rw [ih q (fun y hy => h y (by simp [hy])), addE_res _ _ _ _ _ (Ne.symm (h x (by simp)))]
    · rw [addE_res _ _ _ _ _ (Ne.symm (h x (by simp)))]
/-- the pairs whose counts are others -/
theorem other_mem {m mn l K : List (PK × Int)} (hW : WasI m l K) (hn : Nd K) (p : PK) : (p ∈ ((K.filter fun x => !(x.2 == res mn x.1)).map (·.1))) ↔ (∃ x ∈ l, x.1 = p) ∧ res m p ≠ res mn p := by
  constructor
  · intro h
    obtain ⟨x, hx, rfl⟩ := List.mem_map.1 h
    obtain ⟨hx1, hx2⟩ := List.mem_filter.1 hx
    have h1 := mem_look hn hx1
    rw [hW] at h1
    split at h1
    · rename_i h2
      refine ⟨h2, fun e => ?_⟩
      have h3 : x.2 = res m x.1 := (Option.some.inj h1).symm
      rw [h3, e] at hx2
      simp at hx2
    · cases h1
  · rintro ⟨h1, h2⟩
    have h3 := hW p
    rw [if_pos h1] at h3
    refine List.mem_map.2 ⟨(p, res m p), List.mem_filter.2 ⟨look_some_mem h3, ?_⟩, rfl⟩
    simpa using h2
theorem PM.look_ok {T : TypeId} (hT : Try.prog.underlying T = some (.map 23 3)) {w : World} {mb : Nat} {m : List (PK × Int)} (h : PM w mb m) {p : PK} (hp : P64 p) : (Instr.lookup T (.map (some mb)) (vP p) true).run Try.prog w = .ok (.tuple #[.int .i64 ((PMap.look m p).getD 0), .bool (PMap.look m p).isSome]) w := by
  obtain ⟨D, h1, h2⟩ := h
  obtain ⟨v, ps, h3, h4⟩ := h1.look_ok kyd hT (zero_i w) (plainElem_int Try.underlying3 (by decide)) (key_of hp)
  rw [h2.at_ p hp] at h4
  obtain ⟨c, rfl, hc, _⟩ := plainElem_int_inv Try.underlying3 h4
  rw [h3, h2.has_ p hp]
  have e : c = (PMap.look m p).getD 0 := by
    have := congrArg Prod.fst hc
    simpa using this.symm
  rw [e]
theorem upd_beyond {F F' G G' : Nat → Prop} {w w1 w2 : World} (h : Upd F F' w w1) (g : Upd G G' w1 w2) (hG : ∀ k, G k → w.heap.size ≤ k) : Upd F F' w w2 :=
  ⟨g.os.trans h.os, g.tape.trans h.tape, g.output.trans h.output, Nat.le_trans h.size g.size, fun k hk hf => (g.block k (Nat.lt_of_lt_of_le hk h.size) (fun e => by have := hG k e; omega)).trans (h.block k hk hf), h.new⟩
theorem drop_le (m : List (PK × Int)) (p : PK) : (dropL m p).length ≤ m.length := List.length_filter_le _ _
theorem put_le (m : List (PK × Int)) (p : PK) (n : Int) : (putL m p n).length ≤ m.length + 1 := by
  unfold putL
  have := drop_le m p
  simp
  omega
theorem addE_le (m : List (PK × Int)) (p : PK) (b t : Int) : (addE m p b t).2.length ≤ m.length + 1 := by
  unfold addE
  split
  · simp
  · split
    · simp
    · unfold setL
      split
      · have := drop_le m p; simp; omega
      · exact put_le _ _ _
set_option maxHeartbeats 6400000 in
set_option maxRecDepth 100000 in
theorem apply_any {w : World} {b : Nat} {mv : Value} {m : List (PK × Int)} (h : DT w b mv m) (l : List (PK × Int)) (A : Option Addr) (cp : Nat) (hm : m.length + l.length ≤ 900000) (hsrc : Stands (DFoot b mv) w (Ch3 A l)) (hal : ∀ x ∈ l, P64 x.1 ∧ In64 x.2) (t : Int) (ht : In64 t) :
    Calls Try.prog 30 #[.pointer (some ⟨b, 0, none⟩), .slice A l.length cp, .int .i64 t] w fun e w' => ∃ (v mv' : Value), e = .returned (.tuple #[v, .int .i64 (appE m l t).1]) ∧ DT w' b mv' (appE m l t).2 ∧ Upd (DFoot b mv) (DFoot b mv') w w' ∧
      ((appE m l t).1 ≠ 0 → v = .slice none 0 0) ∧ ((appE m l t).1 = 0 → ∃ L, RiseP L ∧ (∀ p, p ∈ L ↔ (∃ x ∈ l, x.1 = p) ∧ res m p ≠ res (appE m l t).2 p) ∧ w'.ownsRow w.heap.size tPk 2 v L.length (L.flatMap encP)) := by
  have hmm := @run_makeMap Try.prog
  have HS := Lib.hid hsrc
  have HAL := Lib.hid hal
  have hbx := heap_alloc_new w (.cells #[.pointer (some ⟨b, 0, none⟩)] 49)
  have hb1 := ((Below.refl _ w).alloc (Nat.le_refl _) (.cells #[.pointer (some ⟨b, 0, none⟩)] 49)).alloc (by simp) (.map #[] 0)
  have hm0 := PM.made (w.alloc (.cells #[.pointer (some ⟨b, 0, none⟩)] 49))
  have hbx1 := alloc_blk (x := .map #[] 0) hbx
  simp only [World.size_alloc] at hm0
  have h1 := h.below hb1
  have hlt := h.lt
  have HLT := Lib.hid hlt
  have HB1 := Lib.hid hb1
  have HH := Lib.hid h1
  have HM0 := Lib.hid hm0
  have HX := Lib.hid hbx1
  have hsz : ((w.alloc (.cells #[.pointer (some ⟨b, 0, none⟩)] 49)).alloc (.map #[] 0)).heap.size = w.heap.size + 2 := by simp
  have HSZ := Lib.hid hsz
  clear h h1 hlt hb1 hm0 hbx hbx1 hsz hsrc hal
  go_enter Try.func30, Try.ntmps30
  go_wp2_with fail
  go_loopw [17] (fun v17 wr => ∃ (i : Nat) (mi K : List (PK × Int)) (mvi : Value), i ≤ l.length ∧ v17 = .int .i64 (i : Int) ∧ Hid (DT wr b mvi mi) ∧ Hid (PM wr (w.heap.size + 1) K) ∧ Hid (¬ DFoot b mvi (w.heap.size + 1)) ∧ Hid (WasI m (l.take i) K) ∧ Hid (K.length ≤ i) ∧ Hid (mi.length ≤ m.length + i) ∧ Hid (appE m (l.take i) t = (0, mi)) ∧ Hid (Upd (DFoot b mv) (DFoot b mvi) w wr) ∧ Hid (wr.heap[w.heap.size]? = some (.cells #[.pointer (some ⟨b, 0, none⟩)] 49 (0, 0)))) (fun i _ => l.length - (intOf i).toNat)
  case atStart =>
    refine ⟨0, m, [], mv, by omega, rfl, HH, HM0, Lib.hid (fun hf => by have := HLT.out _ hf; omega), Lib.hid (by simpa using WasI.nil m), Lib.hid (by simp), Lib.hid (by simp), Lib.hid rfl, Lib.hid (Upd.of_below HB1.out), HX⟩
  case round =>
    obtain ⟨i, mi, K, mvi, hi, rfl, HD, HK, HNK, HW, HKL, HML, HE, HU, HX2⟩ := hrel
    have hi0 : (0 : Int) ≤ (i : Int) := by omega
    by_cases hlt : i < l.length
    · have hli : (i : Int) < (l.length : Int) := by omega
      have hx := List.getElem?_eq_getElem hlt
      generalize l[i] = x at hx
      have hxal := HAL.out x (List.mem_of_getElem? hx)
      obtain ⟨ad, rfl, y0, y1, y2⟩ := HS.out.at HU.out i x hx
      obtain ⟨⟨x1, x2⟩, x3⟩ := x
      simp only at y0 y1 y2 hxal
      have hba := (Below.refl _ wr).alloc (Nat.le_refl _) (.cells #[.int .i64 x1, .int .i64 x2, .int .i64 x3] 47)
      have xb := heap_alloc_new wr (.cells #[.int .i64 x1, .int .i64 x2, .int .i64 x3] 47)
      have z0 := cell_at xb 0
      have z1 := cell_at xb 1
      have z2 := cell_at xb 2
      have hKa := HK.out.below hba
      have c3 := cell_at ((hba.block _ (block_lt HX2.out)).trans HX2.out) 0
      simp only [List.getElem?_toArray, List.getElem?_cons_zero, List.getElem?_cons_succ] at z0 z1 z2 c3
      have lk := PM.look_ok Try.underlying67 hKa hxal.1
      have hDa := HD.out.below hba
      have HDA := Lib.hid hDa
      have HBA := Lib.hid hba
      have HXB := Lib.hid xb
      have HKA := Lib.hid hKa
      have HXI := Lib.hid hx
      unfold vP at lk
      obtain ⟨lo, hlo⟩ : ∃ lo, PMap.look K (x1, x2) = lo := ⟨_, rfl⟩
      rw [hlo] at lk
      clear hba xb hDa hKa hx
      go_upto_if 29 with fail
      go_cut [] from 21 to 47 (fun wc => ∃ K2, Hid (PM wc (w.heap.size + 1) K2) ∧ Hid (WasI m (l.take (i + 1)) K2) ∧ Hid (K2.length ≤ i + 1) ∧ Hid (Upd (fun k => k = w.heap.size + 1) (fun k => k = w.heap.size + 1) wr wc) ∧ Hid (wc.heap[wr.heap.size]? = some (.cells #[.int .i64 x1, .int .i64 x2, .int .i64 x3] 47 (0, 0))))
      case first =>
        have hT : l.take (i + 1) = l.take i ++ [((x1, x2), x3)] := by
          rw [List.take_add_one, HXI.out]; rfl
        have HT := Lib.hid hT
        clear hT
        cases lo with
        | some c =>
          go_wp2_with fail
          go_meet
          exact ⟨K, HKA, Lib.hid (by rw [HT.out]; exact HW.out.keep (by simp [hlo])), Lib.hid (Nat.le_succ_of_le HKL.out), Lib.hid (Upd.of_below HBA.out), HXB⟩
        | none =>
          go_wp2_with fail
          have hget := fun V (hV : Below (wr.alloc (.cells #[.int .i64 x1, .int .i64 x2, .int .i64 x3] 47)).heap.size (wr.alloc (.cells #[.int .i64 x1, .int .i64 x2, .int .i64 x3] 47)) V) => get_any (HDA.out.below hV) (x1, x2) hxal.1
          have HKA2 := HKA
          have HXB2 := HXB
          generalize wr.alloc (.cells #[.int .i64 x1, .int .i64 x2, .int .i64 x3] 47) = wa at *
          have g0 := fun g => Ext.cell (u := .int .i64 x1) z0 g
          have g1 := fun g => Ext.cell (u := .int .i64 x2) z1 g
          have g3 := fun g => Ext.cell (u := .pointer (some ⟨b, 0, none⟩)) c3 g
          refine wp_region_ext_tail 7 (by kernel_rfl) (by kernel_rfl) ?_
          simp only [List.take_succ_cons, List.take_zero, List.drop_succ_cons, List.drop_zero]
          repeat (quiet_step (first | (go_at_call 25; exact ext_of (hget _ (Ext.below _)))))
          refine wpQuiet_nil ?_
          rintro w6 ⟨⟨w7, b6⟩, he⟩
          have he2 : w6 = w7 := he
          subst he2
          clear he g0 g1 g3 hget
          have hno : ∀ y ∈ l.take i, y.1 ≠ (x1, x2) := by
            intro y hy e
            have := HW.out (x1, x2)
            rw [hlo, if_pos ⟨y, hy, e⟩] at this
            cases this
          have hrs : res mi (x1, x2) = res m (x1, x2) := by
            have := appE_res (t := t) (m := m) (x1, x2) hno
            rw [HE.out] at this
            exact this
          have hr6 := HD.out.res64 (x1, x2)
          rw [hrs] at hr6
          have HRS := Lib.hid hrs
          clear hrs hno
          have hK6 := HKA2.out.below b6
          refine wp_put rfl _ _ _ rfl rfl hK6 (by have := HKL.out; omega) (p := (x1, x2)) (n := res m (x1, x2)) rfl (by rw [← HRS.out]; rfl) hxal.1 (by unfold In64; omega) ?_
          intro w8 hK8 hg8
          go_wp2_with fail
          go_meet
          have U8 : Upd (fun k => k = w.heap.size + 1) (fun k => k = w.heap.size + 1) wr w8 :=
            (Upd.of_below (HBA.out.trans (b6.mono HBA.out.size))).trans (Upd.grown hg8 (fun k e => by cases e; rfl))
          exact ⟨_, Lib.hid hK8, Lib.hid (by rw [HT.out]; exact HW.out.more), Lib.hid (Nat.le_trans (put_le _ _ _) (by have := HKL.out; omega)), Lib.hid U8, Lib.hid (grown_blk hg8 ((b6.block _ (block_lt HXB2.out)).trans HXB2.out) (by have := block_lt HX2.out; have := HU.out.size; have h9 := HK.out.lt; simp; omega))⟩
      case rest =>
        obtain ⟨K2, HK2, HW2, HKL2, HUC, HXC⟩ := hcut
        have hDc : DT wc b mvi mi := HD.out.keep (fun k hk => HUC.out.block k (HD.out.lt k hk) (fun e => HNK.out (e ▸ hk)))
        have hbc := (HUC.out.block _ (block_lt HX2.out) (by omega)).trans HX2.out
        have d0 := cell_at HXC.out 0
        have d1 := cell_at HXC.out 1
        have d2 := cell_at HXC.out 2
        have d3 := cell_at hbc 0
        simp only [List.getElem?_toArray, List.getElem?_cons_zero, List.getElem?_cons_succ] at d0 d1 d2 d3
        have hadd := add_any hDc (by have := HML.out; omega) (x1, x2) hxal.1 x3 t hxal.2 ht
        have HDC := Lib.hid hDc
        have HBC := Lib.hid hbc
        unfold vP at hadd
        clear hDc hbc z0 z1 z2 c3 lk y0 y1 y2 HDA HBA HXB HKA
        obtain ⟨er, her⟩ : ∃ er, addE mi (x1, x2) x3 t = er := ⟨_, rfl⟩
        rw [her] at hadd
        have HER := Lib.hid her
        clear her
        go_wp2_with fail
        refine hadd.mono ?_
        rintro e w5 ⟨rfl, mv5, hD5, hu5⟩
        have HD5 := Lib.hid hD5
        have HU5 := Lib.hid hu5
        clear hadd hD5 hu5
        have HUA := Lib.hid ((upd_beyond HU.out HUC.out (fun k e => by omega)).trans HU5.out)
        have hcons : l = l.take i ++ ((x1, x2), x3) :: l.drop (i + 1) := by
          have := List.take_append_drop i l
          rw [List.drop_eq_getElem_cons hlt] at this
          have e3 := HXI.out
          rw [List.getElem?_eq_getElem hlt] at e3
          rw [Option.some.inj e3] at this
          exact this.symm
        have HCO := Lib.hid hcons
        clear hcons
        by_cases h0 : er.1 = 0
        · have h0b : (er.1 != 0) = false := by simp [h0]
          go_wp2_with fail
          go_roundw
          case rel =>
            have hmwl := HK2.out.lt
            refine ⟨i + 1, er.2, K2, mv5, by omega, by go_num, HD5, Lib.hid (HK2.out.keep (HU5.out.block _ hmwl HNK.out)), Lib.hid (fun hf => ?_), HW2, HKL2, Lib.hid ?_, Lib.hid ?_, HUA, Lib.hid ?_⟩
            · rcases HU5.out.new _ hf with h2 | h2
              · exact HNK.out h2
              · omega
            · have := addE_le mi (x1, x2) x3 t
              have := HML.out
              rw [HER.out] at *
              omega
            · have e1 : l.take (i + 1) = l.take i ++ [((x1, x2), x3)] := by
                rw [List.take_add_one, HXI.out]; rfl
              rw [e1, appE_app _ _ _ _ HE.out, appE_one, HER.out, if_pos h0]
              show appE er.2 [] t = (0, er.2)
              rfl
            · refine (HU5.out.block _ (block_lt HBC.out) ?_).trans HBC.out
              rintro (hf | hf)
              · have := HLT.out b (.inl rfl); omega
              · rcases HDC.out.map with ⟨e9, _⟩ | ⟨mb9, e9, h9⟩
                · rw [hf] at e9; cases e9
                · rw [hf] at e9; cases e9
                  obtain ⟨es, cl, h10⟩ := h9.map
                  rw [HBC.out] at h10; cases h10
          case measure => simp [intOf]; omega
        · have h0b : (er.1 != 0) = true := by simp [h0]
          go_wp2_with fail
          go_ret2
          have hap : appE m l t = er := by
            refine (congrArg (fun z => appE m z t) HCO.out).trans ?_
            show appE m (l.take i ++ ((x1, x2), x3) :: l.drop (i + 1)) t = er
            rw [appE_app _ _ _ _ HE.out, appE_one, HER.out, if_neg h0]
          rw [hap]
          exact ⟨.slice none 0 0, mv5, rfl, HD5.out, HUA.out, fun _ => rfl, fun h => absurd h h0⟩
    · obtain rfl : i = l.length := by omega
      have HEE := Lib.hid (show appE m l t = (0, mi) by have := HE.out; rw [List.take_length] at this; exact this)
      have HWW := Lib.hid (show WasI m l K by have := HW.out; rw [List.take_length] at this; exact this)
      have hmwl := HK.out.lt
      have hdf := delfunc_any HK.out 52 #[.pointer (some ⟨w.heap.size, 0, none⟩)] (fun p c => c == res mi p) (enters_of Try.func52 (by kernel_rfl) rfl)
        (fun W p c hg hp => by
          have hW : DT W b mvi mi := HD.out.keep (fun k hk => hg.block k (HD.out.lt k hk) (fun e => HNK.out (by cases e; exact hk)))
          have hc := (hg.block w.heap.size (block_lt HX2.out) (by simp)).trans HX2.out
          exact same_any hW (by have := cell_at hc 0; simpa using this) p hp c)
      have hnd := HK.out.nd
      have hkl := HKL.out
      have HND := Lib.hid hnd
      clear hnd
      go_wp2_with fail
      refine hdf.mono ?_
      rintro e w5 ⟨rfl, hK5, hg5⟩
      have hs5 := hg5.size
      have hk5 := keys_any (some (w.heap.size + 1)) w5
      have hb5 := (Below.refl _ w5).alloc (Nat.le_refl _) (.cells #[.map (some (w.heap.size + 1))] 67)
      have hso := sorted_any (w := w5.alloc (.cells #[.map (some (w.heap.size + 1))] 67)) (Bm := w5.heap.size) (K := K.filter fun x => !(x.2 == res mi x.1)) (.inr ⟨_, cell_at (heap_alloc_new _ _) 0, hK5.below hb5⟩) (Nat.le_trans (List.length_filter_le _ _) (by omega))
      have HB5 := Lib.hid hb5
      have HG5 := Lib.hid hg5
      clear hb5 hdf hK5 hg5
      go_wp2_with fail
      refine hk5.mono ?_
      rintro e w6 ⟨rfl, rfl⟩
      go_wp2_with fail
      refine hso.mono ?_
      rintro e w7 ⟨v, L, rfl, q1, q2, q3, q4⟩
      obtain ⟨A7, cap7, rfl⟩ : ∃ A cap, v = .slice A L.length cap := by
        rcases q3.2 with ⟨rfl, h0⟩ | ⟨g, cap, cur, rfl, _⟩
        · exact ⟨none, 0, by rw [h0]⟩
        · exact ⟨_, _, rfl⟩
      have Q1 := Lib.hid q1
      have Q2 := Lib.hid q2
      have Q3 := Lib.hid q3
      have Q4 := Lib.hid q4
      clear q1 q2 q3 q4 hso hk5
      go_wp2_with fail
      go_ret2
      have hD7 : DT w7 b mvi mi := HD.out.keep (fun k hk => by
        have hkl := HD.out.lt k hk
        rw [Q4.out.block k (by simp; omega), HB5.out.block k (by omega)]
        exact HG5.out.block k hkl (fun e => HNK.out (by cases e; exact hk)))
      have hU7 : Upd (fun k => k = w.heap.size + 1) (fun k => k = w.heap.size + 1) wr w7 := (Upd.grown HG5.out (fun k e => by cases e; rfl)).trans (Upd.of_below (HB5.out.trans (Q4.out.mono (by simp))))
      rw [HEE.out]
      refine ⟨_, mvi, rfl, hD7, upd_beyond HU.out hU7 (fun k e => by omega), fun h => absurd rfl h, fun _ => ⟨L, Q2.out, fun p => ?_, own_base Q3.out (by simp; omega)⟩⟩
      rw [Q1.out.mem_iff]
      exact other_mem HWW.out HND.out p
end Go.Proofs.Ytaecngdabgnamaa.Delta
