/- Layer 12: which pair is ahead by its numbers, walked; pairs sorted by it; a map's pairs in that order. -/
import Derived.Test.YtaecngdabgnamaaMCollect
namespace Go.Proofs.Ytaecngdabgnamaa.PMap
open Go.RowKit Go.Maps Go.Sort Go.Proofs.YtaecngdabgnamaaW.PrintWords Go.Proofs.YtaecngdabgnamaaW.PrintLast Go.Proofs.YtaecngdabgnamaaW.PrintMore Base Foot ExtTail SeqPure CmpW SortK
set_option linter.unusedVariables false
set_option linter.unusedSimpArgs false
attribute [local go_sem ↓] Go.wp_at_zero Go.wp_at_succ

def cfP (x y : PK) : Int := orI (cmpI x.1 y.1) (cmpI x.2 y.2)
theorem cfP_lt (x y : PK) : Go.Proofs.ltOf cfP x y = decide (befP x y) := by
  unfold Go.Proofs.ltOf cfP orI cmpI befP
  by_cases h1 : x.1 < y.1
  · simp [h1]
  · by_cases h2 : y.1 < x.1
    · have : ¬ x.1 = y.1 := by omega
      simp [h1, h2, this]
    · have h3 : x.1 = y.1 := by omega
      by_cases h4 : x.2 < y.2
      · simp [h1, h2, h3, h4]
      · by_cases h5 : y.2 < x.2 <;> simp [h1, h2, h3, h4, h5]
theorem swoP : SWO (Go.Proofs.ltOf cfP) where
  irrefl x := by rw [cfP_lt]; simpa using befP.irrefl x
  trans x y z h1 h2 := by rw [cfP_lt] at *; simp at *; exact h1.trans h2
  ntrans x y z h1 h2 := by
    rw [cfP_lt] at *
    simp at *
    unfold befP at *
    omega
abbrev FRis : Nat := 50
abbrev FRV : Value := .func (.func FRis) #[] #[]
set_option maxHeartbeats 1600000 in
set_option maxRecDepth 100000 in
theorem rising_any (x y : PK) (W : World) : Calls Try.prog FRis #[.agg (encP x).toArray, .agg (encP y).toArray] W fun e w' => e = .returned (.int .i64 (cfP x y)) ∧ ∃ q os', w' = grow (W.drewN q) os' := by
  obtain ⟨x1, x2⟩ := x
  obtain ⟨y1, y2⟩ := y
  show Calls _ _ #[.agg #[.int .i64 x1, .int .i64 x2], .agg #[.int .i64 y1, .int .i64 y2]] _ _
  unfold cfP
  simp only
  have k1 := alloc_blk (x := .cells #[.int .i64 y1, .int .i64 y2] 23) (heap_alloc_new W (.cells #[.int .i64 x1, .int .i64 x2] 23))
  have k2 := heap_alloc_new (W.alloc (.cells #[.int .i64 x1, .int .i64 x2] 23)) (.cells #[.int .i64 y1, .int .i64 y2] 23)
  simp only [World.size_alloc] at k2
  obtain ⟨W2, hW2⟩ : ∃ W2, (W.alloc (.cells #[.int .i64 x1, .int .i64 x2] 23)).alloc (.cells #[.int .i64 y1, .int .i64 y2] 23) = W2 := ⟨_, rfl⟩
  rw [hW2] at k1 k2
  have HW := Lib.hid hW2
  have c0 := cell_at k1 0
  have c1 := cell_at k1 1
  have d0 := cell_at k2 0
  have d1 := cell_at k2 1
  simp only [List.getElem?_toArray, List.getElem?_cons_zero, List.getElem?_cons_succ] at c0 c1 d0 d1
  obtain ⟨a, ha⟩ : ∃ a, cmpI x1 y1 = a := ⟨_, rfl⟩
  obtain ⟨b, hb⟩ : ∃ b, cmpI x2 y2 = b := ⟨_, rfl⟩
  have q1 := fun V => ha ▸ compare_i x1 y1 V
  have q2 := fun V => hb ▸ compare_i x2 y2 V
  rw [ha, hb]
  clear hW2 k1 k2 ha hb
  go_enter Try.func50, Try.ntmps50
  go_wp2_with fail
  rw [HW.out]
  refine wp_region_quiet_tail (C := fun w' => ∃ n, w' = W2.drewN n) 10 (by kernel_rfl) (by kernel_rfl) ⟨1, rfl⟩ ?_
  simp only [List.take_succ_cons, List.take_zero, List.drop_succ_cons, List.drop_zero]
  repeat (quiet_step (first | (go_at_call_of 63 (Value.int .i64 x1); exact quiet_left (q1 _)) | (go_at_call_of 63 (Value.int .i64 x2); exact quiet_left (q2 _))))
  refine wpQuiet_nil ?_
  rintro w3 ⟨n, rfl⟩
  go_wp2_with fail
  refine (or_two (heap_alloc_new (W2.drewN n) _)).mono ?_
  rintro e w4 ⟨rfl, rfl⟩
  go_wp2_with fail
  go_ret
  refine ⟨rfl, n, #[.cells #[.int .i64 x1, .int .i64 x2] 23, .cells #[.int .i64 y1, .int .i64 y2] 23, .cells #[.int .i64 a, .int .i64 b] 3], ?_⟩
  rw [← HW.out]
  simp only [grow, World.drewN, World.alloc]
  congr 1
abbrev tPk : TypeId := 23
theorem isAggP (w : World) : (isAgg tPk).run Try.prog w = .ok true w := by kernel_rfl
theorem sizeP (w : World) : (Go.sizeOf tPk).run Try.prog w = .ok 2 w := by kernel_rfl
theorem sort_any {w : World} {B : Nat} {v : Value} {l : List PK} (h : w.ownsRow B tPk 2 v l.length (l.flatMap encP)) (hl : l.length ≤ 1000000) :
    Calls Try.prog 70 #[v, FRV] w fun e w' => e = .returned (.tuple #[]) ∧ ∃ l' : List PK, l'.Perm l ∧ (l'.Pairwise fun x y => ¬ befP y x) ∧ w'.ownsRow B tPk 2 v l'.length (l'.flatMap encP) ∧ Upd (fun k => v.ownBlock = some k) (fun k => v.ownBlock = some k) w w' := by
  have L := Try.sortPr
  rcases h.2 with ⟨rfl, h0⟩ | ⟨g, cap, cur, rfl, hB, hg, hc, hm, hs, ht⟩
  · have hl0 : l = [] := List.eq_nil_of_length_eq_zero h0
    subst hl0
    have hcon := AnyF.slices_SortFunc_none L none 0 FRV w
    change Calls Try.prog 70 _ _ _ at hcon
    exact hcon.mono fun e w' ⟨he, hw⟩ => by
      subst hw
      exact ⟨he, [], .refl _, .nil, h, Upd.refl⟩
  · have eg : ∀ args w, (callFunc FRis args).run Try.prog w = .ok (.enter FRis args) w := enters_of Try.func50 (by kernel_rfl) rfl
    have hcon := AnyQ.slices_SortFunc L 2 isAggP sizeP encP (fun _ => rfl) (fun x v hv => by simp [encP] at hv; rcases hv with rfl | rfl <;> rfl) cfP swoP FRis #[] g 0 cap l.toArray w eg (fun _ _ _ _ x y => rising_any x y _) (holds_own encP_len h) (block_lt hg) (by simp; omega)
    change Calls Try.prog 70 _ _ _ at hcon
    rw [List.size_toArray] at hcon
    refine hcon.mono fun e w' ⟨he, d', n, os, hp, hso, hw⟩ => ?_
    obtain ⟨p1, p2, p3⟩ := hp
    have hd : d'.size = l.length := by simpa using p1
    have hperm : d'.toList.Perm l := by
      have e1 : d'.extract 0 l.length = d' := by rw [← hd]; exact Array.extract_size
      have e2 : l.toArray.extract 0 l.length = l.toArray := by simp
      rw [e1, e2] at p3
      exact p3
    have ho := own_sorted encP_len h hperm.length_eq n os
    rw [Array.toArray_toList] at ho
    refine ⟨he, d'.toList, hperm, ?_, by rw [hw, show d'.toList.length = l.length from hperm.length_eq]; have := ho.1; rw [hperm.length_eq] at this; exact this, ?_⟩
    · rw [List.pairwise_iff_getElem]
      intro i j hi hj hij
      have hi' : i < d'.size := by simpa using hi
      have hj' : j < d'.size := by simpa using hj
      have := hso i j (Nat.zero_le _) hij (by rw [← hd]; exact hj')
      rw [cfP_lt, getElem!_pos d' i hi', getElem!_pos d' j hj'] at this
      simpa using this
    · rw [hw]
      obtain ⟨u1, u2, u3, u4, u5, u6⟩ := ho.2
      exact ⟨u1, u2, u3, u4, fun k hk hne => u5 k hk (fun e => hne (by rw [e]; rfl)), fun k hk => .inl hk⟩
/-- a list of pairs that rises -/
def RiseP (l : List PK) : Prop := l.Pairwise befP
theorem riseP_of {l : List PK} (hn : l.Nodup) (h : l.Pairwise fun x y => ¬ befP y x) : RiseP l := by
  rw [List.nodup_iff_pairwise_ne] at hn
  exact (hn.and h).imp fun {x y} ⟨h1, h2⟩ => (befP.tri h1).resolve_right h2
theorem riseP_uniq {l l' : List PK} (h : RiseP l) (h' : RiseP l') (hp : l.Perm l') : l = l' :=
  List.Perm.eq_of_pairwise (le := befP) (fun a b _ _ h1 h2 => absurd (h1.trans h2) (befP.irrefl a)) h h' hp
/-- the box of a map that a range over its keys reads -/
def KB (w : World) (Bm : Nat) (K : List (PK × Int)) : Prop :=
  (w.cell? ⟨Bm, 0, none⟩ = some (.map none) ∧ K = []) ∨ ∃ mb, w.cell? ⟨Bm, 0, none⟩ = some (.map (some mb)) ∧ PM w mb K
theorem KB.nd {w : World} {Bm : Nat} {K : List (PK × Int)} (h : KB w Bm K) : Nd K := by
  rcases h with ⟨_, rfl⟩ | ⟨mb, _, h1⟩
  · exact List.nodup_nil
  · exact h1.nd
theorem KB.seq {w : World} {Bm : Nat} {K : List (PK × Int)} (h : KB w Bm K) :
    ∃ N, N ≤ K.length ∧ SeqStopsK Fence.wide 19 Try.prog FK1 #[.pointer (some ⟨Bm, 0, none⟩)] (fun x : PQ => #[vP x.1]) KeepsWalks (fun ss => (ss.map (·.1)).Perm (K.map (·.1))) (fun _ => True) N w := by
  rcases h with ⟨h1, rfl⟩ | ⟨mb, h1, h2⟩
  · refine ⟨0, Nat.le_refl _, fun l J Jx W hW hJ hJx hY h0 => (keys_stops_nil Fence.wide 19 trivial rfl Bm w h1 l J Jx W hW hJ hJx hY h0).mono ?_⟩
    rintro e W2 ⟨hv, ⟨xs, rfl, hj⟩ | h⟩
    · exact ⟨hv, .inl ⟨[], .refl _, hj⟩⟩
    · exact ⟨hv, .inr h⟩
  · exact ⟨K.length, Nat.le_refl _, keys_stops Fence.wide 19 trivial rfl (by omega) Bm mb K w h1 h2 (fun x hx => (h2.al x hx).1)⟩
set_option maxHeartbeats 1600000 in
set_option maxRecDepth 100000 in
theorem sorted_any {w : World} {Bm : Nat} {K : List (PK × Int)} (h : KB w Bm K) (hl : K.length ≤ 900000) :
    Calls Try.prog 48 #[.func (.func FK1) #[] #[.pointer (some ⟨Bm, 0, none⟩)], FRV] w fun e w' => ∃ (v : Value) (l : List PK), e = .returned v ∧ l.Perm (K.map (·.1)) ∧ RiseP l ∧ w'.ownsRow w.heap.size tPk 2 v l.length (l.flatMap encP) ∧ Below w.heap.size w w' := by
  obtain ⟨N, hN, hseq⟩ := h.seq
  have hc := collect_any Bm _ _ N (by omega) w hseq
  have hnd := Lib.hid h.nd
  have HL := Lib.hid hl
  clear hseq hN hl h
  go_enter Try.func48, Try.ntmps48
  go_wp2_with fail
  refine hc.mono ?_
  rintro e w1 ⟨v, ss, rfl, hS, hrow, _, hb⟩
  have e1 : ss.flatMap encQ = (ss.map (·.1)).flatMap encP := by rw [List.flatMap_map]; rfl
  have e2 : ss.length = (ss.map (·.1)).length := by simp
  rw [e1, e2] at hrow
  obtain ⟨L, hL⟩ : ∃ L, ss.map (·.1) = L := ⟨_, rfl⟩
  rw [hL] at hrow hS
  have hso := sort_any hrow (by have := hS.length_eq; have := HL.out; simp at *; omega)
  have hpos := fun k hk => (hrow.lt k hk).1
  have HB := Lib.hid hb
  have HS := Lib.hid hS
  obtain ⟨A, cap, rfl⟩ : ∃ A cap, v = .slice A L.length cap := by
    rcases hrow.2 with ⟨rfl, h0⟩ | ⟨g, cap, cur, rfl, _⟩
    · exact ⟨none, 0, by rw [h0]⟩
    · exact ⟨_, _, rfl⟩
  clear hc hrow hb hS e1 e2 hL
  go_wp2_with fail
  refine hso.mono ?_
  rintro e w2 ⟨rfl, l', hp, hpw, hrow2, hu⟩
  go_wp2_with fail
  go_ret
  refine ⟨_, l', rfl, hp.trans HS.out, riseP_of ?_ hpw, hrow2, HB.out.trans (hu.below HB.out.size hpos)⟩
  exact (hp.trans HS.out).nodup_iff.2 hnd.out
end Go.Proofs.Ytaecngdabgnamaa.PMap
