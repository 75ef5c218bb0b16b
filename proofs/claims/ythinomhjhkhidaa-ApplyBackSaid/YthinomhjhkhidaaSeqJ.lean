/- Layer 11: a symbol is put in the place of a pair, walked. -/
import Derived.Test.YthinomhjhkhidaaSeqG
namespace Go.Proofs.Ythinomhjhkhidaa.SeqM
open Go.RowKit Go.Maps Go.Proofs.YthinomhjhkhidaaW.PrintWords Go.Proofs.YthinomhjhkhidaaW.PrintLast Go.Proofs.YthinomhjhkhidaaW.PrintMore Base Foot ExtTail PMap SeqPure
set_option linter.unusedVariables false
set_option linter.unusedSimpArgs false
attribute [local go_sem ↓] Go.wp_at_zero Go.wp_at_succ

theorem fset : ∀ (C : List Cel) (i : Nat) (c : Cel), C[i]? = some c → (∀ z, (C.flatMap encC).set (i * 3) (.int .i64 z) = (C.set i (z, c.2.1, c.2.2)).flatMap encC) ∧ (∀ z, (C.flatMap encC).set (i * 3 + 1) (.int .i64 z) = (C.set i (c.1, z, c.2.2)).flatMap encC) ∧ (∀ z, (C.flatMap encC).set (i * 3 + 2) (.int .i64 z) = (C.set i (c.1, c.2.1, z)).flatMap encC)
  | [], i, c, h => by simp at h
  | a :: t, 0, c, h => by
    have e : a = c := by simpa using h
    subst e
    simp [encC]
  | a :: t, i + 1, c, h => by
    obtain ⟨h1, h2, h3⟩ := fset t i c (by simpa using h)
    simp only [List.flatMap_cons, List.set_cons_succ, encC]
    rw [show (i + 1) * 3 = i * 3 + 1 + 1 + 1 by omega, show i * 3 + 1 + 1 + 1 + 1 = (i * 3 + 1) + 1 + 1 + 1 by omega, show i * 3 + 1 + 1 + 1 + 2 = (i * 3 + 2) + 1 + 1 + 1 by omega]
    exact ⟨fun z => by simpa using h1 z, fun z => by simpa using h2 z, fun z => by simpa using h3 z⟩
theorem nxe_app (pre : List Knot) (i : Nat) (s z : Int) (r r' : List Knot) (e e' : Int) : nxe (pre ++ (i, s) :: r) e = nxe (pre ++ (i, z) :: r') e' := by cases pre <;> rfl
theorem seg_at {C : List Cel} {pre r : List Knot} {i : Nat} {s : Int} (h : Seg C (-1) (pre ++ (i, s) :: r) (-1)) : C[i]? = some (s, lastI (-1) pre, nxe r (-1)) := (Seg.app.1 h).2.1
theorem lastI_snoc : ∀ (pre : List Knot) (p : Int) (x : Knot), lastI p (pre ++ [x]) = (x.1 : Int)
  | [], _, _ => rfl
  | y :: r, p, x => lastI_snoc r _ x
theorem snoc_cases (pre : List Knot) : pre = [] ∨ ∃ a x, pre = a ++ [x] := by
  rcases List.eq_nil_or_concat pre with h | ⟨a, x, h⟩
  · exact .inl h
  · exact .inr ⟨a, x, by simpa using h⟩
/-- the pairs at a place and ahead of it -/
theorem pa_on {C : List Cel} {pre r : List Knot} {i : Nat} {s : Int} (h : Seg C (-1) (pre ++ (i, s) :: r) (-1)) : PA C (i : Int) (hd2 s r) := by
  have h1 := seg_at h
  cases r with
  | nil => exact .inr ⟨i, s, _, rfl, h1⟩
  | cons x r =>
    obtain ⟨j, t⟩ := x
    have h2 : C[j]? = _ := seg_at (pre := pre ++ [(i, s)]) (by simpa using h)
    exact ⟨i, j, _, _, _, rfl, h1, h2⟩
theorem pa_back {C : List Cel} {pre r : List Knot} {i : Nat} {s : Int} (h : Seg C (-1) (pre ++ (i, s) :: r) (-1)) : PA C (lastI (-1) pre) (la2 pre s) := by
  rcases snoc_cases pre with rfl | ⟨a, x, rfl⟩
  · exact .inl (by decide)
  · obtain ⟨k, u⟩ := x
    have h2 := pa_on (pre := a) (i := k) (s := u) (r := (i, s) :: r) (by simpa using h)
    rw [lastI_snoc]
    have e : la2 (a ++ [(k, u)]) s = hd2 u ((i, s) :: r) := by simp [la2, hd2, syms]
    rw [e]
    exact h2
theorem map_ne {B : Nat} {w : World} {b : Nat} {sv : Value} {C : List Cel} {X : List Knot} (h : SeqT B w b sv C X) {mb : Nat} {m : List (PK × Int)} (hm : PM w mb m) : ∀ k, SFoot b sv k → k ≠ mb := by
  obtain ⟨es, cl, e⟩ := hm.map
  rintro k (rfl | hk) rfl
  · rw [h.blk] at e; cases e
  · have := own_cells h.row hk e
    cases this
/-- the stores of a join -/
theorem join_mem {B : Nat} {w : World} {b g cap : Nat} {C : List Cel} {pre rest : List Knot} {i j : Nat} {s t z : Int} (h : SeqT B w b (.slice (some ⟨g, 0, none⟩) C.length cap) C (pre ++ (i, s) :: (j, t) :: rest)) (hz : In64 z) (W : World)
    (hW : W = (match rest with
      | [] => ((w.setCell ⟨g, i * 3, none⟩ (.int .i64 z)).setCell ⟨g, i * 3 + 2, none⟩ (.int .i64 (-1))).setCell ⟨b, 2, none⟩ (.int .i64 (((pre ++ (i, s) :: (j, t) :: rest).length : Int) - 1))
      | (k, u) :: r => (((w.setCell ⟨g, i * 3, none⟩ (.int .i64 z)).setCell ⟨g, i * 3 + 2, none⟩ (.int .i64 (k : Int))).setCell ⟨g, k * 3 + 1, none⟩ (.int .i64 (i : Int))).setCell ⟨b, 2, none⟩ (.int .i64 (((pre ++ (i, s) :: (j, t) :: rest).length : Int) - 1)))) :
    SeqT B W b (.slice (some ⟨g, 0, none⟩) C.length cap) (joinC C i z (lastI (-1) pre) rest) (pre ++ (i, z) :: rest) ∧ Upd (SFoot b (.slice (some ⟨g, 0, none⟩) C.length cap)) (SFoot b (.slice (some ⟨g, 0, none⟩) C.length cap)) w W := by
  have hgb : g ≠ b := h.bne g rfl
  obtain ⟨q1, q2⟩ := join_seg (z := z) h.seg h.idx
  have hi := seg_at h.seg
  have hil := (List.getElem?_eq_some_iff.1 hi).1
  have hsym : ∀ x ∈ pre ++ (i, z) :: rest, In64 x.2 := by
    intro x hx
    rcases List.mem_append.1 hx with hx | hx
    · exact h.sym x (by simp [hx])
    · rcases List.mem_cons.1 hx with rfl | hx
      · exact hz
      · exact h.sym x (by simp [hx])
  have hlen : ((pre ++ (i, s) :: (j, t) :: rest).length : Int) - 1 = ((pre ++ (i, z) :: rest).length : Int) := by simp; omega
  have hfst := nxe_app pre i s z ((j, t) :: rest) rest (-1) (-1)
  have r1 := (h.row.stored (i * 3) (.int .i64 z)).1
  rw [(fset C i _ hi).1 z] at r1
  have hi1 : (C.set i (z, lastI (-1) pre, nxe ((j, t) :: rest) (-1)))[i]? = some (z, lastI (-1) pre, nxe ((j, t) :: rest) (-1)) := by simp [hil]
  cases rest with
  | nil =>
    subst hW
    have r2 := (r1.stored (i * 3 + 2) (.int .i64 (-1))).1
    rw [(fset _ i _ hi1).2.2 (-1), List.set_set] at r2
    refine ⟨⟨?_, ?_, q1, q2, by rw [joinC_len]; exact h.num, hsym⟩, ?_⟩
    · rw [set_at (set_blk (set_blk h.blk (Ne.symm hgb)) (Ne.symm hgb)), hlen, hfst]; rfl
    · rw [joinC_len]
      exact own_keep r2 fun k hk => set_blk_eq (by cases hk; exact hgb)
    · exact ((Upd.set (p := ⟨g, i * 3, none⟩) (.inr rfl)).trans (Upd.set (p := ⟨g, i * 3 + 2, none⟩) (.inr rfl))).trans (Upd.set (p := ⟨b, 2, none⟩) (.inl rfl))
  | cons x r =>
    obtain ⟨k, u⟩ := x
    simp only at hW
    subst hW
    have hk : C[k]? = some (u, (j : Int), nxe r (-1)) := by
      have := seg_at (C := C) (pre := pre ++ [(i, s), (j, t)]) (i := k) (s := u) (r := r) (by simpa using h.seg)
      rw [show pre ++ [(i, s), (j, t)] = (pre ++ [(i, s)]) ++ [(j, t)] by simp, lastI_snoc] at this
      exact this
    have hik : i ≠ k := by
      have h2 := (List.pairwise_append.1 h.idx).2.1
      have := (List.pairwise_cons.1 h2).1 (k, u) (by simp)
      simp at this
      omega
    have r2 := (r1.stored (i * 3 + 2) (.int .i64 (k : Int))).1
    rw [(fset _ i _ hi1).2.2 (k : Int), List.set_set] at r2
    have hk1 : (C.set i (z, lastI (-1) pre, (k : Int)))[k]? = some (u, (j : Int), nxe r (-1)) := by rw [List.getElem?_set_ne hik]; exact hk
    have r3 := (r2.stored (k * 3 + 1) (.int .i64 (i : Int))).1
    rw [(fset _ k _ hk1).2.1 (i : Int)] at r3
    refine ⟨⟨?_, ?_, q1, q2, by rw [joinC_len]; exact h.num, hsym⟩, ?_⟩
    · rw [set_at (set_blk (set_blk (set_blk h.blk (Ne.symm hgb)) (Ne.symm hgb)) (Ne.symm hgb)), hlen, hfst]; rfl
    · rw [joinC_len]
      exact own_keep r3 fun k hk => set_blk_eq (by cases hk; exact hgb)
    · exact (((Upd.set (p := ⟨g, i * 3, none⟩) (.inr rfl)).trans (Upd.set (p := ⟨g, i * 3 + 2, none⟩) (.inr rfl))).trans (Upd.set (p := ⟨g, k * 3 + 1, none⟩) (.inr rfl))).trans (Upd.set (p := ⟨b, 2, none⟩) (.inl rfl))
theorem idx_len : ∀ (X : List Knot) (a n : Nat), Idx X → (∀ x ∈ X, a ≤ x.1 ∧ x.1 < n) → X.length ≤ n - a
  | [], _, _, _, _ => by simp
  | x :: r, a, n, hI, h => by
    obtain ⟨h1, h2⟩ := List.pairwise_cons.1 hI
    have := idx_len r (x.1 + 1) n h2 fun y hy => ⟨h1 y hy, (h y (by simp [hy])).2⟩
    have := h x (by simp)
    simp
    omega
theorem seg_lt {C : List Cel} : ∀ {X : List Knot} {p e : Int}, Seg C p X e → ∀ x ∈ X, x.1 < C.length
  | [], _, _, _, x, hx => by cases hx
  | y :: r, p, e, h, x, hx => by
    rcases List.mem_cons.1 hx with rfl | hx
    · exact (List.getElem?_eq_some_iff.1 h.1).1
    · exact seg_lt h.2 x hx
theorem SeqT.len {B : Nat} {w : World} {b : Nat} {sv : Value} {C : List Cel} {X : List Knot} (h : SeqT B w b sv C X) : X.length ≤ C.length :=
  idx_len X 0 C.length h.idx fun x hx => ⟨Nat.zero_le _, seg_lt h.seg x hx⟩
def Rg (K : Int) (m : List (PK × Int)) : Prop := ∀ q, -K ≤ lv m q ∧ lv m q ≤ K
theorem rg_addO {K : Int} {m : List (PK × Int)} (h : Rg K m) (o : Option PK) (d : Int) (hd : -1 ≤ d ∧ d ≤ 1) : Rg (K + 1) (addO m o d) := fun q => by
  have h1 := h q
  cases o with
  | none => show -(K + 1) ≤ lv m q ∧ lv m q ≤ K + 1; omega
  | some p =>
    show -(K + 1) ≤ lv (addL m p d) q ∧ lv (addL m p d) q ≤ K + 1
    rw [lv_addL]
    split <;> omega
theorem lv_addO (m : List (PK × Int)) (o : Option PK) (d : Int) (q : PK) : lv (addO m o d) q = lv m q + oadd o d q := by
  cases o with
  | none => simp [addO, oadd]
  | some p => simp only [addO, oadd, lv_addL, Option.some.injEq]
theorem nz_addO {m : List (PK × Int)} (h : NZ m) (o : Option PK) (d : Int) : NZ (addO m o d) := by
  cases o with
  | none => exact h
  | some p => exact nz_addL h p d
theorem len_addO (m : List (PK × Int)) (o : Option PK) (d : Int) : (addO m o d).length ≤ m.length + 1 := by
  cases o with
  | none => exact Nat.le_succ _
  | some p => exact len_addL m p d
theorem ho_of {K : Int} {m : List (PK × Int)} (h : Rg K m) (hK : K ≤ 1000000000) {o : Option PK} (hp : ∀ q, o = some q → P64 q) (d : Int) (hd : -1 ≤ d ∧ d ≤ 1) : ∀ q, o = some q → P64 q ∧ In64 (lv m q + d) := fun q e => ⟨hp q e, by have := h q; unfold In64; omega⟩
theorem p64_la2 {pre : List Knot} {s : Int} (h : ∀ x ∈ pre, In64 x.2) (hs : In64 s) : ∀ q, la2 pre s = some q → P64 q := fun q e => by
  unfold la2 syms at e
  obtain ⟨a, h1, h2⟩ := Option.map_eq_some_iff.1 e
  subst h2
  obtain ⟨x, hx, rfl⟩ := List.mem_map.1 (List.mem_of_getLast? h1)
  exact ⟨h x hx, hs⟩
theorem p64_hd2 {r : List Knot} {s : Int} (h : ∀ x ∈ r, In64 x.2) (hs : In64 s) : ∀ q, hd2 s r = some q → P64 q := fun q e => by
  unfold hd2 syms at e
  obtain ⟨a, h1, h2⟩ := Option.map_eq_some_iff.1 e
  subst h2
  obtain ⟨x, hx, rfl⟩ := List.mem_map.1 (List.mem_of_mem_head? h1)
  exact ⟨hs, h x hx⟩
abbrev JF (b : Nat) (sv : Value) (mb k : Nat) : Prop := SFoot b sv k ∨ k = mb
theorem upd_m {b : Nat} {sv : Value} {mb : Nat} {w w' : World} (h : Upd (fun k => k = mb) (fun k => k = mb) w w') : Upd (JF b sv mb) (JF b sv mb) w w' :=
  ⟨h.os, h.tape, h.output, h.size, fun k hk hf => h.block k hk (fun e => hf (.inr e)), fun k hk => .inl hk⟩
theorem upd_s {b : Nat} {sv : Value} {mb : Nat} {w w' : World} (h : Upd (SFoot b sv) (SFoot b sv) w w') : Upd (JF b sv mb) (JF b sv mb) w w' :=
  ⟨h.os, h.tape, h.output, h.size, fun k hk hf => h.block k hk (fun e => hf (.inl e)), fun k hk => .inl hk⟩
theorem noted {B : Nat} {w w' : World} {b : Nat} {sv : Value} {C : List Cel} {X : List Knot} (h : SeqT B w b sv C X) {mb : Nat} (hne : ∀ k, SFoot b sv k → k ≠ mb) (u : Upd (fun k => k = mb) (fun k => k = mb) w w') : SeqT B w' b sv C X := h.keep fun k hk => u.block k (h.lt k hk) (hne k hk)
abbrev joinM (m : List (PK × Int)) (pre rest : List Knot) (s t z : Int) : List (PK × Int) := addO (addO (addO (addO (addO m (la2 pre s) (-1)) (some (s, t)) (-1)) (hd2 t rest) (-1)) (la2 pre z) 1) (hd2 z rest) 1

theorem join_mem_cons {B : Nat} {w : World} {b g cap : Nat} {C : List Cel} {pre r : List Knot} {i j k : Nat} {s t u z : Int} (h : SeqT B w b (.slice (some ⟨g, 0, none⟩) C.length cap) C (pre ++ (i, s) :: (j, t) :: (k, u) :: r)) (hz : In64 z) {n : Nat} (hn : (pre ++ (i, s) :: (j, t) :: (k, u) :: r).length = n) :
    SeqT B ((((w.setCell ⟨g, i * 3, none⟩ (.int .i64 z)).setCell ⟨g, i * 3 + 2, none⟩ (.int .i64 (k : Int))).setCell ⟨g, k * 3 + 1, none⟩ (.int .i64 (i : Int))).setCell ⟨b, 2, none⟩ (.int .i64 ((n : Int) - 1))).drew b (.slice (some ⟨g, 0, none⟩) C.length cap) (joinC C i z (lastI (-1) pre) ((k, u) :: r)) (pre ++ (i, z) :: (k, u) :: r) ∧ Upd (SFoot b (.slice (some ⟨g, 0, none⟩) C.length cap)) (SFoot b (.slice (some ⟨g, 0, none⟩) C.length cap)) w ((((w.setCell ⟨g, i * 3, none⟩ (.int .i64 z)).setCell ⟨g, i * 3 + 2, none⟩ (.int .i64 (k : Int))).setCell ⟨g, k * 3 + 1, none⟩ (.int .i64 (i : Int))).setCell ⟨b, 2, none⟩ (.int .i64 ((n : Int) - 1))).drew := by
  subst hn
  obtain ⟨h1, h2⟩ := join_mem (rest := (k, u) :: r) h hz _ rfl
  exact ⟨h1.keep fun _ _ => rfl, h2.drew⟩
theorem join_mem_nil {B : Nat} {w : World} {b g cap : Nat} {C : List Cel} {pre : List Knot} {i j : Nat} {s t z : Int} (h : SeqT B w b (.slice (some ⟨g, 0, none⟩) C.length cap) C (pre ++ [(i, s), (j, t)])) (hz : In64 z) {n : Nat} (hn : (pre ++ [(i, s), (j, t)]).length = n) :
    SeqT B (((w.setCell ⟨g, i * 3, none⟩ (.int .i64 z)).setCell ⟨g, i * 3 + 2, none⟩ (.int .i64 (-1))).setCell ⟨b, 2, none⟩ (.int .i64 ((n : Int) - 1))).drew b (.slice (some ⟨g, 0, none⟩) C.length cap) (joinC C i z (lastI (-1) pre) []) (pre ++ [(i, z)]) ∧ Upd (SFoot b (.slice (some ⟨g, 0, none⟩) C.length cap)) (SFoot b (.slice (some ⟨g, 0, none⟩) C.length cap)) w (((w.setCell ⟨g, i * 3, none⟩ (.int .i64 z)).setCell ⟨g, i * 3 + 2, none⟩ (.int .i64 (-1))).setCell ⟨b, 2, none⟩ (.int .i64 ((n : Int) - 1))).drew := by
  subst hn
  obtain ⟨h1, h2⟩ := join_mem (rest := []) h hz _ rfl
  exact ⟨h1.keep fun _ _ => rfl, h2.drew⟩
theorem pm_far {w w' : World} {b : Nat} {sv : Value} {mb : Nat} {m : List (PK × Int)} (hm : PM w mb m) (u : Upd (SFoot b sv) (SFoot b sv) w w') (hne : ∀ k, SFoot b sv k → k ≠ mb) : PM w' mb m :=
  hm.keep (u.block mb hm.lt fun hk => hne mb hk rfl)
set_option maxHeartbeats 3200000 in
set_option maxRecDepth 100000 in
theorem join_cons {B : Nat} {w : World} {b : Nat} {sv : Value} {C : List Cel} {pre r : List Knot} {i j k : Nat} {s t u z : Int} (h : SeqT B w b sv C (pre ++ (i, s) :: (j, t) :: (k, u) :: r)) (hz : In64 z) {mb : Nat} {m : List (PK × Int)} (hm : PM w mb m) (hl : m.length ≤ 800000) (hR : Rg 100000000 m) :
    Calls Try.prog 80 #[.pointer (some ⟨b, 0, none⟩), .map (some mb), .int .i64 i, .int .i64 z] w fun e w' => e = .returned (.tuple #[]) ∧ SeqT B w' b sv (joinC C i z (lastI (-1) pre) ((k, u) :: r)) (pre ++ (i, z) :: (k, u) :: r) ∧ PM w' mb (joinM m pre ((k, u) :: r) s t z) ∧ Upd (JF b sv mb) (JF b sv mb) w w' := by
  have hne := map_ne h hm
  have hi := seg_at h.seg
  have hj := seg_at (pre := pre ++ [(i, s)]) (i := j) (s := t) (r := (k, u) :: r) (by simpa using h.seg)
  have hk := seg_at (pre := pre ++ [(i, s), (j, t)]) (i := k) (s := u) (r := r) (by simpa using h.seg)
  have a1 := pa_back h.seg
  have a2 : PA C (i : Int) (some (s, t)) := pa_on h.seg
  have a3 := pa_on (pre := pre ++ [(i, s)]) (i := j) (s := t) (r := (k, u) :: r) (by simpa using h.seg)
  have hs1 : ∀ x ∈ pre, In64 x.2 := fun x hx => h.sym x (by simp [hx])
  have hs2 : In64 s := h.sym (i, s) (by simp)
  have hs3 : In64 t := h.sym (j, t) (by simp)
  have hs4 : ∀ x ∈ (k, u) :: r, In64 x.2 := fun x hx => h.sym x (by rcases List.mem_cons.1 hx with rfl | hx <;> simp [*])
  have g1 := ho_of hR (by omega) (p64_la2 hs1 hs2) (-1) (by omega)
  have hR1 := rg_addO hR (la2 pre s) (-1) (by omega)
  have g2 := ho_of (o := some (s, t)) hR1 (by omega) (fun q e => by cases e; exact ⟨hs2, hs3⟩) (-1) (by omega)
  have hR2 := rg_addO hR1 (some (s, t)) (-1) (by omega)
  have g3 := ho_of hR2 (by omega) (p64_hd2 hs4 hs3) (-1) (by omega)
  have hR3 := rg_addO hR2 (hd2 t ((k, u) :: r)) (-1) (by omega)
  have g4 := ho_of hR3 (by omega) (p64_la2 hs1 hz) 1 (by omega)
  have hR4 := rg_addO hR3 (la2 pre z) 1 (by omega)
  have g5 := ho_of hR4 (by omega) (p64_hd2 hs4 hz) 1 (by omega)
  have l1 := len_addO m (la2 pre s) (-1)
  have l2 := len_addO (addO m (la2 pre s) (-1)) (some (s, t)) (-1)
  have l3 := len_addO (addO (addO m (la2 pre s) (-1)) (some (s, t)) (-1)) (hd2 t ((k, u) :: r)) (-1)
  have l4 := len_addO (addO (addO (addO m (la2 pre s) (-1)) (some (s, t)) (-1)) (hd2 t ((k, u) :: r)) (-1)) (la2 pre z) 1
  obtain ⟨g, cap, rfl, hcap, hil, y0, y1, y2⟩ := h.at_ hi
  have hjl := (List.getElem?_eq_some_iff.1 hj).1
  have hkl := (List.getElem?_eq_some_iff.1 hk).1
  have hnum := h.num
  have c0 := cell_at h.blk 0
  simp only [List.getElem?_toArray, List.getElem?_cons_zero, List.getElem?_cons_succ] at c0
  have hi0 : (0 : Int) ≤ (i : Int) := by omega
  have hj0 : (0 : Int) ≤ (j : Int) := by omega
  have hk0 : (0 : Int) ≤ (k : Int) := by omega
  have hil2 : (i : Int) < (C.length : Int) := by omega
  have hjl2 : (j : Int) < (C.length : Int) := by omega
  have hkl2 : (k : Int) < (C.length : Int) := by omega
  have H := Lib.hid h
  have HM := Lib.hid hm
  have HNE := Lib.hid hne
  have HJ := Lib.hid hj
  have HK := Lib.hid hk
  have A1 := Lib.hid a1
  have A2 := Lib.hid a2
  have A3 := Lib.hid a3
  have G1 := Lib.hid g1
  have G2 := Lib.hid g2
  have G3 := Lib.hid g3
  have G4 := Lib.hid g4
  have G5 := Lib.hid g5
  obtain ⟨bk, hbk⟩ : ∃ bk, lastI (-1) pre = bk := ⟨_, rfl⟩
  have HBK := Lib.hid hbk
  rw [hbk] at y1
  rw [hbk] at A1
  clear h hm hne hi hj hk a1 a2 a3 hs1 hs2 hs3 hs4 g1 g2 g3 g4 g5 hR hR1 hR2 hR3 hR4 hbk y0
  simp only [nxe] at y1 y2
  go_enter Try.func80, Try.ntmps80
  have e0 := fun g => Ext.cell c0 g
  have e1 := fun g => Ext.cell y1 g
  have e2 := fun g => Ext.cell y2 g
  go_wp2_with fail
  refine wp_region_ext (by kernel_rfl) (by kernel_rfl) ?_
  repeat (quiet_step (fail))
  refine wpQuiet_nil ?_
  rintro w1 ⟨⟨_, b1⟩, rfl⟩
  have h1 := H.out.below b1
  have HN1 := Lib.hid (note_any h1 A1.out (HM.out.below b1) (by omega) (-1) G1.out)
  have H1 := Lib.hid h1
  have U1 := Lib.hid (Upd.of_below (F := JF b (.slice (some ⟨g, 0, none⟩) C.length cap) mb) b1)
  clear e0 e1 e2 h1 b1
  go_wp2_with fail
  refine HN1.out.mono ?_
  rintro e w2 ⟨rfl, m2, u2⟩
  have h2 := noted H1.out HNE.out u2
  have HN2 := Lib.hid (note_any h2 A2.out m2 (by omega) (-1) G2.out)
  have H2 := Lib.hid h2
  have U2 := Lib.hid (U1.out.trans (upd_m u2))
  clear h2 m2 u2 HN1
  go_wp2_with fail
  refine HN2.out.mono ?_
  rintro e w3 ⟨rfl, m3, u3⟩
  have h3 := noted H2.out HNE.out u3
  have HN3 := Lib.hid (note_any h3 A3.out m3 (by omega) (-1) G3.out)
  have H3 := Lib.hid h3
  have U3 := Lib.hid (U2.out.trans (upd_m u3))
  clear h3 m3 u3 HN2
  go_wp2_with fail
  refine HN3.out.mono ?_
  rintro e w4 ⟨rfl, m4, u4⟩
  have h4 := noted H3.out HNE.out u4
  have U4 := Lib.hid (U3.out.trans (upd_m u4))
  have M4 := Lib.hid m4
  obtain ⟨g', cap', ee, _, _, z0, z1, z2⟩ := h4.at_ HJ.out
  cases ee
  obtain ⟨g', cap', ee, _, _, v0, v1, v2⟩ := h4.at_ HK.out
  cases ee
  obtain ⟨g', cap', ee, _, _, x0, x1, x2⟩ := h4.at_ (seg_at h4.seg)
  cases ee
  have d0 := cell_at h4.blk 0
  have d2 := cell_at h4.blk 2
  have f2 := frozen_at h4.blk 2
  have r0 := h4.row.frozenAt (i * 3)
  have r2 := h4.row.frozenAt (i * 3 + 2)
  have r1 := h4.row.frozenAt (k * 3 + 1)
  have hgb : ¬ g = b := h4.bne g rfl
  have hbg : ¬ b = g := fun e => hgb e.symm
  have hXl : (pre ++ (i, s) :: (j, t) :: (k, u) :: r).length ≤ 100000 := by
    have := h4.len; omega
  obtain ⟨n, hn⟩ : ∃ n, (pre ++ (i, s) :: (j, t) :: (k, u) :: r).length = n := ⟨_, rfl⟩
  rw [hn] at d2 hXl
  have HXN := Lib.hid hn
  simp only [nxe, List.getElem?_toArray, List.getElem?_cons_zero, List.getElem?_cons_succ] at d0 d2 x2 z2
  have H4 := Lib.hid h4
  clear h4 m4 u4 HN3 z0 z1 v0 v2 x1 hn y1 y2 c0
  have kg : (0 ≤ (k : Int)) := hk0
  go_wp2_with fail
  go_region
  go_wp2_with fail
  obtain ⟨h6, u6⟩ := join_mem_cons H4.out hz HXN.out
  have m6 := pm_far M4.out u6 HNE.out
  have U6 := Lib.hid (U4.out.trans (upd_s u6))
  have a4 := pa_back h6.seg
  have a5 := pa_on h6.seg
  rw [HBK.out] at a4 a5 h6
  have HN6 := Lib.hid (note_any h6 a4 m6 (by omega) 1 G4.out)
  have H6 := Lib.hid h6
  have A5 := Lib.hid a5
  clear u6 h6 m6 a4 a5 d0 d2 f2 r0 r2 r1 v1 x0 x2 z2
  generalize (World.setCell _ ⟨b, 2, none⟩ _).drew = w5 at *
  refine HN6.out.mono ?_
  rintro e w7 ⟨rfl, m7, u7⟩
  have h7 := noted H6.out HNE.out u7
  have HN7 := Lib.hid (note_any h7 A5.out m7 (by omega) 1 G5.out)
  have H7 := Lib.hid h7
  have U7 := Lib.hid (U6.out.trans (upd_m u7))
  clear h7 m7 u7 HN6
  go_wp2_with fail
  refine HN7.out.mono ?_
  rintro e w8 ⟨rfl, m8, u8⟩
  go_wp2_with fail
  go_end0
  exact ⟨rfl, by rw [HBK.out]; exact noted H7.out HNE.out u8, m8, U7.out.trans (upd_m u8)⟩
set_option maxHeartbeats 3200000 in
set_option maxRecDepth 100000 in
theorem join_nil {B : Nat} {w : World} {b : Nat} {sv : Value} {C : List Cel} {pre : List Knot} {i j : Nat} {s t z : Int} (h : SeqT B w b sv C (pre ++ [(i, s), (j, t)])) (hz : In64 z) {mb : Nat} {m : List (PK × Int)} (hm : PM w mb m) (hl : m.length ≤ 800000) (hR : Rg 100000000 m) :
    Calls Try.prog 80 #[.pointer (some ⟨b, 0, none⟩), .map (some mb), .int .i64 i, .int .i64 z] w fun e w' => e = .returned (.tuple #[]) ∧ SeqT B w' b sv (joinC C i z (lastI (-1) pre) []) (pre ++ [(i, z)]) ∧ PM w' mb (joinM m pre [] s t z) ∧ Upd (JF b sv mb) (JF b sv mb) w w' := by
  have hne := map_ne h hm
  have hi := seg_at h.seg
  have hj := seg_at (pre := pre ++ [(i, s)]) (i := j) (s := t) (r := []) (by simpa using h.seg)
  have a1 := pa_back h.seg
  have a2 : PA C (i : Int) (some (s, t)) := pa_on h.seg
  have a3 := pa_on (pre := pre ++ [(i, s)]) (i := j) (s := t) (r := []) (by simpa using h.seg)
  have hs1 : ∀ x ∈ pre, In64 x.2 := fun x hx => h.sym x (by simp [hx])
  have hs2 : In64 s := h.sym (i, s) (by simp)
  have hs3 : In64 t := h.sym (j, t) (by simp)
  have hs4 : ∀ x ∈ ([] : List Knot), In64 x.2 := fun x hx => by cases hx
  have g1 := ho_of hR (by omega) (p64_la2 hs1 hs2) (-1) (by omega)
  have hR1 := rg_addO hR (la2 pre s) (-1) (by omega)
  have g2 := ho_of (o := some (s, t)) hR1 (by omega) (fun q e => by cases e; exact ⟨hs2, hs3⟩) (-1) (by omega)
  have hR2 := rg_addO hR1 (some (s, t)) (-1) (by omega)
  have g3 := ho_of hR2 (by omega) (p64_hd2 hs4 hs3) (-1) (by omega)
  have hR3 := rg_addO hR2 (hd2 t []) (-1) (by omega)
  have g4 := ho_of hR3 (by omega) (p64_la2 hs1 hz) 1 (by omega)
  have hR4 := rg_addO hR3 (la2 pre z) 1 (by omega)
  have g5 := ho_of hR4 (by omega) (p64_hd2 hs4 hz) 1 (by omega)
  have l1 := len_addO m (la2 pre s) (-1)
  have l2 := len_addO (addO m (la2 pre s) (-1)) (some (s, t)) (-1)
  have l3 := len_addO (addO (addO m (la2 pre s) (-1)) (some (s, t)) (-1)) (hd2 t []) (-1)
  have l4 := len_addO (addO (addO (addO m (la2 pre s) (-1)) (some (s, t)) (-1)) (hd2 t []) (-1)) (la2 pre z) 1
  obtain ⟨g, cap, rfl, hcap, hil, y0, y1, y2⟩ := h.at_ hi
  have hjl := (List.getElem?_eq_some_iff.1 hj).1
  have hnum := h.num
  have c0 := cell_at h.blk 0
  simp only [List.getElem?_toArray, List.getElem?_cons_zero, List.getElem?_cons_succ] at c0
  have hi0 : (0 : Int) ≤ (i : Int) := by omega
  have hj0 : (0 : Int) ≤ (j : Int) := by omega
  have hil2 : (i : Int) < (C.length : Int) := by omega
  have hjl2 : (j : Int) < (C.length : Int) := by omega
  have H := Lib.hid h
  have HM := Lib.hid hm
  have HNE := Lib.hid hne
  have HJ := Lib.hid hj
  have A1 := Lib.hid a1
  have A2 := Lib.hid a2
  have A3 := Lib.hid a3
  have G1 := Lib.hid g1
  have G2 := Lib.hid g2
  have G3 := Lib.hid g3
  have G4 := Lib.hid g4
  have G5 := Lib.hid g5
  obtain ⟨bk, hbk⟩ : ∃ bk, lastI (-1) pre = bk := ⟨_, rfl⟩
  have HBK := Lib.hid hbk
  rw [hbk] at y1
  rw [hbk] at A1
  clear h hm hne hi hj a1 a2 a3 hs1 hs2 hs3 hs4 g1 g2 g3 g4 g5 hR hR1 hR2 hR3 hR4 hbk y0
  simp only [nxe] at y1 y2
  go_enter Try.func80, Try.ntmps80
  have e0 := fun g => Ext.cell c0 g
  have e1 := fun g => Ext.cell y1 g
  have e2 := fun g => Ext.cell y2 g
  go_wp2_with fail
  refine wp_region_ext (by kernel_rfl) (by kernel_rfl) ?_
  repeat (quiet_step (fail))
  refine wpQuiet_nil ?_
  rintro w1 ⟨⟨_, b1⟩, rfl⟩
  have h1 := H.out.below b1
  have HN1 := Lib.hid (note_any h1 A1.out (HM.out.below b1) (by omega) (-1) G1.out)
  have H1 := Lib.hid h1
  have U1 := Lib.hid (Upd.of_below (F := JF b (.slice (some ⟨g, 0, none⟩) C.length cap) mb) b1)
  clear e0 e1 e2 h1 b1
  go_wp2_with fail
  refine HN1.out.mono ?_
  rintro e w2 ⟨rfl, m2, u2⟩
  have h2 := noted H1.out HNE.out u2
  have HN2 := Lib.hid (note_any h2 A2.out m2 (by omega) (-1) G2.out)
  have H2 := Lib.hid h2
  have U2 := Lib.hid (U1.out.trans (upd_m u2))
  clear h2 m2 u2 HN1
  go_wp2_with fail
  refine HN2.out.mono ?_
  rintro e w3 ⟨rfl, m3, u3⟩
  have h3 := noted H2.out HNE.out u3
  have HN3 := Lib.hid (note_any h3 A3.out m3 (by omega) (-1) G3.out)
  have H3 := Lib.hid h3
  have U3 := Lib.hid (U2.out.trans (upd_m u3))
  clear h3 m3 u3 HN2
  go_wp2_with fail
  refine HN3.out.mono ?_
  rintro e w4 ⟨rfl, m4, u4⟩
  have h4 := noted H3.out HNE.out u4
  have U4 := Lib.hid (U3.out.trans (upd_m u4))
  have M4 := Lib.hid m4
  obtain ⟨g', cap', ee, _, _, z0, z1, z2⟩ := h4.at_ HJ.out
  cases ee
  obtain ⟨g', cap', ee, _, _, x0, x1, x2⟩ := h4.at_ (seg_at h4.seg)
  cases ee
  have d0 := cell_at h4.blk 0
  have d2 := cell_at h4.blk 2
  have f2 := frozen_at h4.blk 2
  have r0 := h4.row.frozenAt (i * 3)
  have r2 := h4.row.frozenAt (i * 3 + 2)
  have hgb : ¬ g = b := h4.bne g rfl
  have hbg : ¬ b = g := fun e => hgb e.symm
  have hXl : (pre ++ [(i, s), (j, t)]).length ≤ 100000 := by
    have := h4.len; omega
  obtain ⟨n, hn⟩ : ∃ n, (pre ++ [(i, s), (j, t)]).length = n := ⟨_, rfl⟩
  rw [hn] at d2 hXl
  have HXN := Lib.hid hn
  simp only [nxe, List.getElem?_toArray, List.getElem?_cons_zero, List.getElem?_cons_succ] at d0 d2 x2 z2
  have H4 := Lib.hid h4
  clear h4 m4 u4 HN3 z0 z1 x1 hn y1 y2 c0
  go_wp2_with fail
  go_region
  go_wp2_with fail
  obtain ⟨h6, u6⟩ := join_mem_nil H4.out hz HXN.out
  have m6 := pm_far M4.out u6 HNE.out
  have U6 := Lib.hid (U4.out.trans (upd_s u6))
  have a4 := pa_back h6.seg
  have a5 := pa_on h6.seg
  rw [HBK.out] at a4 a5 h6
  have HN6 := Lib.hid (note_any h6 a4 m6 (by omega) 1 G4.out)
  have H6 := Lib.hid h6
  have A5 := Lib.hid a5
  clear u6 h6 m6 a4 a5 d0 d2 f2 r0 r2 x0 x2 z2
  generalize (World.setCell _ ⟨b, 2, none⟩ _).drew = w5 at *
  refine HN6.out.mono ?_
  rintro e w7 ⟨rfl, m7, u7⟩
  have h7 := noted H6.out HNE.out u7
  have HN7 := Lib.hid (note_any h7 A5.out m7 (by omega) 1 G5.out)
  have H7 := Lib.hid h7
  have U7 := Lib.hid (U6.out.trans (upd_m u7))
  clear h7 m7 u7 HN6
  go_wp2_with fail
  refine HN7.out.mono ?_
  rintro e w8 ⟨rfl, m8, u8⟩
  go_wp2_with fail
  go_end0
  exact ⟨rfl, by rw [HBK.out]; exact noted H7.out HNE.out u8, m8, U7.out.trans (upd_m u8)⟩
end Go.Proofs.Ythinomhjhkhidaa.SeqM
