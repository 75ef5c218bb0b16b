/- Layer 11: a pair is merged into a symbol; the pairs of a word, walked. -/
import Derived.Test.YthinomhjhkhidaaSeqL
import Derived.Test.YthinomhjhkhidaaWEqStruct
namespace Go.Proofs.Ythinomhjhkhidaa.SeqM
open Go.RowKit Go.Maps Go.Proofs.YthinomhjhkhidaaW.PrintWords Go.Proofs.YthinomhjhkhidaaW.PrintLast Go.Proofs.YthinomhjhkhidaaW.PrintMore Base Foot ExtTail PMap SeqPure
set_option linter.unusedVariables false
set_option linter.unusedSimpArgs false
attribute [local go_sem ↓] Go.wp_at_zero Go.wp_at_succ

theorem eqP (d : Nat) (w : World) (x0 y0 x1 y1 : Int) :
    (Op.equalIn (d + 2) 94 (.agg #[.int .i64 x0, .int .i64 x1]) (.agg #[.int .i64 y0, .int .i64 y1])).run Try.prog w = .ok (x0 == y0 && (x1 == y1)) w := by
  refine eqA_of Try.underlying94 (by kernel_rfl) ?_
  refine eqf_cons (by rfl) (by go_simp; rfl) (by go_simp; rfl) (by go_simp) ?_
  exact eqf_last (by rfl) (by go_simp; rfl) (by go_simp; rfl) (by go_simp)
attribute [local go_sem high] eqP

structure MI (p : PK) (z : Int) (X0 pre post : List Knot) (m : List (PK × Int)) (n : Nat) : Prop where
  lvs : ∀ q, lv m q = (cnt (syms (pre ++ post)) q : Int) - cnt (syms X0) q
  nz : NZ m
  len : m.length ≤ 5 * n
  mg : mrg p z (syms X0) = (syms pre ++ (mrg p z (syms post)).1, n + (mrg p z (syms post)).2)
  nle : n + (pre ++ post).length = X0.length
theorem MI.start (p : PK) (z : Int) (X : List Knot) : MI p z X [] X [] 0 :=
  ⟨(fun q => by simp [lv, PMap.look_nil]), (fun x h => nomatch h), by simp, by simp [syms], by simp⟩
theorem MI.skip {p : PK} {z : Int} {X0 pre r : List Knot} {m : List (PK × Int)} {n i : Nat} {s : Int} (h : MI p z X0 pre ((i, s) :: r) m n) (hne : ∀ q, hd2 s r = some q → q ≠ p) : MI p z X0 (pre ++ [(i, s)]) r m n := by
  refine ⟨fun q => by rw [h.lvs q]; simp, h.nz, h.len, ?_, by have := h.nle; simp at *; omega⟩
  rw [h.mg, syms_cons, mrg_no (fun t ht => hne (s, t) (by simp [hd2, ht]))]
  simp [syms]
theorem MI.rg {p : PK} {z : Int} {X0 pre post : List Knot} {m : List (PK × Int)} {n : Nat} (h : MI p z X0 pre post m n) (hX : X0.length ≤ 100000) : Rg 100000000 m := fun q => by
  have h1 := h.lvs q
  have h2 := cnt_le (syms (pre ++ post)) q
  have h3 := cnt_le (syms X0) q
  have h4 := h.nle
  simp only [syms, List.length_map] at h2 h3
  simp only [syms] at h1
  omega
theorem MI.join {p : PK} {z : Int} {X0 pre r : List Knot} {m : List (PK × Int)} {n i j : Nat} {s t : Int} (h : MI p z X0 pre ((i, s) :: (j, t) :: r) m n) (he : (s, t) = p) : MI p z X0 (pre ++ [(i, z)]) r (joinM m pre r s t z) (n + 1) := by
  refine ⟨fun q => ?_, nz_addO (nz_addO (nz_addO (nz_addO (nz_addO h.nz _ _) _ _) _ _) _ _) _ _, ?_, ?_, by have := h.nle; simp at *; omega⟩
  · have := join_cnt pre r i j s t z q
    rw [show pre ++ [(i, z)] ++ r = pre ++ (i, z) :: r by simp, this, lv_addO, lv_addO, lv_addO, lv_addO, lv_addO, h.lvs q]
    omega
  · have l1 := len_addO m (la2 pre s) (-1)
    have l2 := len_addO (addO m (la2 pre s) (-1)) (some (s, t)) (-1)
    have l3 := len_addO (addO (addO m (la2 pre s) (-1)) (some (s, t)) (-1)) (hd2 t r) (-1)
    have l4 := len_addO (addO (addO (addO m (la2 pre s) (-1)) (some (s, t)) (-1)) (hd2 t r) (-1)) (la2 pre z) 1
    have l5 := len_addO (addO (addO (addO (addO m (la2 pre s) (-1)) (some (s, t)) (-1)) (hd2 t r) (-1)) (la2 pre z) 1) (hd2 z r) 1
    have := h.len
    unfold joinM
    omega
  · rw [h.mg, syms_cons, syms_cons, mrg_yes he]
    simp [syms, Nat.add_assoc, Nat.add_comm 1]
theorem join_any {B : Nat} {w : World} {b : Nat} {sv : Value} {C : List Cel} {pre rest : List Knot} {i j : Nat} {s t z : Int} (h : SeqT B w b sv C (pre ++ (i, s) :: (j, t) :: rest)) (hz : In64 z) {mb : Nat} {m : List (PK × Int)} (hm : PM w mb m) (hl : m.length ≤ 800000) (hR : Rg 100000000 m) :
    Calls Try.prog 80 #[.pointer (some ⟨b, 0, none⟩), .map (some mb), .int .i64 i, .int .i64 z] w fun e w' => e = .returned (.tuple #[]) ∧ SeqT B w' b sv (joinC C i z (lastI (-1) pre) rest) (pre ++ (i, z) :: rest) ∧ PM w' mb (joinM m pre rest s t z) ∧ Upd (JF b sv mb) (JF b sv mb) w w' := by
  cases rest with
  | nil => exact join_nil h hz hm hl hR
  | cons x r => exact join_cons h hz hm hl hR
theorem upd_new {b : Nat} {sv : Value} {mb : Nat} {w w1 w2 : World} (h : Upd (SFoot b sv) (SFoot b sv) w w1) (hm : w.heap.size ≤ mb) (u : Upd (JF b sv mb) (JF b sv mb) w1 w2) : Upd (SFoot b sv) (SFoot b sv) w w2 :=
  ⟨u.os.trans h.os, u.tape.trans h.tape, u.output.trans h.output, Nat.le_trans h.size u.size, fun k hk hf => (u.block k (Nat.lt_of_lt_of_le hk h.size) (by rintro (e | e); exact hf e; omega)).trans (h.block k hk hf), fun k hk => .inl hk⟩
structure MSt (B : Nat) (w : World) (W : World) (b : Nat) (sv : Value) (N mb : Nat) (p : PK) (z : Int) (X0 pre post : List Knot) (C : List Cel) (m : List (PK × Int)) (n : Nat) : Prop where
  seq : SeqT B W b sv C (pre ++ post)
  len : C.length = N
  map : PM W mb m
  mi : MI p z X0 pre post m n
  box : W.heap[w.heap.size]? = some (.cells #[.int .i64 p.1, .int .i64 p.2] 94 (0, 0))
  upd : Upd (SFoot b sv) (SFoot b sv) w W
theorem MSt.below {B : Nat} {w W W' : World} {b : Nat} {sv : Value} {N mb : Nat} {p : PK} {z : Int} {X0 pre post : List Knot} {C : List Cel} {m : List (PK × Int)} {n : Nat} (h : MSt B w W b sv N mb p z X0 pre post C m n) (hb : Below W.heap.size W W') : MSt B w W' b sv N mb p z X0 pre post C m n :=
  ⟨h.seq.below hb, h.len, h.map.below hb, h.mi, (hb.block _ (block_lt h.box)).trans h.box, h.upd.trans (Upd.of_below hb)⟩
theorem MSt.skip {B : Nat} {w W : World} {b : Nat} {sv : Value} {N mb : Nat} {p : PK} {z : Int} {X0 pre r : List Knot} {C : List Cel} {m : List (PK × Int)} {n i : Nat} {s : Int} (h : MSt B w W b sv N mb p z X0 pre ((i, s) :: r) C m n) (hne : ∀ q, hd2 s r = some q → q ≠ p) : MSt B w W b sv N mb p z X0 (pre ++ [(i, s)]) r C m n :=
  ⟨by rw [List.append_assoc]; exact h.seq, h.len, h.map, h.mi.skip hne, h.box, h.upd⟩
theorem MSt.join {B : Nat} {w W W' : World} {b : Nat} {sv : Value} {N mb : Nat} {p : PK} {z : Int} {X0 pre r : List Knot} {C : List Cel} {m : List (PK × Int)} {n i j : Nat} {s t : Int} (h : MSt B w W b sv N mb p z X0 pre ((i, s) :: (j, t) :: r) C m n) (he : (s, t) = p) (hmb : w.heap.size ≠ mb) (hmz : w.heap.size ≤ mb) (hsf : ∀ k, SFoot b sv k → k < w.heap.size)
    (h1 : SeqT B W' b sv (joinC C i z (lastI (-1) pre) r) (pre ++ (i, z) :: r)) (h2 : PM W' mb (joinM m pre r s t z)) (u : Upd (JF b sv mb) (JF b sv mb) W W') : MSt B w W' b sv N mb p z X0 (pre ++ [(i, z)]) r (joinC C i z (lastI (-1) pre) r) (joinM m pre r s t z) (n + 1) :=
  ⟨by rw [List.append_assoc]; exact h1, by rw [joinC_len]; exact h.len, h2, h.mi.join he, (u.block _ (block_lt h.box) (by rintro (e | e); exact absurd (hsf _ e) (Nat.lt_irrefl _); exact hmb e)).trans h.box, upd_new h.upd hmz u⟩
theorem row_low {w : World} {B B' : Nat} {e : TypeId} {sz n : Nat} {v : Value} {xs : List Value} (h : w.ownsRow B e sz v n xs) (hB : B' ≤ B) : w.ownsRow B' e sz v n xs := by
  obtain ⟨h1, h2⟩ := h
  refine ⟨h1, ?_⟩
  rcases h2 with h2 | ⟨g, cap, cur, a, b, c⟩
  · exact .inl h2
  · exact .inr ⟨g, cap, cur, a, Nat.le_trans hB b, c⟩
/-- what Merge leaves and tells -/
def Merged (B : Nat) (w : World) (b : Nat) (sv : Value) (N : Nat) (p : PK) (z : Int) (X : List Knot) (e : Ending) (w' : World) : Prop :=
  ∃ (C' : List Cel) (X' : List Knot) (v : Value) (l : List (PK × Int)), e = .returned (.tuple #[.int .i64 ((mrg p z (syms X)).2 : Int), v]) ∧ SeqT B w' b sv C' X' ∧ C'.length = N ∧ syms X' = (mrg p z (syms X)).1 ∧ Rise l ∧ NZ l ∧ l.length ≤ 5 * (mrg p z (syms X)).2 ∧ (∀ q, lv l q = (cnt (syms X') q : Int) - cnt (syms X) q) ∧ w'.ownsRow w.heap.size tCh 3 v l.length (l.flatMap encG) ∧ Upd (SFoot b sv) (SFoot b sv) w w'
theorem merge_nil (p : PK) (z : Int) (w : World) : Calls Try.prog 63 #[.pointer none, vP p, .int .i64 z] w fun e w' => e = .returned (.tuple #[.int .i64 0, .slice none 0 0]) ∧ Below w.heap.size w w' := by
  unfold vP
  go_enter Try.func63, Try.ntmps63
  go_wp2_with fail
  go_ret2
  exact ⟨rfl, (Below.refl _ _).alloc (Nat.le_refl _) _⟩
set_option maxHeartbeats 3200000 in
set_option maxRecDepth 100000 in
theorem merge_any {B : Nat} {w : World} {b : Nat} {sv : Value} {C : List Cel} {X : List Knot} (h : SeqT B w b sv C X) (p : PK) (z : Int) (hz : In64 z) :
    Calls Try.prog 63 #[.pointer (some ⟨b, 0, none⟩), vP p, .int .i64 z] w (Merged B w b sv C.length p z X) := by
  have hmm := @run_makeMap Try.prog
  obtain ⟨p1, p2⟩ := p
  have b0 : Below w.heap.size w ((w.alloc (.cells #[.int .i64 p1, .int .i64 p2] 94)).alloc (.map #[] 0)) := ((Below.refl _ _).alloc (Nat.le_refl _) _).alloc (by simp) _
  have x0 := alloc_blk (x := .map #[] 0) (heap_alloc_new w (.cells #[.int .i64 p1, .int .i64 p2] 94))
  have m0 := PM.made (w.alloc (.cells #[.int .i64 p1, .int .i64 p2] 94))
  simp only [World.size_alloc] at m0
  have h0 := h.below b0
  have hst : MSt B w ((w.alloc (.cells #[.int .i64 p1, .int .i64 p2] 94)).alloc (.map #[] 0)) b sv C.length (w.heap.size + 1) (p1, p2) z X [] X C [] 0 := ⟨h0, rfl, m0, MI.start _ _ _, x0, Upd.of_below b0⟩
  have hlt := h.lt
  have hN := h.num
  have hXl := h.len
  have c1 := cell_at h0.blk 1
  simp only [List.getElem?_toArray, List.getElem?_cons_zero, List.getElem?_cons_succ] at c1
  obtain ⟨f0, hf0⟩ : ∃ f, nxe X (-1) = f := ⟨_, rfl⟩
  rw [hf0] at c1
  have HF := Lib.hid hf0
  have HST := Lib.hid hst
  have HLT := Lib.hid hlt
  obtain ⟨N, hCN⟩ : ∃ N, C.length = N := ⟨_, rfl⟩
  rw [hCN] at hN hXl HST
  rw [hCN]
  clear h h0 hst hlt hf0 x0 m0 b0 hCN
  unfold vP
  go_enter Try.func63, Try.ntmps63
  go_wp2_with fail
  generalize (w.alloc (.cells #[.int .i64 p1, .int .i64 p2] 94)).alloc (.map #[] 0) = W0 at *
  go_loopw [9, 10] (fun v9 v10 wr => ∃ (pre post : List Knot) (C : List Cel) (m : List (PK × Int)) (n : Nat), v9 = .int .i64 (n : Int) ∧ v10 = .int .i64 (nxe post (-1)) ∧ Hid (MSt B w wr b sv N (w.heap.size + 1) (p1, p2) z X pre post C m n)) (fun _ i _ => stepM N i)
  case atStart => exact ⟨[], X, C, [], 0, rfl, by rw [HF.out], HST⟩
  case round =>
    clear HST HF c1
    obtain ⟨pre, post, C, m, n, rfl, rfl, H⟩ := hrel
    have hnle := H.out.mi.nle
    have hmlen := H.out.mi.len
    have hn1 : n ≤ 100000 := by omega
    cases post with
    | nil =>
      simp only [nxe_nil]
      have HL := Lib.hid (list_any H.out.map (by omega))
      clear hnle hmlen
      go_wp2_with fail
      refine HL.out.mono ?_
      rintro e w2 ⟨v, l, rfl, q1, q2, q3, q4⟩
      have hb2 := q4
      have hO := row_low q3 H.out.upd.size
      have hnd := H.out.map.nd
      have hlv : ∀ q, lv l q = (cnt (syms pre) q : Int) - cnt (syms X) q := fun q => by rw [lv_perm hnd q1, H.out.mi.lvs q, List.append_nil]
      have hnz : NZ l := fun x hx => H.out.mi.nz x (q1.mem_iff.1 hx)
      have hmg := H.out.mi.mg
      rw [show mrg (p1, p2) z (syms []) = ([], 0) from rfl, List.append_nil, Nat.add_zero] at hmg
      have hll : l.length ≤ 5 * n := by rw [q1.length_eq]; exact H.out.mi.len
      have hS := H.out.seq
      rw [List.append_nil] at hS
      have HM : Hid (Merged B w b sv N (p1, p2) z X (.returned (.tuple #[.int .i64 (n : Int), v])) w2) := by
        refine Lib.hid ⟨C, pre, v, l, ?_, hS.below hb2, H.out.len, ?_, q2, hnz, ?_, hlv, hO, H.out.upd.trans (Upd.of_below hb2)⟩
        · rw [hmg]
        · rw [hmg]
        · rw [hmg]; exact hll
      clear q1 q2 q3 q4 hb2 hO hnd hlv hnz hmg hll hS HL
      go_wp2_with fail
      go_ret2
      exact HM.out
    | cons x r =>
      obtain ⟨i, s⟩ := x
      simp only [nxe_cons]
      cases r with
      | nil =>
        have HP := Lib.hid (pair_no H.out.seq (pa_on H.out.seq.seg))
        clear hnle hmlen
        go_wp2_with fail
        refine HP.out.mono ?_
        rintro e w1 ⟨rfl, b1⟩
        unfold vP
        have b2 := b1.alloc b1.size (.cells #[.int .i64 0, .int .i64 0] 94)
        have h2 := H.out.below b2
        obtain ⟨g, cap, rfl, hcap, hil, y0, y1, y2⟩ := h2.seq.at_ (seg_at h2.seq.seg)
        have c0 := cell_at h2.seq.blk 0
        simp only [nxe_nil, List.getElem?_toArray, List.getElem?_cons_zero, List.getElem?_cons_succ] at c0 y2
        have hi0 : (0 : Int) ≤ (i : Int) := by omega
        have hil2 : (i : Int) < (C.length : Int) := by omega
        have H2 := Lib.hid (h2.skip (fun q hq => by simp [hd2, syms] at hq))
        have HM := Lib.hid (seg_next h2.seq.seg h2.seq.idx)
        have HC := Lib.hid h2.len
        clear b1 b2 h2 y0 y1
        go_wp2_with fail
        go_roundw
        case rel => exact ⟨_, [], C, m, n, rfl, rfl, H2⟩
        case measure => have := HM.out; rw [HC.out] at this; exact this
      | cons y r =>
        obtain ⟨j, t⟩ := y
        have HP := Lib.hid (pair_yes H.out.seq (q := (s, t)) (pa_on H.out.seq.seg))
        clear hnle
        by_cases he : s = p1 ∧ t = p2
        · obtain ⟨rfl, rfl⟩ := he
          go_wp2_with fail
          refine HP.out.mono ?_
          rintro e w1 ⟨rfl, b1⟩
          unfold vP
          have b2 := b1.alloc b1.size (.cells #[.int .i64 s, .int .i64 t] 94)
          have h2 := H.out.below b2
          have x1 := heap_alloc_new w1 (.cells #[.int .i64 s, .int .i64 t] 94)
          have e0 := cell_at x1 0
          have e1 := cell_at x1 1
          have f0 := cell_at h2.box 0
          have f1 := cell_at h2.box 1
          simp only [List.getElem?_toArray, List.getElem?_cons_zero, List.getElem?_cons_succ] at e0 e1 f0 f1
          have hrg := h2.mi.rg (by omega)
          have HJ := Lib.hid (join_any h2.seq hz h2.map (by omega) hrg)
          have H2 := Lib.hid h2
          clear b1 b2 h2 x1 hrg
          go_wp2_with fail
          refine HJ.out.mono ?_
          rintro e w3 ⟨rfl, g1, g2, u3⟩
          have h3 := H2.out.join rfl (by omega) (by omega) HLT.out g1 g2 u3
          obtain ⟨g, cap, rfl, hcap, hil, y0, y1, y2⟩ := g1.at_ (seg_at g1.seg)
          have c0 := cell_at g1.blk 0
          simp only [List.getElem?_toArray, List.getElem?_cons_zero, List.getElem?_cons_succ] at c0 y2
          obtain ⟨nx, hnx⟩ : ∃ nx, nxe r (-1) = nx := ⟨_, rfl⟩
          rw [hnx] at y2
          have hi0 : (0 : Int) ≤ (i : Int) := by omega
          have hil2 : (i : Int) < ((joinC C i z (lastI (-1) pre) r).length : Int) := by omega
          have H3 := Lib.hid h3
          have HM := Lib.hid (seg_next g1.seg g1.idx)
          have HC := Lib.hid h3.len
          have HNX := Lib.hid hnx
          clear h3 g1 g2 u3 y0 y1 e0 e1 f0 f1 hnx HJ
          go_wp2_with fail
          go_roundw
          case rel => exact ⟨_, r, _, _, n + 1, by go_num, by rw [HNX.out], H3⟩
          case measure => have := HM.out; rw [HC.out, HNX.out] at this; exact this
        · have hb : (s == p1 && (t == p2)) = false := by simpa using he
          clear he
          go_wp2_with fail
          refine HP.out.mono ?_
          rintro e w1 ⟨rfl, b1⟩
          unfold vP
          have b2 := b1.alloc b1.size (.cells #[.int .i64 s, .int .i64 t] 94)
          have h2 := H.out.below b2
          have x1 := heap_alloc_new w1 (.cells #[.int .i64 s, .int .i64 t] 94)
          have e0 := cell_at x1 0
          have e1 := cell_at x1 1
          have f0 := cell_at h2.box 0
          have f1 := cell_at h2.box 1
          obtain ⟨g, cap, rfl, hcap, hil, y0, y1, y2⟩ := h2.seq.at_ (seg_at h2.seq.seg)
          have c0 := cell_at h2.seq.blk 0
          simp only [nxe_cons, List.getElem?_toArray, List.getElem?_cons_zero, List.getElem?_cons_succ] at c0 y2 e0 e1 f0 f1
          have hi0 : (0 : Int) ≤ (i : Int) := by omega
          have hil2 : (i : Int) < (C.length : Int) := by omega
          have H2 := Lib.hid (h2.skip (fun q hq e => by
            have e1 : (s, t) = q := by simpa [hd2, syms] using hq
            rw [e] at e1
            have e2 : s = p1 ∧ t = p2 := by simpa using e1
            obtain ⟨rfl, rfl⟩ := e2
            simp at hb))
          have HM := Lib.hid (seg_next h2.seq.seg h2.seq.idx)
          have HC := Lib.hid h2.len
          clear b1 b2 h2 y0 y1 x1
          go_wp2_with fail
          go_roundw
          case rel => exact ⟨_, (j, t) :: r, C, m, n, rfl, rfl, H2⟩
          case measure => have := HM.out; rw [HC.out] at this; exact this
end Go.Proofs.Ythinomhjhkhidaa.SeqM
