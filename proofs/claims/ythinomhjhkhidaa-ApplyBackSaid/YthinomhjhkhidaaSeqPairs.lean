/- Layer 11: the pairs of a word, walked. -/
import Derived.Test.YthinomhjhkhidaaSeqMerge
namespace Go.Proofs.Ythinomhjhkhidaa.SeqM
open Go.RowKit Go.Maps Go.Proofs.YthinomhjhkhidaaW.PrintWords Go.Proofs.YthinomhjhkhidaaW.PrintLast Go.Proofs.YthinomhjhkhidaaW.PrintMore Base Foot ExtTail PMap SeqPure
set_option linter.unusedVariables false
set_option linter.unusedSimpArgs false
attribute [local go_sem ↓] Go.wp_at_zero Go.wp_at_succ

structure PI (X post : List Knot) (m : List (PK × Int)) (n : Nat) : Prop where
  lvs : ∀ q, lv m q = (cnt (syms X) q : Int) - cnt (syms post) q
  nz : NZ m
  len : m.length ≤ n
  nle : n + post.length = X.length
theorem cnt_cons (s : Int) (r : List Knot) (q : PK) : (cnt (s :: syms r) q : Int) = cnt (syms r) q + oadd (hd2 s r) 1 q := by
  have c := count_lnk (some s) (syms r).head? q
  have e : cnt (s :: syms r) q = (lnk (some s) (syms r).head?).count q + cnt (syms r) q := by rw [cnt, adj_cons, List.count_append]; rfl
  have f : ((some s : Option Int).bind fun x => (syms r).head?.map fun y => (x, y)) = hd2 s r := rfl
  rw [f] at c
  rw [e]
  unfold oadd
  omega
theorem PI.step {X r : List Knot} {m : List (PK × Int)} {n i : Nat} {s : Int} (h : PI X ((i, s) :: r) m n) : PI X r (addO m (hd2 s r) 1) (n + 1) := by
  refine ⟨fun q => ?_, nz_addO h.nz _ _, ?_, by have := h.nle; simp at this; omega⟩
  · have := cnt_cons s r q
    have e : (cnt (syms ((i, s) :: r)) q : Int) = cnt (s :: syms r) q := rfl
    rw [lv_addO, h.lvs q]
    omega
  · have := len_addO m (hd2 s r) 1
    have := h.len
    omega
theorem PI.rg {X post : List Knot} {m : List (PK × Int)} {n : Nat} (h : PI X post m n) (hX : X.length ≤ 100000) : Rg 100000000 m := fun q => by
  have h1 := h.lvs q
  have h2 := cnt_le (syms X) q
  have h3 := cnt_le (syms post) q
  have h4 := h.nle
  simp only [syms, List.length_map] at h2 h3
  simp only [syms] at h1
  omega
def Paired (w : World) (X : List Knot) (e : Ending) (w' : World) : Prop :=
  ∃ (v : Value) (l : List (PK × Int)), e = .returned v ∧ Rise l ∧ NZ l ∧ l.length ≤ X.length ∧ (∀ q, lv l q = (cnt (syms X) q : Int)) ∧ w'.ownsRow w.heap.size tCh 3 v l.length (l.flatMap encG) ∧ Below w.heap.size w w'
set_option maxHeartbeats 3200000 in
set_option maxRecDepth 100000 in
theorem pairs_any {B : Nat} {w : World} {b : Nat} {sv : Value} {C : List Cel} {X : List Knot} (h : SeqT B w b sv C X) :
    Calls Try.prog 78 #[.pointer (some ⟨b, 0, none⟩)] w (Paired w X) := by
  have hmm := @run_makeMap Try.prog
  have b0 : Below w.heap.size w (w.alloc (.map #[] 0)) := (Below.refl _ _).alloc (Nat.le_refl _) _
  have m0 := Lib.hid (PM.made w)
  have h0 := h.below b0
  have hN := h.num
  have hXl := h.len
  have c1 := cell_at h0.blk 1
  simp only [List.getElem?_toArray, List.getElem?_cons_zero, List.getElem?_cons_succ] at c1
  obtain ⟨f0, hf0⟩ : ∃ f, nxe X (-1) = f := ⟨_, rfl⟩
  rw [hf0] at c1
  have HF := Lib.hid hf0
  have B0 := Lib.hid b0
  have H := Lib.hid h
  have lb : b < w.heap.size := h.lt b (.inl rfl)
  clear h h0 hf0 b0
  go_enter Try.func78, Try.ntmps78
  go_wp2_with fail
  generalize w.alloc (.map #[] 0) = W0 at *
  go_loopw [4] (fun v4 wr => ∃ (pre post : List Knot) (m : List (PK × Int)) (n : Nat), Hid (X = pre ++ post) ∧ v4 = .int .i64 (nxe post (-1)) ∧ Hid (PM wr w.heap.size m) ∧ Hid (PI X post m n) ∧ Hid (Below w.heap.size w wr)) (fun i _ => stepM C.length i)
  case atStart => exact ⟨[], X, [], 0, Lib.hid rfl, by rw [HF.out], m0, Lib.hid ⟨(fun q => by simp [lv, PMap.look_nil]), (fun x h => nomatch h), by simp, by simp⟩, B0⟩
  case round =>
    clear m0 B0 HF c1
    obtain ⟨pre, post, m, n, HX, rfl, HM, HI, HB⟩ := hrel
    have hnle := HI.out.nle
    have hmlen := HI.out.len
    have hn1 : n ≤ 100000 := by omega
    cases post with
    | nil =>
      simp only [nxe_nil]
      have HL := Lib.hid (list_any HM.out (by omega))
      go_wp2_with fail
      refine HL.out.mono ?_
      rintro e w2 ⟨v, l, rfl, q1, q2, q3, q4⟩
      have HP : Hid (Paired w X (.returned v) w2) := Lib.hid ⟨v, l, rfl, q2, (fun x hx => HI.out.nz x (q1.mem_iff.1 hx)), by rw [q1.length_eq]; omega, (fun q => by rw [lv_perm HM.out.nd q1, HI.out.lvs q]; simp [syms, cnt, adj]), row_low q3 HB.out.size, HB.out.trans (q4.mono HB.out.size)⟩
      clear q1 q2 q3 q4 HL
      go_wp2_with fail
      go_ret
      exact HP.out
    | cons x r =>
      obtain ⟨i, s⟩ := x
      have hx := HX.out
      subst hx
      simp only [nxe_cons]
      have h1 := H.out.below HB.out
      have hrg := HI.out.rg (by omega)
      have hsym : ∀ x ∈ r, In64 x.2 := fun x hx => h1.sym x (by simp [hx])
      have hs : In64 s := h1.sym (i, s) (by simp)
      have HN := Lib.hid (note_any h1 (pa_on h1.seg) HM.out (by omega) 1 (ho_of hrg (by omega) (p64_hd2 hsym hs) 1 (by omega)))
      have H1 := Lib.hid h1
      clear h1 hrg hsym hs
      go_wp2_with fail
      refine HN.out.mono ?_
      rintro e w2 ⟨rfl, m2, u2⟩
      have hb2 := HB.out.trans (u2.below HB.out.size (fun k hk => by rw [hk]; exact Nat.le_refl _))
      have h2 := H.out.below hb2
      obtain ⟨g, cap, rfl, hcap, hil, y0, y1, y2⟩ := h2.at_ (seg_at h2.seg)
      have c0 := cell_at h2.blk 0
      simp only [List.getElem?_toArray, List.getElem?_cons_zero, List.getElem?_cons_succ] at c0 y2
      obtain ⟨nx, hnx⟩ : ∃ nx, nxe r (-1) = nx := ⟨_, rfl⟩
      rw [hnx] at y2
      have hi0 : (0 : Int) ≤ (i : Int) := by omega
      have hil2 : (i : Int) < (C.length : Int) := by omega
      have HS := Lib.hid (seg_next h2.seg h2.idx)
      have HI2 := Lib.hid HI.out.step
      have HNX := Lib.hid hnx
      have M2 := Lib.hid m2
      have B2 := Lib.hid hb2
      clear h2 m2 u2 hb2 y0 y1 hnx HN
      go_wp2_with fail
      go_roundw
      case rel => exact ⟨pre ++ [(i, s)], r, _, n + 1, Lib.hid (by simp), by rw [HNX.out], M2, HI2, B2⟩
      case measure => have := HS.out; rw [HNX.out] at this; exact this
end Go.Proofs.Ythinomhjhkhidaa.SeqM
