/- Layer 11: a word's chain is made; its symbols, and how many there are, walked. -/
import Derived.Test.YthinomhjhkhidaaSeqJ
import Derived.Lib.ConvBytes
namespace Go.Proofs.Ythinomhjhkhidaa.SeqM
open Go.RowKit Go.Maps Go.Proofs.YthinomhjhkhidaaW.PrintWords Go.Proofs.YthinomhjhkhidaaW.PrintLast Go.Proofs.YthinomhjhkhidaaW.PrintMore Base Foot ExtTail PMap SeqPure
set_option linter.unusedVariables false
set_option linter.unusedSimpArgs false
attribute [local go_sem ↓] Go.wp_at_zero Go.wp_at_succ

theorem infoN : (Try.prog.info? 3).map (fun i => (i.zero, i.size, i.bytes)) = some (some (.int .i64 0), 1, 8) := by kernel_rfl
theorem infoC : (Try.prog.info? tC).map (fun i => (i.zero, i.size, i.bytes)) = some (some (.agg #[.int .i64 0, .int .i64 0, .int .i64 0]), 3, 24) := by kernel_rfl
theorem own_slc {w : World} {D n : Nat} {e : TypeId} {sz : Nat} {v : Value} {xs : List Value} (h : w.ownsRow D e sz v n xs) : ∃ A c, v = .slice A n c := by
  rcases h.2 with ⟨rfl, h0⟩ | ⟨g, cap, cur, rfl, _⟩
  · exact ⟨none, 0, by rw [h0]⟩
  · exact ⟨_, _, rfl⟩

theorem symbols_nil (w : World) : Calls Try.prog 62 #[.pointer none] w fun e w' => e = .returned (.slice none 0 0) ∧ w = w' := by
  go_enter Try.func62, Try.ntmps62
  go_wp2_with fail
  go_ret
  exact ⟨rfl, rfl⟩
theorem pairs_nil (w : World) : Calls Try.prog 78 #[.pointer none] w fun e w' => e = .returned (.slice none 0 0) ∧ w = w' := by
  go_enter Try.func78, Try.ntmps78
  go_wp2_with fail
  go_ret
  exact ⟨rfl, rfl⟩
theorem nxe_nil (e : Int) : nxe [] e = e := rfl
theorem nxe_cons (i : Nat) (s : Int) (r : List Knot) (e : Int) : nxe ((i, s) :: r) e = (i : Int) := rfl
def stepM (n : Nat) (v : Value) : Nat := if intOf v < 0 then 0 else n - (intOf v).toNat
theorem seg_next {C : List Cel} {pre r : List Knot} {i : Nat} {s : Int} (h : Seg C (-1) (pre ++ (i, s) :: r) (-1)) (hI : Idx (pre ++ (i, s) :: r)) : stepM C.length (.int .i64 (nxe r (-1))) < stepM C.length (.int .i64 (i : Int)) := by
  have hi := (List.getElem?_eq_some_iff.1 (seg_at h)).1
  have e1 : stepM C.length (.int .i64 (i : Int)) = C.length - i := by have : ¬ ((i : Int) < 0) := by omega
                                                                      simp [stepM, intOf, this]
  cases r with
  | nil => rw [e1]; simp [stepM, intOf, nxe]; omega
  | cons x r =>
    have h2 := (List.pairwise_cons.1 (List.pairwise_append.1 hI).2.1).1 x (by simp)
    simp at h2
    have e2 : stepM C.length (.int .i64 (nxe (x :: r) (-1))) = C.length - x.1 := by have : ¬ ((x.1 : Int) < 0) := by omega
                                                                                    simp [stepM, intOf, nxe, this]
    rw [e1, e2]
    omega
abbrev encI (a : Int) : List Value := [.int .i64 a]
set_option maxHeartbeats 1600000 in
set_option maxRecDepth 100000 in
theorem symbols_any {B : Nat} {w : World} {b : Nat} {sv : Value} {C : List Cel} {X : List Knot} (h : SeqT B w b sv C X) :
    Calls Try.prog 62 #[.pointer (some ⟨b, 0, none⟩)] w fun e w' => ∃ v, e = .returned v ∧ w'.ownsRow w.heap.size 3 1 v (syms X).length ((syms X).flatMap encI) ∧ Below w.heap.size w w' := by
  obtain ⟨iN, hiN, zN0, zN1, zN2⟩ := info_parts infoN
  have c1 := cell_at h.blk 1
  simp only [List.getElem?_toArray, List.getElem?_cons_zero, List.getElem?_cons_succ] at c1
  have H := Lib.hid h
  obtain ⟨f0, hf0⟩ : ∃ f, nxe X (-1) = f := ⟨_, rfl⟩
  rw [hf0] at c1
  have HF := Lib.hid hf0
  clear h hf0
  go_enter Try.func62, Try.ntmps62
  go_wp2_with fail
  go_loopw [3, 4] (fun v3 v4 wr => ∃ (pre post : List Knot) (ov : Value), Hid (X = pre ++ post) ∧ ov = v3 ∧ v4 = .int .i64 (nxe post (-1)) ∧ wr.ownsRow w.heap.size 3 1 ov (syms pre).length ((syms pre).flatMap encI) ∧ Below w.heap.size w wr) (fun _ i _ => stepM C.length i)
  case atStart => exact ⟨[], X, _, Lib.hid rfl, rfl, by rw [HF.out], World.ownsRow_nil _ _ _ _, Below.refl _ _⟩
  case round =>
    obtain ⟨pre, post, ov, HX, rfl, rfl, hrow, hb⟩ := hrel
    clear c1
    cases post with
    | nil =>
      have hX : X = pre := by rw [HX.out, List.append_nil]
      subst hX
      simp only [nxe_nil]
      have HR := Lib.hid hrow
      obtain ⟨A, c, rfl⟩ := own_slc hrow
      clear hrow
      go_wp2_with fail
      go_ret
      exact ⟨_, rfl, HR.out, hb⟩
    | cons x r =>
      obtain ⟨i, s⟩ := x
      have hx := HX.out
      subst hx
      have h1 := H.out
      have hi := seg_at h1.seg
      obtain ⟨g, cap, rfl, hcap, hil, x0, x1, x2⟩ := h1.at_ hi
      have cw := cell_at h1.blk 0
      simp only [List.getElem?_toArray, List.getElem?_cons_zero, List.getElem?_cons_succ] at cw x0 x2
      have lb : b < w.heap.size := h1.lt b (.inl rfl)
      have lg : g < w.heap.size := h1.lt g (.inr rfl)
      have hi0 : (0 : Int) ≤ (i : Int) := by omega
      have hil2 : (i : Int) < (C.length : Int) := by omega
      have hnum := h1.num
      have hXl := h1.len
      have hpl : (syms pre).length < 100000 := by
        have e1 : (syms pre).length = pre.length := by simp [syms]
        rw [e1]
        simp at hXl
        omega
      have HM := Lib.hid (seg_next h1.seg h1.idx)
      clear h1 hi hXl
      simp only [nxe_cons] at *
      obtain ⟨nx, hnx⟩ : ∃ nx, nxe r (-1) = nx := ⟨_, rfl⟩
      rw [hnx] at x2
      have HNX := Lib.hid hnx
      clear hnx
      have c0 := (hb.cell (p := ⟨b, 0, none⟩) lb).trans cw
      have y0 := (hb.cell (p := ⟨g, i * 3, none⟩) lg).trans x0
      have hbs := hb.size
      go_wp2_with (at_builtin; refine wpList_append_own_at _ rfl _ _ 58 rfl w.heap.size 3 iN _ 1 8 Try.underlying58 hiN zN0 zN1 zN2 rfl (by decide) _ _ _ rfl (hrow.alloc _) ⟨wr.heap.size, 0, none⟩ 1 1 [.int .i64 s] rfl rfl (news_alloc rfl) (by simp [Value.oneCell']) (by unfold maxLen; omega) (by omega) (by simp; omega) ?_; intro v' w2 hown2 hgrow2 _ hat2; have hb2 : Below w.heap.size w w2 := (hb.alloc hbs _).grown hgrow2 (by simp; omega) (fun k hk => (hrow.lt k hk).1); have z0 := (hb2.cell (p := ⟨b, 0, none⟩) lb).trans cw; have z2 := (hb2.cell (p := ⟨g, i * 3 + 2, none⟩) lg).trans x2)
      go_roundw
      case rel => exact ⟨pre ++ [(i, s)], r, v', Lib.hid (by simp), rfl, by rw [HNX.out], by simpa [syms] using hown2, hb2⟩
      case measure => rw [HNX.out] at HM; exact HM.out
end Go.Proofs.Ythinomhjhkhidaa.SeqM
