/- gluepotlaw12: the same pairs? walked: where they are, yes. -/
import Derived.Test.YtaecngdabgnamaaMRise
import Derived.Test.YtaecngdabgnamaaSrc
import Derived.Test.YtaecngdabgnamaaWEqStruct
namespace Go.Proofs.Ytaecngdabgnamaa.Delta
open Go.RowKit Go.Maps Go.Proofs.YtaecngdabgnamaaW.PrintWords Go.Proofs.YtaecngdabgnamaaW.PrintLast Go.Proofs.YtaecngdabgnamaaW.PrintMore Base Foot ExtTail PMap Src
set_option linter.unusedVariables false
set_option linter.unusedSimpArgs false
attribute [local go_sem ↓] Go.wp_at_zero Go.wp_at_succ

theorem eqPk (d : Nat) (w : World) (x0 y0 x1 y1 : Int) :
    (Op.equalIn (d + 2) 23 (.agg #[.int .i64 x0, .int .i64 x1]) (.agg #[.int .i64 y0, .int .i64 y1])).run Try.prog w = .ok (x0 == y0 && (x1 == y1)) w := by
  refine eqA_of Try.underlying23 (by kernel_rfl) ?_
  refine eqf_cons (by rfl) (by go_simp; rfl) (by go_simp; rfl) (by go_simp) ?_
  exact eqf_last (by rfl) (by go_simp; rfl) (by go_simp; rfl) (by go_simp)
attribute [local go_sem high] eqPk
theorem add_two (ad : Addr) (k : Nat) : ad.add (k * 2 + 1) = ⟨(ad.add (k * 2)).block, (ad.add (k * 2)).off + 1, none⟩ := by
  unfold Addr.add
  rw [if_neg (by omega)]
  by_cases h0 : k * 2 = 0
  · rw [if_pos h0, h0]
  · rw [if_neg h0]; simp [Nat.add_assoc]
theorem src_pk {w : World} {A : Option Addr} {l : List PK} (h : Src w 2 A l.length (l.flatMap encP)) {k : Nat} {x : PK} (hx : l[k]? = some x) : ∃ ad, A = some ad ∧ w.cell? (ad.add (k * 2)) = some (.int .i64 x.1) ∧ w.cell? ⟨(ad.add (k * 2)).block, (ad.add (k * 2)).off + 1, none⟩ = some (.int .i64 x.2) := by
  have hk := (List.getElem?_eq_some_iff.1 hx).1
  obtain ⟨ad, e, hc⟩ := h.2 (by omega)
  have g0 := flat_get encP 2 encP_len l k 0 (by omega)
  have g1 := flat_get encP 2 encP_len l k 1 (by omega)
  rw [hx, Option.bind_some] at g0 g1
  refine ⟨ad, e, hc _ _ (by rw [Nat.add_zero] at g0; rw [g0]; rfl), ?_⟩
  have := hc _ _ (show (l.flatMap encP)[k * 2 + 1]? = some (.int .i64 x.2) by rw [g1]; rfl)
  rw [show ad.add (k * 2 + 1) = ⟨(ad.add (k * 2)).block, (ad.add (k * 2)).off + 1, none⟩ from add_two ad k] at this
  exact this
set_option maxHeartbeats 1600000 in
set_option maxRecDepth 100000 in
theorem pairs_yes (A A2 : Option Addr) (cp cp2 : Nat) (l : List PK) (w : World) (h1 : Src w 2 A l.length (l.flatMap encP)) (h2 : Src w 2 A2 l.length (l.flatMap encP)) (hl : l.length ≤ 1000000) :
    Calls Try.prog 28 #[.slice A l.length cp, .slice A2 l.length cp2] w fun e w' => e = .returned (.bool true) ∧ Below w.heap.size w w' := by
  have H1 := Lib.hid h1
  have H2 := Lib.hid h2
  clear h1 h2
  go_enter Try.func28, Try.ntmps28
  go_wp2_with fail
  go_loopw [5] (fun v5 wr => ∃ k : Nat, k ≤ l.length ∧ v5 = .int .i64 (k : Int) ∧ Below w.heap.size w wr) (fun i _ => l.length - (intOf i).toNat)
  case atStart => exact ⟨0, by omega, rfl, Below.refl _ _⟩
  case round =>
    obtain ⟨k, hk, rfl, hb⟩ := hrel
    have hk0 : (0 : Int) ≤ (k : Int) := by omega
    by_cases hlt : k < l.length
    · have hkl : (k : Int) < (l.length : Int) := by omega
      have hx := List.getElem?_eq_getElem hlt
      generalize l[k] = x at hx
      obtain ⟨x1, x2⟩ := x
      obtain ⟨a1, rfl, y0, y1⟩ := src_pk (H1.out.below hb) hx
      obtain ⟨a2, rfl, z0, z1⟩ := src_pk (H2.out.below hb) hx
      simp only at y0 y1 z0 z1
      clear hx
      go_wp2_with fail
      go_quiet (fail)
      go_wp2_with fail
      go_roundw
      case rel => exact ⟨k + 1, by omega, by go_num, hb.trans (bdrew _ _ _)⟩
      case measure => simp [intOf]; omega
    · obtain rfl : k = l.length := by omega
      go_wp2_with fail
      go_ret
      exact ⟨rfl, hb⟩
end Go.Proofs.Ytaecngdabgnamaa.Delta
