/- Layer 11, the laws: what is compared, the document's example. -/
import Derived.Test.YtaecngdabgnamaaSeqPairs
namespace Go.Proofs.Ytaecngdabgnamaa.SeqM
open Go.RowKit Go.Maps Go.Proofs.YtaecngdabgnamaaW.PrintWords Go.Proofs.YtaecngdabgnamaaW.PrintLast Go.Proofs.YtaecngdabgnamaaW.PrintMore Base Foot ExtTail PMap SeqPure
set_option linter.unusedVariables false
set_option linter.unusedSimpArgs false
attribute [local go_sem ↓] Go.wp_at_zero Go.wp_at_succ
attribute [-go_sem] Instr.build
attribute [local go_sem high] buildP buildG

theorem eqCh (d : Nat) (w : World) (x0 y0 x1 y1 x2 y2 : Int) :
    (Op.equalIn (d + 3) 47 (.agg #[.int .i64 x0, .int .i64 x1, .int .i64 x2]) (.agg #[.int .i64 y0, .int .i64 y1, .int .i64 y2])).run Try.prog w = .ok ((x0 == y0 && (x1 == y1)) && (x2 == y2)) w := by
  refine eqA_of Try.underlying47 (by kernel_rfl) ?_
  refine eqf_cons (a := .agg #[.int .i64 x0, .int .i64 x1]) (b := .agg #[.int .i64 y0, .int .i64 y1]) (by rfl) (by go_simp) (by go_simp) (eqP d w x0 y0 x1 y1) ?_
  exact eqf_last (by rfl) (by go_simp; rfl) (by go_simp; rfl) (by go_simp)
theorem foot_ge {B : Nat} {w : World} {b : Nat} {sv : Value} {C : List Cel} {X : List Knot} (h : SeqT B w b sv C X) (hb : B ≤ b) : ∀ k, SFoot b sv k → B ≤ k := by
  rintro k (rfl | hk)
  · exact hb
  · exact (h.row.lt k hk).1
def exl : List (PK × Int) := [((97, 97), -1), ((97, 98), -1), ((256, 98), 1)]
theorem ex_list {l : List (PK × Int)} (h1 : Rise l) (h2 : NZ l) (h3 : ∀ q, lv l q = (cnt [256, 98] q : Int) - cnt [97, 97, 98] q) : l = exl := by
  refine rise_uniq h1 h2 (by simp [exl, Rise, befP]) (fun x hx => by simp [exl] at hx; rcases hx with rfl | rfl | rfl <;> simp) fun q => ?_
  rw [h3 q]
  unfold exl
  rw [lv_cons, lv_cons, lv_cons]
  simp only [cnt, adj, List.count_cons, List.count_nil, lv, PMap.look_nil]
  by_cases e1 : ((97, 97) : PK) = q
  · subst e1; simp
  · by_cases e2 : ((97, 98) : PK) = q
    · subst e2; simp
    · by_cases e3 : ((256, 98) : PK) = q
      · subst e3; simp
      · simp [e1, e2, e3]
attribute [local go_sem high] eqCh
set_option maxHeartbeats 3200000 in
set_option maxRecDepth 100000 in
theorem awake_any (w : World) : Calls Try.prog 11 #[] w fun e w' => e = .returned (.bool true) ∧ Below w.heap.size w w' := by
  have h256 : In64 256 := ⟨by decide, by decide⟩
  have HN := Lib.hid (new_any ⟨#[97, 97, 98]⟩ w (by decide))
  go_enter Try.func11, Try.ntmps11
  go_wp2_with fail
  refine HN.out.mono ?_
  rintro e w1 ⟨rfl, ⟨sv, C, h1⟩, b1⟩
  have HM := Lib.hid (merge_any h1 (97, 97) 256 h256)
  have hf := foot_ge h1 (Nat.le_refl _)
  go_wp2_with fail
  refine HM.out.mono ?_
  rintro e w2 ⟨C', X', v, l, rfl, h2, hc, hx, q1, q2, q3, q4, q5, u2⟩
  have e1 : syms (initX 0 ([97, 97, 98] : List UInt8)) = [97, 97, 98] := rfl
  have e2 : mrg (97, 97) 256 [97, 97, 98] = ([256, 98], 1) := rfl
  rw [e1, e2] at hx q3
  simp only at hx q3
  have hl : l = exl := ex_list q1 q2 (fun q => by rw [q4 q, hx, e1])
  subst hl
  have b2 := b1.trans (u2.below b1.size hf)
  obtain ⟨g, cap, hv, hcap, y⟩ := own_get encG_len q5 (by omega) (i := 0) (x := ((97, 97), -1)) rfl
  obtain ⟨g', cap', hv', _, z⟩ := own_get encG_len q5 (by omega) (i := 1) (x := ((97, 98), -1)) rfl
  obtain ⟨g'', cap'', hv'', _, t⟩ := own_get encG_len q5 (by omega) (i := 2) (x := ((256, 98), 1)) rfl
  rw [hv] at hv' hv''
  cases hv'
  cases hv''
  subst hv
  have y0 := y 0 _ rfl
  have y1 := y 1 _ rfl
  have y2 := y 2 _ rfl
  have z0 := z 0 _ rfl
  have z1 := z 1 _ rfl
  have z2 := z 2 _ rfl
  have t0 := t 0 _ rfl
  have t1 := t 1 _ rfl
  have t2 := t 2 _ rfl
  simp only [Nat.zero_mul, Nat.one_mul, Nat.zero_add, Nat.add_zero, Nat.reduceMul, Nat.reduceAdd] at y0 y1 y2 z0 z1 z2 t0 t1 t2
  have hlen : exl.length = 3 := rfl
  rw [hlen] at hcap ⊢
  have B2 := Lib.hid b2
  rw [e1, e2]
  clear h1 h2 hf q1 q2 q3 q4 q5 u2 HM HN y z t e1 e2 hx hc b1 b2
  simp only
  go_wp2_with fail
  go_ret
  exact ⟨rfl, B2.out⟩
end Go.Proofs.Ytaecngdabgnamaa.SeqM
