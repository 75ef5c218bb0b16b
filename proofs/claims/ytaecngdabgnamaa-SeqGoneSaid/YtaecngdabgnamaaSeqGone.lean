/- SeqGone: behind a merge into a new symbol the pair isn't there any more; each merge takes one symbol away. No condition. -/
import Derived.Test.YtaecngdabgnamaaSeqLaw
import Derived.Test.YtaecngdabgnamaaOpen
import Derived.Lib.SmallJoins
namespace Go.Proofs.Ytaecngdabgnamaa.SeqGone
open Go.RowKit Go.Maps Go.ChangeShapes Go.WideShapes Go.Deep Go.Proofs.YtaecngdabgnamaaW.PrintWords Go.Proofs.YtaecngdabgnamaaW.PrintLast Go.Proofs.YtaecngdabgnamaaW.PrintMore Base Foot ExtTail PMap SeqPure SeqM
set_option linter.unusedVariables false
set_option linter.unusedSimpArgs false
attribute [local go_sem ↓] Go.wp_at_zero Go.wp_at_succ

theorem mrg_none {p : PK} {z : Int} : ∀ (l : List Int), p ∉ adj l → mrg p z l = (l, 0)
  | [], _ => rfl
  | [a], _ => rfl
  | a :: b :: r, h => by
    have h1 : ¬ (a = p.1 ∧ b = p.2) := fun e => h (by rw [adj, e.1, e.2]; simp)
    have ih := mrg_none (p := p) (z := z) (b :: r) (fun e => h (by rw [adj]; exact List.mem_cons_of_mem _ e))
    rw [mrg, if_neg h1, ih]
theorem mrg_head (p : PK) (z : Int) (b : Int) (r : List Int) : (mrg p z (b :: r)).1.head? = some b ∨ ((mrg p z (b :: r)).1.head? = some z ∧ p.2 ∈ r ∧ b = p.1) := by
  cases r with
  | nil => exact .inl rfl
  | cons c r =>
    by_cases h : b = p.1 ∧ c = p.2
    · right
      rw [mrg, if_pos h]
      exact ⟨rfl, by rw [h.2]; simp, h.1⟩
    · left
      rw [mrg, if_neg h]
      rfl
theorem gone_adj (p : PK) (z : Int) : ∀ (l : List Int), (∀ x ∈ l, x ≠ z) → p ∉ adj (mrg p z l).1 := by
  intro l
  fun_induction mrg p z l with
  | case1 a b r h ih =>
    intro hz hm
    rw [adj_cons] at hm
    rcases List.mem_append.1 hm with hm | hm
    · cases e : (mrg p z r).1.head? with
      | none => rw [e] at hm; simp [lnk] at hm
      | some y =>
        rw [e] at hm
        simp only [lnk, List.mem_singleton] at hm
        exact hz a (by simp) (by rw [h.1, hm])
    · exact ih (fun x hx => hz x (by simp [hx])) hm
  | case2 a b r h ih =>
    intro hz hm
    rw [adj_cons] at hm
    rcases List.mem_append.1 hm with hm | hm
    · rcases mrg_head p z b r with e | ⟨e, e2, _⟩
      · rw [e] at hm
        simp only [lnk, List.mem_singleton] at hm
        exact h (by rw [hm]; exact ⟨rfl, rfl⟩)
      · rw [e] at hm
        simp only [lnk, List.mem_singleton] at hm
        exact hz p.2 (by simp [e2]) (by rw [hm])
    · exact ih (fun x hx => hz x (by simp at hx; rcases hx with rfl | hx <;> simp [*])) hm
  | case3 l h =>
    intro hz hm
    match l, h with
    | [], _ => simp [adj] at hm
    | [a], _ => simp [adj] at hm
    | a :: b :: r, h => exact absurd rfl (h a b r)
theorem gone (p : PK) (z z' : Int) (l : List Int) (h : ∀ x ∈ l, x ≠ z) : mrg p z' (mrg p z l).1 = ((mrg p z l).1, 0) := mrg_none _ (gone_adj p z l h)

set_option maxHeartbeats 3200000 in
set_option maxRecDepth 100000 in
theorem law_any (s : ByteArray) (p : PK) (hp : P64 p) (w : World) (hs0 : s.size ≤ 140737488351232) :
    Calls Try.prog 3 #[.string s, vP p] w fun e w' => e = .returned (.bool true) ∧ Below w.heap.size w w' := by
  obtain ⟨p1, p2⟩ := p
  have b0 : Below w.heap.size w (w.alloc (.cells #[.int .i64 p1, .int .i64 p2] 23)) := (Below.refl _ _).alloc (Nat.le_refl _) _
  have x0 := heap_alloc_new w (.cells #[.int .i64 p1, .int .i64 p2] 23)
  have hz0 : In64 1000 := ⟨by decide, by decide⟩
  have hz1 : In64 1001 := ⟨by decide, by decide⟩
  unfold vP
  go_enter Try.func3, Try.ntmps3
  go_wp2_with fail
  generalize w.alloc (.cells #[.int .i64 p1, .int .i64 p2] 23) = W0 at *
  refine (awake_any _).mono ?_
  rintro e w1 ⟨rfl, b1⟩
  have x1 := (b1.block _ (block_lt x0)).trans x0
  have b01 := b0.trans (b1.mono b0.size)
  clear b0 b1 x0
  by_cases h2 : 200 < s.size
  · have h3 : (200 : Int) < (s.size : Int) := by omega
    go_wp2_with fail
    go_ret
    exact ⟨rfl, b01⟩
  · have h3 : (s.size : Int) ≤ 200 := by omega
    have HN := Lib.hid (new_any s w1 (by omega))
    clear h2
    go_wp2_with fail
    refine HN.out.mono ?_
    rintro e w2 ⟨rfl, ⟨sv, C, g2⟩, b2⟩
    have x2 := (b2.block _ (block_lt x1)).trans x1
    have hsz1 := block_lt x1
    have b02 := b01.trans (b2.mono b01.size)
    obtain ⟨X, hX⟩ : ∃ X, initX 0 s.data.toList = X := ⟨_, rfl⟩
    rw [hX] at g2
    have HX := Lib.hid (show X.length = s.size by rw [← hX, initX_len, Array.length_toList]; rfl)
    have HB := Lib.hid (show ∀ x ∈ syms X, x ≠ 1000 by
      rw [← hX, syms_initX]
      intro x hx
      obtain ⟨c, _, rfl⟩ := List.mem_map.1 hx
      have := UInt8.toNat_lt c
      omega)
    have H2 := Lib.hid g2
    have HF := Lib.hid (foot_ge g2 (Nat.le_refl _))
    have c0 := cell_at x2 0
    have c1 := cell_at x2 1
    simp only [List.getElem?_toArray, List.getElem?_cons_zero, List.getElem?_cons_succ] at c0 c1
    clear x1 b01 b2 g2 hX HN
    go_wp2_with fail
    refine (len_any H2.out).mono ?_
    rintro e w' ⟨rfl, rfl⟩
    rw [HX.out]
    have HM := Lib.hid (merge_any H2.out (p1, p2) 1000 hz0)
    unfold vP at HM
    go_wp2_with fail
    refine HM.out.mono ?_
    rintro e w3 ⟨C', X', v, l, rfl, g3, hc, hx, q1, q2, q3, q4, q5, u3⟩
    have hlen := mrg_len (p1, p2) 1000 (syms X)
    have hgone := gone (p1, p2) 1000 1001 (syms X) HB.out
    rw [← hx] at hgone
    have e1 : (syms X').length = X'.length := by simp [syms]
    have e2 : (syms X).length = s.size := by rw [← HX.out]; simp [syms]
    rw [← hx, e1, e2] at hlen
    generalize (mrg (p1, p2) 1000 (syms X)).2 = n at *
    have hXl : (X'.length : Int) = (s.size : Int) - (n : Int) := by omega
    have hns : n ≤ s.size := by omega
    have hnb : decide ((n : Int) < 0) = false := by simp
    have x3 := (u3.block _ (block_lt x2) (fun h => by have := HF.out _ h; omega)).trans x2
    have b03 := b02.trans (u3.below b02.size (fun k hk => by have := HF.out k hk; omega))
    have H3 := Lib.hid g3
    have HG := Lib.hid hgone
    have HL := Lib.hid hXl
    have X3 := Lib.hid x3
    obtain ⟨A, cp, rfl⟩ := own_slc q5
    clear g3 hc hx q1 q2 q3 q4 q5 u3 hlen hgone e1 e2 x2 x3 hXl HM H2 b02
    have d0 := cell_at X3.out 0
    have d1 := cell_at X3.out 1
    simp only [List.getElem?_toArray, List.getElem?_cons_zero, List.getElem?_cons_succ] at d0 d1
    go_wp2_with fail
    refine (len_any H3.out).mono ?_
    rintro e w' ⟨rfl, rfl⟩
    rw [HL.out]
    have HM := Lib.hid (merge_any H3.out (p1, p2) 1001 hz1)
    unfold vP at HM
    go_wp2_with fail
    refine HM.out.mono ?_
    rintro e w4 ⟨C4, X4, v4, l4, rfl, g4, hc, hx, q1, q2, q3, q4, q5, u4⟩
    rw [HG.out] at q3 ⊢
    have hl4 : l4.length = 0 := by omega
    rw [hl4] at q5
    have b04 := b03.trans (u4.below b03.size (fun k hk => by have := HF.out k hk; omega))
    obtain ⟨A4, cp4, rfl⟩ := own_slc q5
    clear g4 hc hx q1 q2 q3 q4 q5 u4 hl4 HM d0 d1 b03
    simp only [Int.natCast_zero]
    go_wp2_with fail
    go_ret
    exact ⟨rfl, b04⟩
section
variable {H : Type} {enc' : TypeId × Value → H} {w : World} {base : Nat} {spare : Nat → Bool} {held : Bool}
set_option maxRecDepth 100000 in
theorem agg_Pair {r : Reach} {b0 : Nat} {v : Value} {d : DataW H} {p : List MemPlace} (hv : Value.okWide Try.prog w r b0 23 v) (h : DataW.Trod enc' Try.prog w base spare held 23 v d p) :
    ∃ x : PK, v = vP x ∧ P64 x := by
  obtain ⟨v0, v1, y0, y1, n, rfl, _, _, h0, h1⟩ := Joins.open_agg2 Try.underlying23 (by kernel_rfl) (by kernel_rfl) hv h
  obtain ⟨k0, e0, _, w0⟩ := DataW.trod_int Try.underlying3 h0
  obtain ⟨k1, e1, _, w1⟩ := DataW.trod_int Try.underlying3 h1
  cases e0
  cases e1
  exact ⟨(k0, k1), rfl, OpenArg.wf_in w0, OpenArg.wf_in w1⟩
end
theorem walk (W : World) (s : ByteArray) (hs : s.size ≤ 140737488351232) (p : PK) (hp : P64 p) : Calls Try.prog 3 #[.string s, vP p] W fun e w' => e = .returned (.bool true) ∧ Below W.heap.size W w' := law_any s p hp W hs
end Go.Proofs.Ytaecngdabgnamaa.SeqGone
