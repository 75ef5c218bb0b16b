/- Layer 9: the calls of package sym, walked: a table in memory reads as a list of joined symbols. -/
import Derived.Test.YthinomhjhkhidaaSym
import Derived.Laws.BytesArg
namespace Go.Proofs.Ythinomhjhkhidaa.Sym2
open Go.RowKit Go.Maps Go.WideMaps Base Foot SymPure Sym
set_option linter.unusedVariables false

theorem info126 : (Try.prog.info? 120).map (fun i => (i.zero, i.size, i.bytes)) = some (some (.agg #[.int .i64 0, .int .i64 0, .string ⟨#[]⟩]), 3, 32) := by kernel_rfl
set_option maxHeartbeats 400000 in
set_option maxRecDepth 100000 in
theorem join_nil (a c : Int) (w : World) : Calls Try.prog 54 #[.pointer none, .int .i64 a, .int .i64 c] w fun e w' => e = .returned (.tuple #[.int .i64 0, .int .i64 1]) ∧ w = w' := by
  go_enter Try.func54, Try.ntmps54
  go_wp2_with (go_at_call 55; refine (text_nil _ _).mono ?_; rintro e w' ⟨rfl, rfl⟩)
  go_ret2
  exact ⟨rfl, rfl⟩

theorem join_text {T : List J} (hs : ∀ x ∈ T, x.s.size ≤ 65536) (id : Int) : (textS T id).size ≤ 65536 := by
  unfold textS
  split
  · split
    · simp [byteS, ByteArray.size]
    · simp only [List.getD]
      cases h : T[(id - 256).toNat]? with
      | none => simp [j0, ByteArray.size]
      | some x => exact hs x (List.mem_of_getElem? h)
  · simp [ByteArray.size]

set_option maxHeartbeats 400000 in
set_option maxRecDepth 100000 in
/-- a join that is refused -/
theorem join_no {B : Nat} {w : World} {b : Nat} {lv mv : Value} {T : List J} (h : SymT B w b lv mv T) (a c : Int) (ha : In64 a) (hc : In64 c) (hE : joinE T a c ≠ 0) :
    Calls Try.prog 54 #[.pointer (some ⟨b, 0, none⟩), .int .i64 a, .int .i64 c] w fun e w' => e = .returned (.tuple #[.int .i64 0, .int .i64 (joinE T a c)]) ∧ Below w.heap.size w w' := by
  have hta := join_text h.size a
  have htc := join_text h.size c
  have HE := Lib.hid hE
  clear hE
  go_enter Try.func54, Try.ntmps54
  go_wp2_with fail
  refine (text_any h a ha).mono ?_
  rintro e w1 ⟨rfl, b1⟩
  have h1 := h.below b1
  go_wp2_with fail
  refine (text_any h1 c hc).mono ?_
  rintro e w2 ⟨rfl, b2⟩
  have h2 := h1.below b2
  replace b2 := b1.trans (b2.mono b1.size)
  cases e1 : there T a
  · have HJ := Lib.hid (show joinE T a c = 1 from by unfold joinE; rw [if_pos (.inl e1)])
    go_wp2
    go_ret2
    exact ⟨by rw [HJ.out]; rfl, b2⟩
  · cases e2 : there T c
    · have HJ := Lib.hid (show joinE T a c = 1 from by unfold joinE; rw [if_pos (.inr e2)])
      go_wp2
      go_ret2
      exact ⟨by rw [HJ.out]; rfl, b2⟩
    · by_cases h3 : 65536 < (textS T a).size + (textS T c).size
      · have HJ := Lib.hid (show joinE T a c = 4 from by unfold joinE; rw [if_neg (by simp [e1, e2]), if_pos h3])
        have h3i : (65536 : Int) < (((textS T a).size : Nat) : Int) + (((textS T c).size : Nat) : Int) := by omega
        clear h3
        go_wp2
        go_ret2
        exact ⟨by rw [HJ.out]; rfl, b2⟩
      · cases h4 : (findS T (textS T a ++ textS T c)).2
        · exfalso
          exact HE.out (by unfold joinE; rw [if_neg (by simp [e1, e2]), if_neg h3, if_neg (by simp [h4])])
        · have HJ := Lib.hid (show joinE T a c = 8 from by unfold joinE; rw [if_neg (by simp [e1, e2]), if_neg h3, if_pos h4])
          have h3i : ¬ (65536 : Int) < (((textS T a).size : Nat) : Int) + (((textS T c).size : Nat) : Int) := by omega
          have hsz : (textS T a ++ textS T c).size ≤ maxLen := by rw [ByteArray.size_append]; unfold maxLen; omega
          clear h3
          go_wp2_with (go_at_call 53; refine (find_any h2 (textS T a ++ textS T c) hsz).mono ?_; rintro e w3 ⟨rfl, rfl⟩)
          go_ret2
          exact ⟨by rw [HJ.out]; rfl, b2⟩

end Go.Proofs.Ythinomhjhkhidaa.Sym2
