/- Layer 9: the calls of package sym, walked: a table in memory reads as a list of joined symbols. -/
import Derived.Test.YtbldnjpdeldabaaSym
import Derived.Laws.BytesArg
namespace Go.Proofs.Ytbldnjpdeldabaa.Sym2
open Go.RowKit Go.Maps Go.WideMaps Base Foot SymPure Sym
set_option linter.unusedVariables false

set_option maxHeartbeats 400000 in
set_option maxRecDepth 100000 in
theorem pair_nil (id : Int) (w : World) : Calls Try.prog 20 #[.pointer none, .int .i64 id] w fun e w' => e = .returned (.tuple #[.agg #[.int .i64 0, .int .i64 0], .bool false]) ∧ Below w.heap.size w w' := by
  by_cases h1 : id < 256
  · go_enter Try.func20, Try.ntmps20
    go_wp2
    exact bodyPost_ret (v := .tuple #[.agg #[.int .i64 0, .int .i64 0], .bool false]) (by simp [results, Try.results20, go_sem]) rfl ⟨rfl, (Below.refl _ _).alloc (Nat.le_refl _) _⟩
  · go_enter Try.func20, Try.ntmps20
    go_wp2_with fail
    refine (Sym.len_nil _).mono ?_
    rintro e w' ⟨rfl, rfl⟩
    go_wp2_with fail
    exact bodyPost_ret (v := .tuple #[.agg #[.int .i64 0, .int .i64 0], .bool false]) (by simp [results, Try.results20, go_sem]) rfl ⟨rfl, (Below.refl _ _).alloc (Nat.le_refl _) _⟩

set_option maxHeartbeats 400000 in
set_option maxRecDepth 100000 in
theorem pair_any {B : Nat} {w : World} {b : Nat} {lv mv : Value} {T : List J} (h : SymT B w b lv mv T) (id : Int) (hid : In64 id) :
    Calls Try.prog 20 #[.pointer (some ⟨b, 0, none⟩), .int .i64 id] w fun e w' => e = .returned (.tuple #[.agg #[.int .i64 (pairS T id).1, .int .i64 (pairS T id).2], .bool (isJoined T id)]) ∧ Below w.heap.size w w' := by
  have hs := h.small
  have HL := Lib.hid (show ∀ w', SymT B w' b lv mv T → Calls Try.prog 23 #[.pointer (some ⟨b, 0, none⟩)] w' fun e w'' => e = .returned (.int .i64 (256 + (T.length : Int))) ∧ w' = w'' from fun w' h' => len_any h')
  have h' : ∀ o, SymT B (w.alloc o) b lv mv T := fun o => h.below ((Below.refl _ _).alloc (Nat.le_refl _) o)
  have H' := Lib.hid h'
  clear h'
  cases ht : isJoined T id
  · rw [pair_not ht]
    by_cases h1 : id < 256
    · go_enter Try.func20, Try.ntmps20
      go_wp2
      exact bodyPost_ret (v := .tuple #[.agg #[.int .i64 0, .int .i64 0], .bool false]) (by simp [results, Try.results20, go_sem]) rfl ⟨rfl, (Below.refl _ _).alloc (Nat.le_refl _) _⟩
    · have h2 : 256 + (T.length : Int) ≤ id := by
        have := mt isJoined_iff.2 (by rw [ht]; decide)
        omega
      go_enter Try.func20, Try.ntmps20
      go_wp2_with (go_at_call 23; refine (HL.out _ (H'.out _)).mono ?_; rintro e w' ⟨rfl, rfl⟩)
      exact bodyPost_ret (v := .tuple #[.agg #[.int .i64 0, .int .i64 0], .bool false]) (by simp [results, Try.results20, go_sem]) rfl ⟨rfl, (Below.refl _ _).alloc (Nat.le_refl _) _⟩
  · obtain ⟨h1, h2⟩ := isJoined_iff.1 ht
    have hlt : (id - 256).toNat < T.length := by omega
    obtain ⟨ad, cap, hA, hcap, hc0, hcj⟩ := own_at encJ_len (h.below ((Below.refl _ _).alloc (Nat.le_refl _) (.cells #[.int .i64 0, .int .i64 0] 30))).row (by omega) (List.getElem?_eq_getElem hlt)
    have hb := (h.below ((Below.refl _ _).alloc (Nat.le_refl _) (.cells #[.int .i64 0, .int .i64 0] 30))).blk
    have HT := Lib.hid (pair_high (T := T) (by omega) (List.getElem?_eq_getElem hlt))
    have c2 := hc0 _ rfl
    have c3 := hcj 1 _ rfl
    rw [hA] at hb
    have c0 := cell_at hb 0
    simp only [List.getElem?_toArray, List.getElem?_cons_zero] at c0
    clear hb hA hc0 hcj
    go_enter Try.func20, Try.ntmps20
    go_wp2_with (go_at_call 23; refine (HL.out _ (H'.out _)).mono ?_; rintro e w' ⟨rfl, rfl⟩)
    exact bodyPost_ret (v := .tuple #[.agg #[.int .i64 T[(id - 256).toNat].a, .int .i64 T[(id - 256).toNat].b], .bool true]) (by simp [results, Try.results20, go_sem]) rfl ⟨by rw [HT.out], (Below.refl _ _).alloc (Nat.le_refl _) _⟩

theorem info126 : (Try.prog.info? 126).map (fun i => (i.zero, i.size, i.bytes)) = some (some (.agg #[.int .i64 0, .int .i64 0, .string ⟨#[]⟩]), 3, 32) := by kernel_rfl
set_option maxHeartbeats 400000 in
set_option maxRecDepth 100000 in
theorem join_nil (a c : Int) (w : World) : Calls Try.prog 17 #[.pointer none, .int .i64 a, .int .i64 c] w fun e w' => e = .returned (.tuple #[.int .i64 0, .int .i64 1]) ∧ w = w' := by
  go_enter Try.func17, Try.ntmps17
  go_wp2_with (go_at_call 18; refine (text_nil _ _).mono ?_; rintro e w' ⟨rfl, rfl⟩)
  go_ret2
  exact ⟨rfl, rfl⟩

theorem join_text {T : List J} (hs : ∀ x ∈ T, x.s.size ≤ 65536) (id : Int) : (textS T id).size ≤ 65536 := by
  unfold textS
  split
  · split
    · simp [byteS, ByteArray.size]
    · simp only [List.getD]
      cases h : T[(id - 256).toNat]? with
      | none => simp [j0, ByteArray.size]
      | some x => exact hs x (List.mem_of_getElem? h)
  · simp [ByteArray.size]

set_option maxHeartbeats 400000 in
set_option maxRecDepth 100000 in
/-- a join that is refused -/
theorem join_no {B : Nat} {w : World} {b : Nat} {lv mv : Value} {T : List J} (h : SymT B w b lv mv T) (a c : Int) (ha : In64 a) (hc : In64 c) (hE : joinE T a c ≠ 0) :
    Calls Try.prog 17 #[.pointer (some ⟨b, 0, none⟩), .int .i64 a, .int .i64 c] w fun e w' => e = .returned (.tuple #[.int .i64 0, .int .i64 (joinE T a c)]) ∧ Below w.heap.size w w' := by
  have hta := join_text h.size a
  have htc := join_text h.size c
  have HE := Lib.hid hE
  clear hE
  go_enter Try.func17, Try.ntmps17
  go_wp2_with fail
  refine (text_any h a ha).mono ?_
  rintro e w1 ⟨rfl, b1⟩
  have h1 := h.below b1
  go_wp2_with fail
  refine (text_any h1 c hc).mono ?_
  rintro e w2 ⟨rfl, b2⟩
  have h2 := h1.below b2
  replace b2 := b1.trans (b2.mono b1.size)
  cases e1 : there T a
  · have HJ := Lib.hid (show joinE T a c = 1 from by unfold joinE; rw [if_pos (.inl e1)])
    go_wp2
    go_ret2
    exact ⟨by rw [HJ.out]; rfl, b2⟩
  · cases e2 : there T c
    · have HJ := Lib.hid (show joinE T a c = 1 from by unfold joinE; rw [if_pos (.inr e2)])
      go_wp2
      go_ret2
      exact ⟨by rw [HJ.out]; rfl, b2⟩
    · by_cases h3 : 65536 < (textS T a).size + (textS T c).size
      · have HJ := Lib.hid (show joinE T a c = 4 from by unfold joinE; rw [if_neg (by simp [e1, e2]), if_pos h3])
        have h3i : (65536 : Int) < (((textS T a).size : Nat) : Int) + (((textS T c).size : Nat) : Int) := by omega
        clear h3
        go_wp2
        go_ret2
        exact ⟨by rw [HJ.out]; rfl, b2⟩
      · cases h4 : (findS T (textS T a ++ textS T c)).2
        · exfalso
          exact HE.out (by unfold joinE; rw [if_neg (by simp [e1, e2]), if_neg h3, if_neg (by simp [h4])])
        · have HJ := Lib.hid (show joinE T a c = 8 from by unfold joinE; rw [if_neg (by simp [e1, e2]), if_neg h3, if_pos h4])
          have h3i : ¬ (65536 : Int) < (((textS T a).size : Nat) : Int) + (((textS T c).size : Nat) : Int) := by omega
          have hsz : (textS T a ++ textS T c).size ≤ maxLen := by rw [ByteArray.size_append]; unfold maxLen; omega
          clear h3
          go_wp2_with (go_at_call 19; refine (find_any h2 (textS T a ++ textS T c) hsz).mono ?_; rintro e w3 ⟨rfl, rfl⟩)
          go_ret2
          exact ⟨by rw [HJ.out]; rfl, b2⟩

end Go.Proofs.Ytbldnjpdeldabaa.Sym2
