/- Layer 9: the calls of package sym, walked: a table in memory reads as a list of joined symbols. -/
import Derived.Test.YthinomhjhkhidaaFoot
import Derived.Test.YthinomhjhkhidaaSymPure
import Derived.Laws.BytesArg
namespace Go.Proofs.Ythinomhjhkhidaa.Sym
open Go.RowKit Go.Maps Go.WideMaps Base Foot SymPure
set_option linter.unusedVariables false

def encJ (x : J) : List Value := [.int .i64 x.a, .int .i64 x.b, .string x.s]
def Foot (b : Nat) (lv mv : Value) (k : Nat) : Prop := k = b ∨ lv.ownBlock = some k ∨ mv = .map (some k)
def MapOf (D : DataW Unit) (T : List J) : Prop := ∀ t : ByteArray, Maps.has D (.string t.data.toList) = (idx T t).isSome ∧ D.atKey (.string t.data.toList) (.lit (.int .i64 0)) = .lit (.int .i64 (((idx T t).map fun i => 256 + (i : Int)).getD 0))
def MapV (w : World) (B : Nat) (mv : Value) (T : List J) : Prop :=
  (mv = .map none ∧ T = []) ∨ ∃ mb D, mv = .map (some mb) ∧ B ≤ mb ∧ w.ownsMap Try.prog 9 (plainElem Try.prog 3) mb T.length D ∧ MapOf D T
/-- a table at block b, all of whose blocks lie from B on -/
structure SymT (B : Nat) (w : World) (b : Nat) (lv mv : Value) (T : List J) : Prop where
  base : B ≤ b
  blk : w.heap[b]? = some (.cells #[lv, mv] 118 (0, 0))
  row : w.ownsRow B 120 3 lv T.length (T.flatMap encJ)
  map : MapV w B mv T
  small : T.length ≤ 1000000
  size : ∀ x ∈ T, x.s.size ≤ 65536
  good : Made T

theorem SymT.keep {B : Nat} {w w' : World} {b : Nat} {lv mv : Value} {T : List J} (h : SymT B w b lv mv T) (hk : ∀ k, Foot b lv mv k → w'.heap[k]? = w.heap[k]?) : SymT B w' b lv mv T := by
  refine ⟨h.base, (hk b (.inl rfl)).trans h.blk, own_keep h.row (fun k e => hk k (.inr (.inl e))), ?_, h.small, h.size, h.good⟩
  rcases h.map with h1 | ⟨mb, D, e, hb, ho, hD⟩
  · exact .inl h1
  · exact .inr ⟨mb, D, e, hb, map_keep ho (hk mb (.inr (.inr e))), hD⟩
theorem SymT.foot_lt {B : Nat} {w : World} {b : Nat} {lv mv : Value} {T : List J} (h : SymT B w b lv mv T) : ∀ k, Foot b lv mv k → B ≤ k ∧ k < w.heap.size := by
  rintro k (rfl | h1 | h1)
  · exact ⟨h.base, block_lt h.blk⟩
  · exact h.row.lt k h1
  · rcases h.map with ⟨e, _⟩ | ⟨mb, D, e, hb, ho, hD⟩
    · rw [e] at h1; cases h1
    · rw [e] at h1; cases h1; exact ⟨hb, ho.lt⟩
theorem SymT.below {B : Nat} {w w' : World} {b : Nat} {lv mv : Value} {T : List J} (h : SymT B w b lv mv T) (hb : Below w.heap.size w w') : SymT B w' b lv mv T :=
  h.keep fun k hk => hb.block k (h.foot_lt k hk).2
theorem SymT.drew {B : Nat} {w : World} {b : Nat} {lv mv : Value} {T : List J} (h : SymT B w b lv mv T) : SymT B w.drew b lv mv T := h.keep fun _ _ => rfl
theorem SymT.slice {B : Nat} {w : World} {b : Nat} {lv mv : Value} {T : List J} (h : SymT B w b lv mv T) : ∃ A cap, lv = .slice A T.length cap := by
  rcases h.row.2 with ⟨rfl, h0⟩ | ⟨g, cap, cur, rfl, _⟩
  · exact ⟨none, 0, by rw [h0]⟩
  · exact ⟨_, _, rfl⟩

set_option maxHeartbeats 400000 in
theorem new_any (w : World) : Calls Try.prog 52 #[] w fun e w' => e = .returned (.pointer (some ⟨w.heap.size, 0, none⟩)) ∧ SymT w.heap.size w' w.heap.size (.slice none 0 0) (.map none) [] ∧ Below w.heap.size w w' := by
  go_enter Try.func52, Try.ntmps52
  go_wp2
  go_ret
  exact ⟨rfl, ⟨Nat.le_refl _, heap_alloc_new _ _, World.ownsRow_nil _ _ _ _,   .inl ⟨rfl, rfl⟩, by simp, by simp, .nil⟩, (Below.refl _ _).alloc (Nat.le_refl _) _⟩

set_option maxHeartbeats 400000 in
theorem len_nil (w : World) : Calls Try.prog 65 #[.pointer none] w fun e w' => e = .returned (.int .i64 0) ∧ w = w' := by
  go_enter Try.func65, Try.ntmps65
  go_wp2
  go_ret
  exact ⟨rfl, rfl⟩
set_option maxHeartbeats 400000 in
theorem len_any {B : Nat} {w : World} {b : Nat} {lv mv : Value} {T : List J} (h : SymT B w b lv mv T) :
    Calls Try.prog 65 #[.pointer (some ⟨b, 0, none⟩)] w fun e w' => e = .returned (.int .i64 (256 + (T.length : Int))) ∧ w = w' := by
  obtain ⟨A, cap, hA⟩ := h.slice
  have hb := h.blk
  rw [hA] at hb
  have c0 := cell_at hb 0
  have hs := h.small
  simp only [List.getElem?_toArray, List.getElem?_cons_zero] at c0
  clear hb hA
  go_enter Try.func65, Try.ntmps65
  go_wp2
  go_ret
  exact ⟨rfl, rfl⟩

set_option maxHeartbeats 400000 in
theorem text_nil (id : Int) (w : World) : Calls Try.prog 55 #[.pointer none, .int .i64 id] w fun e w' => e = .returned (.tuple #[.string ⟨#[]⟩, .bool false]) ∧ w = w' := by
  by_cases h1 : id < 0
  · go_enter Try.func55, Try.ntmps55
    go_wp2_with (go_at_call 65; refine (len_nil _).mono ?_; rintro e w' ⟨rfl, rfl⟩)
    go_ret2
    exact ⟨rfl, rfl⟩
  · go_enter Try.func55, Try.ntmps55
    go_wp2_with (go_at_call 65; refine (len_nil _).mono ?_; rintro e w' ⟨rfl, rfl⟩)
    go_ret2
    exact ⟨rfl, rfl⟩

theorem encJ_len (x : J) : (encJ x).length = 3 := rfl
set_option maxHeartbeats 400000 in
set_option maxRecDepth 100000 in
theorem text_all {B : Nat} {w : World} {b : Nat} {lv mv : Value} {T : List J} (h : SymT B w b lv mv T) (id : Int) :
    Calls Try.prog 55 #[.pointer (some ⟨b, 0, none⟩), .int .i64 id] w fun e w' => e = .returned (.tuple #[.string (textS T id), .bool (there T id)]) ∧ Below w.heap.size w w' := by
  have hs := h.small
  have hlen : ∀ w', SymT B w' b lv mv T → Calls Try.prog 65 #[.pointer (some ⟨b, 0, none⟩)] w' fun e w'' => e = .returned (.int .i64 (256 + (T.length : Int))) ∧ w' = w'' := fun w' h' => len_any h'
  have HL := Lib.hid hlen
  clear hlen
  cases ht : there T id
  · rw [there_not ht]
    by_cases h1 : id < 0
    · go_enter Try.func55, Try.ntmps55
      go_wp2
      go_ret2
      exact ⟨rfl, Below.refl _ _⟩
    · have h2 : 256 + (T.length : Int) ≤ id := by
        have := mt there_iff.2 (by rw [ht]; decide)
        omega
      go_enter Try.func55, Try.ntmps55
      go_wp2_with (go_at_call 65; refine (HL.out _ h).mono ?_; rintro e w' ⟨rfl, rfl⟩)
      go_ret2
      exact ⟨rfl, Below.refl _ _⟩
  · obtain ⟨h1, h2⟩ := there_iff.1 ht
    by_cases h3 : id < 256
    · have HT := Lib.hid (text_low (T := T) h1 h3)
      have hcv : (convert 76 9 (.slice (some ⟨w.heap.size, 0, none⟩) 1 1)).run Try.prog (w.alloc (.cells #[.int .u8 id] 5)) = .ok (.string (strOfNums [id])) (w.alloc (.cells #[.int .u8 id] 5)) := by
        refine run_convert_bytes_arg (P := Try.prog) (w := _) 76 5 Try.underlying76 Try.underlying5 w.heap.size 0 1 1 [id] rfl ?_ _ Try.underlying9
        intro i hi
        obtain rfl : i = 0 := by omega
        rw [cell_at (heap_alloc_new w _)]
        rfl
      go_enter Try.func55, Try.ntmps55
      go_wp2_with (go_at_call 65; refine (HL.out _ h).mono ?_; rintro e w' ⟨rfl, rfl⟩)
      go_ret2
      exact ⟨by rw [HT.out]; rfl, (Below.refl _ _).alloc (Nat.le_refl _) _⟩
    · have hlt : (id - 256).toNat < T.length := by omega
      obtain ⟨ad, cap, hA, hcap, hc0, hcj⟩ := own_at encJ_len h.row (by omega) (List.getElem?_eq_getElem hlt)
      have hb := h.blk
      have HT := Lib.hid (text_high (T := T) (by omega) (List.getElem?_eq_getElem hlt))
      have c2 := hcj 2 _ rfl
      rw [hA] at hb
      have c0 := cell_at hb 0
      simp only [List.getElem?_toArray, List.getElem?_cons_zero] at c0
      clear hb hA hc0 hcj
      go_enter Try.func55, Try.ntmps55
      go_wp2_with (go_at_call 65; refine (HL.out _ h).mono ?_; rintro e w' ⟨rfl, rfl⟩)
      go_ret2
      exact ⟨by rw [HT.out]; rfl, Below.refl _ _⟩
theorem text_any {B : Nat} {w : World} {b : Nat} {lv mv : Value} {T : List J} (h : SymT B w b lv mv T) (id : Int) (hid : In64 id) :
    Calls Try.prog 55 #[.pointer (some ⟨b, 0, none⟩), .int .i64 id] w fun e w' => e = .returned (.tuple #[.string (textS T id), .bool (there T id)]) ∧ Below w.heap.size w w' := text_all h id

theorem law_s : Keyed Try.prog 9 := string_keyed Try.underlying9
theorem zero_i (w : World) : (zeroValue 3).run Try.prog w = .ok (.int .i64 0) w := by kernel_rfl

set_option maxHeartbeats 400000 in
theorem find_nil (t : ByteArray) (w : World) : Calls Try.prog 53 #[.pointer none, .string t] w fun e w' => e = .returned (.tuple #[.int .i64 0, .bool false]) ∧ w = w' := by
  go_enter Try.func53, Try.ntmps53
  go_wp2
  go_ret2
  exact ⟨rfl, rfl⟩

theorem head_of {t : ByteArray} (h : 0 < t.size) : t.toList.headD 0 = t[0] := by
  have hl : 0 < t.toList.length := by rw [toList_len]; exact h
  rw [List.headD_eq_head?_getD, List.head?_eq_getElem?, List.getElem?_eq_getElem hl]
  simp only [Option.getD_some, ByteArray.toList_eq]
  rfl

set_option maxHeartbeats 400000 in
set_option maxRecDepth 100000 in
theorem find_any {B : Nat} {w : World} {b : Nat} {lv mv : Value} {T : List J} (h : SymT B w b lv mv T) (t : ByteArray) (ht : t.size ≤ maxLen) :
    Calls Try.prog 53 #[.pointer (some ⟨b, 0, none⟩), .string t] w fun e w' => e = .returned (.tuple #[.int .i64 (findS T t).1, .bool (findS T t).2]) ∧ w = w' := by
  have c1 := cell_at h.blk 1
  simp only [List.getElem?_toArray, List.getElem?_cons_succ, List.getElem?_cons_zero] at c1
  have hs := h.small
  by_cases h1 : t.size = 1
  · have h0 : 0 < t.size := by omega
    have h1i : ((t.size : Int) == 1) = true := by simp [h1]
    have H1 := Lib.hid h1
    have HF := Lib.hid (show findS T t = (((t.toList.headD 0).toNat : Int), true) from by unfold findS; rw [if_pos h1])
    have HH := Lib.hid (head_of h0)
    clear h1
    go_enter Try.func53, Try.ntmps53
    go_wp2
    go_ret2
    exact ⟨by rw [HF.out, HH.out]; exact ret_ib (wrap_byte _), rfl⟩
  · have h1i : ((t.size : Int) == 1) = false := by simp; omega
    have hkey := keyOf_string_mk (P := Try.prog) (k := 9) Try.underlying9 ht
    rcases h.map with ⟨rfl, rfl⟩ | ⟨mb, D, rfl, hmb, hown, hD⟩
    · have HF := Lib.hid (show findS [] t = (0, false) from by unfold findS; rw [if_neg h1]; rfl)
      have hrun := look_nil (w := w) (P := Try.prog) (t := 73) (e := 3) true law_s Try.underlying73 (zero_i w) hkey
      clear h1 hkey
      go_enter Try.func53, Try.ntmps53
      go_wp2
      go_ret2
      exact ⟨by rw [HF.out]; rfl, rfl⟩
    · have HF := Lib.hid (show findS T t = (((idx T t).map fun i => 256 + (i : Int)).getD 0, (idx T t).isSome) from by
        unfold findS; rw [if_neg h1]; cases idx T t <;> rfl)
      have HD := Lib.hid (hD t)
      clear hD h1
      go_enter Try.func53, Try.ntmps53
      go_wp2_with (at_lookup; refine wpList_lookup_own_ok_int _ rfl _ _ 73 rfl 9 3 .i64 law_s Try.underlying73 Try.underlying3 (zero_i _) mb _ D rfl hown _ _ rfl hkey ?_; intro c hat hwc)
      go_ret2
      have e2 : c = ((idx T t).map fun i => 256 + (i : Int)).getD 0 := by
        have := hat.symm.trans HD.out.2
        simpa using this
      exact ⟨by rw [HF.out, HD.out.1, ← e2]; rfl, rfl⟩

end Go.Proofs.Ythinomhjhkhidaa.Sym
