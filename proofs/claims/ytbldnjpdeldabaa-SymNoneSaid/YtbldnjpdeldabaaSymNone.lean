/- SymNone: a nil table has nothing; a zero one has the 256 symbols; a text that would be too long isn't joined. No condition. -/
import Derived.Test.YtbldnjpdeldabaaSym4
import Derived.Test.YtbldnjpdeldabaaKinds
import Derived.Deep.RegionHeld3
namespace Go.Proofs.Ytbldnjpdeldabaa.SymNone
open Go.RowKit Base Foot SymPure Sym Sym2 Sym3 Sym4
set_option linter.unusedVariables false

/-! the plain law: doubling -/
structure Dbl (T : List J) (last : Int) (n : Nat) : Prop where
  len : T.length = n
  th : there T last = true
  sz : (textS T last).size = 2 ^ n
  all : ∀ x ∈ T, x.s.size ≤ 2 ^ n
theorem dbl0 : Dbl [] 97 0 := ⟨rfl, by decide, by rw [text_low (by omega) (by omega)]; rfl, by simp⟩
theorem dbl_go {T : List J} {last : Int} {n : Nat} (h : Dbl T last n) (hn : n < 16) : joinE T last last = 0 ∧ Dbl (joinT T last last) (joinI T last last) (n + 1) := by
  have hs : (textS T last).size + (textS T last).size = 2 ^ (n + 1) := by rw [h.sz, Nat.pow_succ]; omega
  have hle : 2 ^ (n + 1) ≤ 65536 := by
    have := Nat.pow_le_pow_right (n := 2) (by omega) (show n + 1 ≤ 16 by omega)
    omega
  have hlt : 2 ^ n < 2 ^ (n + 1) := Nat.pow_lt_pow_right (by omega) (by omega)
  have hp : 1 ≤ 2 ^ n := Nat.one_le_two_pow
  have hE : joinE T last last = 0 := by
    unfold joinE
    rw [if_neg (by simp [h.th]), if_neg (by omega), if_neg]
    simp only [Bool.not_eq_true]
    unfold findS
    rw [if_neg (by rw [ByteArray.size_append]; omega)]
    have : idx T (textS T last ++ textS T last) = none := by
      unfold idx
      rw [List.findIdx?_eq_none_iff]
      intro x hx
      simp only [decide_eq_false_iff_not]
      intro e
      have := h.all x hx
      rw [e, ByteArray.size_append] at this
      omega
    rw [this]
  refine ⟨hE, ?_⟩
  have hj : joinT T last last = T ++ [⟨last, last, textS T last ++ textS T last⟩] := by unfold joinT; rw [if_pos hE]
  have hi : joinI T last last = 256 + (T.length : Int) := by unfold joinI; rw [if_pos hE]
  have ht := join_there hE
  refine ⟨by rw [hj]; simp [h.len], ht, ?_, ?_⟩
  · rw [hi, hj, text_high (x := ⟨last, last, textS T last ++ textS T last⟩) (by omega) (by
      have : (256 + (T.length : Int) - 256).toNat = T.length := by omega
      rw [this]; simp)]
    rw [ByteArray.size_append, hs]
  · rw [hj]
    intro x hx
    rcases List.mem_append.1 hx with h1 | h1
    · have := h.all x h1; omega
    · rw [List.mem_singleton.1 h1]; simp only [ByteArray.size_append]; omega
theorem dbl_stop {T : List J} {last : Int} (h : Dbl T last 16) : joinE T last last = 4 := by
  unfold joinE
  rw [if_neg (by simp [h.th]), if_pos (by rw [h.sz]; decide)]
theorem dbl_stopT {T : List J} {last : Int} (h : Dbl T last 16) : joinT T last last = T := by
  unfold joinT; rw [if_neg (by rw [dbl_stop h]; decide)]

theorem zero_table (w : World) : SymT w.heap.size (w.alloc (.cells #[.slice none 0 0, .map none] 54)) w.heap.size (.slice none 0 0) (.map none) [] :=
  ⟨Nat.le_refl _, heap_alloc_new _ _, World.ownsRow_nil _ _ _ _, .inl ⟨rfl, rfl⟩, by simp, by simp, .nil⟩

set_option maxHeartbeats 800000 in
set_option maxRecDepth 100000 in
theorem law_any (id : Int) (times : Nat) (w : World) (hid : In64 id) (ht : times < 256) :
    Calls Try.prog 5 #[.int .i64 id, .int .u8 (times : Int)] w fun e w' => e = .returned (.bool true) ∧ Below w.heap.size w w' := by
  go_enter Try.func5, Try.ntmps5
  go_wp2_with fail
  refine (awake_any _).mono ?_
  rintro e w1 ⟨rfl, b1⟩
  go_wp2_with fail
  refine (join_nil _ _ _).mono ?_
  rintro e w2 ⟨rfl, rfl⟩
  go_wp2_with fail
  refine (text_nil _ _).mono ?_
  rintro e w2 ⟨rfl, rfl⟩
  go_wp2_with fail
  refine (find_nil _ _).mono ?_
  rintro e w2 ⟨rfl, rfl⟩
  go_wp2_with fail
  refine (pair_nil _ _).mono ?_
  rintro e w2 ⟨rfl, b2⟩
  replace b2 := b1.trans (b2.mono b1.size)
  go_wp2_with fail
  have b3 := b2.alloc b2.size (.cells #[.int .i64 0, .int .i64 0] 30)
  refine (Sym.len_nil _).mono ?_
  rintro e w3 ⟨rfl, rfl⟩
  go_wp2_with fail
  refine (merges_nil _).mono ?_
  rintro e w3 ⟨rfl, rfl⟩
  go_wp2_with fail
  have h4 : SymT (w2.heap.size + 1) ((w2.alloc (.cells #[.int .i64 0, .int .i64 0] 30)).alloc (.cells #[.slice none 0 0, .map none] 54)) (w2.heap.size + 1) (.slice none 0 0) (.map none) [] := by
    have := zero_table (w2.alloc (.cells #[.int .i64 0, .int .i64 0] 30))
    simpa using this
  have b4 := b3.alloc b3.size (.cells #[.slice none 0 0, .map none] 54)
  have hB : w.heap.size ≤ w2.heap.size + 1 := Nat.le_succ_of_le b2.size
  generalize (w2.alloc (.cells #[.int .i64 0, .int .i64 0] 30)).alloc (.cells #[.slice none 0 0, .map none] 54) = w4 at *
  clear b3 b2
  generalize w2.heap.size + 1 = B at *
  refine (len_any h4).mono ?_
  rintro e w5 ⟨rfl, rfl⟩
  have hd0 := dbl0
  go_wp2_with fail
  go_loopw [15, 16] (fun v15 v16 wr => ∃ (k : Nat) (T : List J) (last : Int) (lv mv : Value), k ≤ 20 ∧ v15 = .int .i64 last ∧ v16 = .int .i64 (k : Int) ∧ SymT B wr B lv mv T ∧ Dbl T last (min k 16) ∧ Below w.heap.size w wr) (fun _ i _ => 20 - (intOf i).toNat)
  case atStart => exact ⟨0, [], 97, _, _, by omega, rfl, rfl, h4, hd0, b4⟩
  case round =>
    obtain ⟨k, T, last, lv, mv, hk, rfl, rfl, hT, hD, hW⟩ := hrel
    have hin : In64 last := by
      have := there_iff.1 hD.th
      have h2 := hD.len
      unfold In64
      omega
    have hlen : T.length < 1000000 := by have := hD.len; omega
    have hF := fun k hk => (hT.foot_lt k hk).1
    have hB2 : B ≤ wr.heap.size := Nat.le_of_lt (block_lt hT.blk)
    by_cases hlt : k < 20
    · by_cases h16 : k < 16
      · rw [show min k 16 = k by omega] at hD
        obtain ⟨hE, hD2⟩ := dbl_go hD h16
        have HE := Lib.hid hE
        clear hE
        go_wp2_with fail
        refine (join_any hT last last hin hin hlen).mono ?_
        rintro e w5 ⟨rfl, lv5, mv5, h5, u5⟩
        rw [HE.out]
        go_wp2_with fail
        go_roundw
        case rel => exact ⟨k + 1, _, _, _, _, by omega, rfl, by go_num, h5, by rw [show min (k + 1) 16 = k + 1 by omega]; exact hD2, hW.trans (u5.below (Nat.le_trans hB hB2) (fun k hk => Nat.le_trans hB (hF k hk)))⟩
        case measure => simp [intOf]; omega
      · rw [show min k 16 = 16 by omega] at hD
        have HE := Lib.hid (dbl_stop hD)
        have HT := Lib.hid (dbl_stopT hD)
        go_wp2_with fail
        refine (join_any hT last last hin hin hlen).mono ?_
        rintro e w5 ⟨rfl, lv5, mv5, h5, u5⟩
        rw [HE.out]
        rw [HT.out] at h5
        go_wp2_with fail
        go_roundw
        case rel => exact ⟨k + 1, _, _, _, _, by omega, rfl, by go_num, h5, by rw [show min (k + 1) 16 = 16 by omega]; exact hD, hW.trans (u5.below (Nat.le_trans hB hB2) (fun k hk => Nat.le_trans hB (hF k hk)))⟩
        case measure => simp [intOf]; omega
    · have h6 := hD.len
      rw [show min k 16 = 16 by omega] at h6
      have H6 := Lib.hid h6
      clear h6
      go_wp2_with fail
      refine (len_any hT).mono ?_
      rintro e w5 ⟨rfl, rfl⟩
      rw [H6.out]
      go_wp2_with fail
      go_ret
      exact ⟨rfl, hW⟩
theorem walk (W : World) (id : Int) (hid : (Lit.int .i64 id).wf = true) (times : Int) (ht : (Lit.int .u8 times).wf = true) :
    Calls Try.prog 5 #[.int .i64 id, .int .u8 times] W fun e w' => e = .returned (.bool true) ∧ Below W.heap.size W w' := by
  have h : 0 ≤ times ∧ times ≤ 255 := by simpa [Lit.wf, IntKind.min, IntKind.max, IntKind.signed, IntKind.bits] using ht
  obtain ⟨n, rfl⟩ := Int.eq_ofNat_of_zero_le h.1
  exact law_any id n W (by simpa [In64, Lit.wf, IntKind.min, IntKind.max, IntKind.signed, IntKind.bits] using hid) (by omega)
end Go.Proofs.Ytbldnjpdeldabaa.SymNone
