/- Layer 7: New, Add, AddAll, Count, Len, walked. -/
import Derived.Test.YthpdamkpefgmaaaFreq
namespace Go.Proofs.Ythpdamkpefgmaaa.Freq
open Go.RowKit Go.Maps Go.Proofs.YthpdamkpefgmaaaW.PrintWords Go.Proofs.YthpdamkpefgmaaaW.PrintLast Go.Proofs.YthpdamkpefgmaaaW.PrintMore Base Foot ExtTail SMap FreqPure CAdd
set_option linter.unusedVariables false
set_option linter.unusedSimpArgs false
attribute [local go_sem ↓] Go.wp_at_zero Go.wp_at_succ

theorem empty_iff (p : ByteArray) : p.toList.isEmpty = true ↔ p.size = 0 := by
  rw [List.isEmpty_iff_length_eq_zero, toList_len]
set_option maxHeartbeats 800000 in
theorem new_any (w : World) : Calls Try.prog 47 #[] w fun e w' => e = .returned (.pointer (some ⟨w.heap.size, 0, none⟩)) ∧ FT w' w.heap.size (.map none) [] ∧ Below w.heap.size w w' := by
  go_enter Try.func47, Try.ntmps47
  go_wp2_with fail
  go_ret
  exact ⟨rfl, ⟨heap_alloc_new _ _, .inl ⟨rfl, rfl⟩, fun _ hx => by cases hx⟩, (Below.refl _ _).alloc (Nat.le_refl _) _⟩
set_option maxHeartbeats 800000 in
theorem count_nil (w : World) (p : ByteArray) : Calls Try.prog 39 #[.pointer none, .string p] w fun e w' => e = .returned (.int .i64 0) ∧ w' = w := by
  go_enter Try.func39, Try.ntmps39
  go_wp2_with fail
  go_ret
  exact ⟨rfl, rfl⟩
set_option maxHeartbeats 800000 in
theorem len_nil (w : World) : Calls Try.prog 40 #[.pointer none] w fun e w' => e = .returned (.int .i64 0) ∧ w' = w := by
  go_enter Try.func40, Try.ntmps40
  go_wp2_with fail
  go_ret
  exact ⟨rfl, rfl⟩
set_option maxHeartbeats 800000 in
theorem add_nil (w : World) (p : ByteArray) (n : Int) : Calls Try.prog 38 #[.pointer none, .string p, .int .i64 n] w fun e w' => e = .returned (.int .i64 1) ∧ w' = w := by
  go_enter Try.func38, Try.ntmps38
  go_wp2_with fail
  go_ret
  exact ⟨rfl, rfl⟩
set_option maxHeartbeats 800000 in
theorem freeze_nil (w : World) : Calls Try.prog 41 #[.pointer none] w fun e w' => e = .returned (.slice none 0 0) ∧ w' = w := by
  go_enter Try.func41, Try.ntmps41
  go_wp2_with fail
  go_ret
  exact ⟨rfl, rfl⟩
set_option maxHeartbeats 800000 in
set_option maxRecDepth 100000 in
theorem count_any {w : World} {b : Nat} {mv : Value} {m : List Wd} (h : FT w b mv m) (p : ByteArray) (hp : SS p) :
    Calls Try.prog 39 #[.pointer (some ⟨b, 0, none⟩), .string p] w fun e w' => e = .returned (.int .i64 (res m p)) ∧ w' = w := by
  have c0 := cell_at h.blk 0
  simp only [List.getElem?_toArray, List.getElem?_cons_zero] at c0
  have lk := h.look hp
  clear h
  go_enter Try.func39, Try.ntmps39
  go_wp2_with fail
  go_ret
  exact ⟨rfl, rfl⟩
set_option maxHeartbeats 800000 in
theorem len_any {w : World} {b : Nat} {mv : Value} {m : List Wd} (h : FT w b mv m) :
    Calls Try.prog 40 #[.pointer (some ⟨b, 0, none⟩)] w fun e w' => e = .returned (.int .i64 (m.length : Int)) ∧ w' = w := by
  have c0 := cell_at h.blk 0
  simp only [List.getElem?_toArray, List.getElem?_cons_zero] at c0
  have hl := fun ty => h.len_run ty
  clear h
  go_enter Try.func40, Try.ntmps40
  go_wp2_with fail
  go_ret
  exact ⟨rfl, rfl⟩
set_option maxHeartbeats 800000 in
theorem add_bad (w : World) (b : Nat) (p : ByteArray) (n : Int) (hb : p.size = 0 ∨ n < 1) : Calls Try.prog 38 #[.pointer (some ⟨b, 0, none⟩), .string p, .int .i64 n] w fun e w' => e = .returned (.int .i64 1) ∧ w' = w := by
  cases h1 : p.toList.isEmpty
  · have h2 : n < 1 := by
      rcases hb with h0 | h0
      · rw [(empty_iff p).2 h0] at h1; cases h1
      · exact h0
    clear hb
    go_enter Try.func38, Try.ntmps38
    go_wp2_with fail
    go_ret
    exact ⟨rfl, rfl⟩
  · clear hb
    go_enter Try.func38, Try.ntmps38
    go_wp2_with fail
    go_ret
    exact ⟨rfl, rfl⟩
set_option maxHeartbeats 1600000 in
set_option maxRecDepth 100000 in
theorem add_over {w : World} {b : Nat} {mv : Value} {m : List Wd} (h : FT w b mv m) (p : ByteArray) (hp : SS p) (n : Int) (hn : 1 ≤ n ∧ n ≤ 9223372036854775807) (hz : p.size ≠ 0) (ho : 9223372036854775807 < res m p + n) :
    Calls Try.prog 38 #[.pointer (some ⟨b, 0, none⟩), .string p, .int .i64 n] w fun e w' => e = .returned (.int .i64 5) ∧ w' = w := by
  have hr := h.res64 p
  have c0 := cell_at h.blk 0
  simp only [List.getElem?_toArray, List.getElem?_cons_zero] at c0
  have lk := h.look hp
  have ha := fun V => add_any (res m p) n V (by unfold In64; omega) (by unfold In64; omega)
  rw [addS_no (by omega)] at ha
  have h1 : p.toList.isEmpty = false := by
    cases h1 : p.toList.isEmpty
    · rfl
    · exact absurd ((empty_iff p).1 h1) hz
  have h2 : ¬ n < 1 := by omega
  obtain ⟨r, hr2⟩ : ∃ r, res m p = r := ⟨_, rfl⟩
  rw [hr2] at lk ha
  simp only at ha
  clear h hr hr2 ho hz hn
  go_enter Try.func38, Try.ntmps38
  go_wp2_with fail
  refine (ha _).mono ?_
  rintro e w1 ⟨rfl, rfl⟩
  go_wp2_with fail
  go_ret
  exact ⟨rfl, rfl⟩
set_option maxHeartbeats 1600000 in
set_option maxRecDepth 100000 in
theorem add_ok {w : World} {b : Nat} {mv : Value} {m : List Wd} (h : FT w b mv m) (hl : m.length < 1000000) (p : ByteArray) (hp : SS p) (n : Int) (hn : 1 ≤ n ∧ n ≤ 9223372036854775807) (hz : p.size ≠ 0) (ho : res m p + n ≤ 9223372036854775807) :
    Calls Try.prog 38 #[.pointer (some ⟨b, 0, none⟩), .string p, .int .i64 n] w fun e w' => e = .returned (.int .i64 0) ∧ ∃ mv', FT w' b mv' (putL m p (res m p + n)) ∧ Upd (QFoot b mv) (QFoot b mv') w w' := by
  have hr := h.res64 p
  have c0 := cell_at h.blk 0
  simp only [List.getElem?_toArray, List.getElem?_cons_zero] at c0
  have lk := h.look hp
  have ha := fun V => add_any (res m p) n V (by unfold In64; omega) (by unfold In64; omega)
  rw [addS_yes ⟨hr.1, by omega, ho⟩] at ha
  have h1 : p.toList.isEmpty = false := by
    cases h1 : p.toList.isEmpty
    · rfl
    · exact absurd ((empty_iff p).1 h1) hz
  have h2 : ¬ n < 1 := by omega
  have hpos := put_pos h.pos p (s := res m p + n) ⟨by omega, ho⟩
  obtain ⟨r, hr2⟩ : ∃ r, res m p = r := ⟨_, rfl⟩
  rw [hr2] at lk ha hpos ho hr ⊢
  obtain ⟨s, hs⟩ : ∃ s, r + n = s := ⟨_, rfl⟩
  rw [hs] at ha hpos ho ⊢
  have hs64 : In64 s := by unfold In64; omega
  simp only at ha
  have HP := Lib.hid hpos
  have HH := Lib.hid h
  have HL := Lib.hid hl
  have hmap := h.map
  clear h hr hr2 ho hz hn hpos hs hl
  have hmm := @run_makeMap Try.prog
  rcases hmap with ⟨rfl, rfl⟩ | ⟨mb, rfl, hm⟩
  · have heq := fun W => run_eql_map_nil (P := Try.prog) W 71 _ _ none Try.underlying71
    have k1 := set_at HH.out.blk 0 (.map (some w.heap.size))
    have ek : (#[Value.map none].setIfInBounds 0 (.map (some w.heap.size))) = #[.map (some w.heap.size)] := rfl
    rw [ek] at k1
    have k2 := alloc_blk (x := .map #[] 0) k1
    have f1 := frozen_at HH.out.blk 0
    have hsz : (w.setCell ⟨b, 0, none⟩ (.map (some w.heap.size))).heap.size = w.heap.size := by simp [World.setCell]
    have hm4 := PM.made (w.setCell ⟨b, 0, none⟩ (.map (some w.heap.size)))
    rw [hsz] at hm4
    have U4 := Lib.hid ((Upd.set (w := w) (p := ⟨b, 0, none⟩) (u := .map (some w.heap.size)) (F := QFoot b (.map none)) (.inl rfl)).trans (Upd.alloc (F := QFoot b (.map none)) (o := .map #[] 0)))
    have e4 := cell_at k2 0
    simp only [List.getElem?_toArray, List.getElem?_cons_zero] at e4
    have hbl := block_lt HH.out.blk
    have K2 := Lib.hid k2
    have HM4 := Lib.hid hm4
    clear k1 k2 ek hm4 HH hsz
    go_enter Try.func38, Try.ntmps38
    go_wp2_with fail
    refine (ha _).mono ?_
    rintro e w1 ⟨rfl, rfl⟩
    clear ha lk
    go_wp2_with (at_mapUpdate; refine wp_put rfl _ _ _ rfl rfl HM4.out (by simp) (p := p) (n := s) rfl rfl hp hs64 ?_; intro w6 hm6 hg6)
    go_ret
    refine ⟨rfl, .map (some w.heap.size), ⟨grown_blk hg6 K2.out (by simp; omega), .inr ⟨_, rfl, hm6⟩, HP.out⟩, ?_⟩
    have u6 : Upd (QFoot b (.map none)) (QFoot b (.map none)) w w6 := by
      refine ⟨hg6.os.trans U4.out.os, hg6.tape.trans U4.out.tape, hg6.output.trans U4.out.output, Nat.le_trans U4.out.size hg6.size, fun k hk hf => ?_, fun _ hk => .inl hk⟩
      exact (hg6.block k (Nat.lt_of_lt_of_le hk U4.out.size) (by simp; omega)).trans (U4.out.block k hk hf)
    refine u6.foot ?_
    rintro k (rfl | e)
    · exact .inl (.inl rfl)
    · cases e; exact .inr (Nat.le_refl _)
  · have hne : b ≠ mb := by
      rintro rfl
      obtain ⟨es, cl, h2⟩ := hm.map
      rw [HH.out.blk] at h2
      cases h2
    have heq := fun W => run_eql_map_nil (P := Try.prog) W 71 _ _ (some mb) Try.underlying71
    have HM := Lib.hid hm
    clear hm
    go_enter Try.func38, Try.ntmps38
    go_wp2_with fail
    refine (ha _).mono ?_
    rintro e w1 ⟨rfl, rfl⟩
    clear ha lk
    go_wp2_with (at_mapUpdate; refine wp_put rfl _ _ _ rfl rfl HM.out (Nat.le_of_lt HL.out) (p := p) (n := s) rfl rfl hp hs64 ?_; intro w6 hm6 hg6)
    go_ret
    exact ⟨rfl, .map (some mb), ⟨grown_blk hg6 HH.out.blk (by simpa using hne), .inr ⟨_, rfl, hm6⟩, HP.out⟩, Upd.grown hg6 (fun k e => by cases e; exact .inr rfl)⟩
theorem add_any' {w : World} {b : Nat} {mv : Value} {m : List Wd} (h : FT w b mv m) (hl : m.length < 1000000) (p : ByteArray) (hp : SS p) (n : Int) (hn : In64 n) :
    Calls Try.prog 38 #[.pointer (some ⟨b, 0, none⟩), .string p, .int .i64 n] w fun e w' => e = .returned (.int .i64 (addW m p n).1) ∧ ∃ mv', FT w' b mv' (addW m p n).2 ∧ Upd (QFoot b mv) (QFoot b mv') w w' := by
  by_cases h1 : p.size = 0 ∨ n < 1
  · have e : addW m p n = (1, m) := by unfold addW; rw [if_pos h1]
    rw [e]
    exact (add_bad w b p n h1).mono fun e w' ⟨he, hb⟩ => ⟨he, mv, by rw [hb]; exact h, by rw [hb]; exact Upd.refl⟩
  · by_cases h2 : res m p + n ≤ 9223372036854775807
    · have e : addW m p n = (0, putL m p (res m p + n)) := by unfold addW; rw [if_neg h1, if_pos h2]
      rw [e]
      exact add_ok h hl p hp n (by unfold In64 at hn; omega) (by omega) h2
    · have e : addW m p n = (5, m) := by unfold addW; rw [if_neg h1, if_neg h2]
      rw [e]
      exact (add_over h p hp n (by unfold In64 at hn; omega) (by omega) (by omega)).mono fun e w' ⟨he, hb⟩ => ⟨he, mv, by rw [hb]; exact h, by rw [hb]; exact Upd.refl⟩
end Go.Proofs.Ythpdamkpefgmaaa.Freq
