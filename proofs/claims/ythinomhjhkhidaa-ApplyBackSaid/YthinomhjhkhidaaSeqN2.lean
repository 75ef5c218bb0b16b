/- Layer 11: a word's chain is made, walked. -/
import Derived.Test.YthinomhjhkhidaaSeqN
namespace Go.Proofs.Ythinomhjhkhidaa.SeqM
open Go.RowKit Go.Maps Go.Proofs.YthinomhjhkhidaaW.PrintWords Go.Proofs.YthinomhjhkhidaaW.PrintLast Go.Proofs.YthinomhjhkhidaaW.PrintMore Base Foot ExtTail PMap SeqPure
set_option linter.unusedVariables false
set_option linter.unusedSimpArgs false
attribute [local go_sem ↓] Go.wp_at_zero Go.wp_at_succ

def initX (o : Nat) : List UInt8 → List Knot
  | [] => []
  | c :: l => (o, (c.toNat : Int)) :: initX (o + 1) l
def rawC (o : Nat) : List UInt8 → List Cel
  | [] => []
  | c :: l => ((c.toNat : Int), (o : Int) - 1, (o : Int) + 1) :: rawC (o + 1) l
theorem rawC_len : ∀ (l : List UInt8) (o : Nat), (rawC o l).length = l.length
  | [], _ => rfl
  | c :: l, o => by simp [rawC, rawC_len l]
theorem rawC_snoc : ∀ (l : List UInt8) (o : Nat) (c : UInt8), rawC o (l ++ [c]) = rawC o l ++ [((c.toNat : Int), (o : Int) + l.length - 1, (o : Int) + l.length + 1)]
  | [], o, c => by simp [rawC]
  | d :: l, o, c => by
    simp only [List.cons_append, rawC, rawC_snoc l (o + 1) c, List.length_cons]
    have e : ((o + 1 : Nat) : Int) + (l.length : Int) = (o : Int) + ((l.length + 1 : Nat) : Int) := by omega
    rw [e]
theorem rawC_get : ∀ (l : List UInt8) (o i : Nat) (c : UInt8), l[i]? = some c → (rawC o l)[i]? = some ((c.toNat : Int), ((o + i : Nat) : Int) - 1, ((o + i : Nat) : Int) + 1)
  | [], _, _, _, h => by simp at h
  | d :: l, o, 0, c, h => by
    have e : d = c := by simpa using h
    subst e
    simp [rawC]
  | d :: l, o, i + 1, c, h => by
    have := rawC_get l (o + 1) i c (by simpa using h)
    rw [show o + 1 + i = o + (i + 1) by omega] at this
    simpa [rawC] using this
theorem initX_len : ∀ (l : List UInt8) (o : Nat), (initX o l).length = l.length
  | [], _ => rfl
  | c :: l, o => by simp [initX, initX_len l]
theorem syms_initX : ∀ (l : List UInt8) (o : Nat), syms (initX o l) = l.map fun c => (c.toNat : Int)
  | [], _ => rfl
  | c :: l, o => by simp [initX, syms_cons, syms_initX l]
theorem initX_ge : ∀ (l : List UInt8) (o : Nat), ∀ x ∈ initX o l, o ≤ x.1
  | [], _, x, h => by cases h
  | c :: l, o, x, h => by
    rcases List.mem_cons.1 h with rfl | h
    · exact Nat.le_refl _
    · have := initX_ge l (o + 1) x h; omega
theorem initX_idx : ∀ (l : List UInt8) (o : Nat), Idx (initX o l)
  | [], _ => List.Pairwise.nil
  | c :: l, o => List.pairwise_cons.2 ⟨fun x hx => by have := initX_ge l (o + 1) x hx; show o < x.1; omega, initX_idx l (o + 1)⟩
theorem seg_init : ∀ (l : List UInt8) (o : Nat) (C : List Cel), (∀ i c, l[i]? = some c → C[o + i]? = some ((c.toNat : Int), ((o + i : Nat) : Int) - 1, if i + 1 = l.length then -1 else ((o + i : Nat) : Int) + 1)) → Seg C ((o : Int) - 1) (initX o l) (-1)
  | [], _, _, _ => trivial
  | c :: l, o, C, h => by
    refine ⟨?_, ?_⟩
    · have := h 0 c rfl
      rw [Nat.add_zero] at this
      rw [this]
      cases l with
      | nil => rfl
      | cons d l =>
        have e : ¬ (0 + 1 = (c :: d :: l).length) := by simp
        rw [if_neg e]
        simp [initX, nxe]
    · have := seg_init l (o + 1) C fun i d hd => by
        have := h (i + 1) d (by simpa using hd)
        rw [show o + (i + 1) = o + 1 + i by omega] at this
        rw [this]
        simp
      simpa using this
theorem init_sym (l : List UInt8) (o : Nat) : ∀ x ∈ initX o l, In64 x.2 := fun x hx => by
  have h : x.2 ∈ syms (initX o l) := List.mem_map_of_mem hx
  rw [syms_initX] at h
  obtain ⟨c, _, e⟩ := List.mem_map.1 h
  have := UInt8.toNat_lt c
  rw [← e]
  unfold In64
  omega
theorem init_done {B : Nat} {w : World} {b g cap n : Nat} {l : List UInt8} {c : UInt8} (hn : l.length = n + 1) (hc : l[n]? = some c) (hblk : w.heap[b]? = some (.cells #[.slice (some ⟨g, 0, none⟩) l.length cap, .int .i64 (-1), .int .i64 (l.length : Int)] tS (0, 0)))
    (hrow : w.ownsRow B tC 3 (.slice (some ⟨g, 0, none⟩) l.length cap) l.length ((rawC 0 l).flatMap encC)) (hs : l.length ≤ 100000) :
    SeqT B ((w.setCell ⟨b, 1, none⟩ (.int .i64 0)).setCell ⟨g, n * 3 + 2, none⟩ (.int .i64 (-1))) b (.slice (some ⟨g, 0, none⟩) l.length cap) ((rawC 0 l).set n ((c.toNat : Int), (n : Int) - 1, -1)) (initX 0 l) := by
  have hgb : g ≠ b := fun e => row_not_cells hrow hblk (by decide) (by rw [e]; rfl)
  have hr := rawC_get l 0 n c hc
  rw [Nat.zero_add] at hr
  have hlen : ((rawC 0 l).set n ((c.toNat : Int), (n : Int) - 1, -1)).length = l.length := by rw [List.length_set, rawC_len]
  have r1 := (own_keep (w1 := w.setCell ⟨b, 1, none⟩ (.int .i64 0)) hrow (fun k hk => set_blk_eq (by cases hk; exact hgb))).stored (n * 3 + 2) (.int .i64 (-1))
  rw [(fset _ n _ hr).2.2 (-1)] at r1
  refine ⟨?_, by rw [hlen]; exact r1.1, ?_, initX_idx l 0, by rw [hlen]; exact hs, init_sym l 0⟩
  · rw [set_blk_eq (p := ⟨g, n * 3 + 2, none⟩) (Ne.symm hgb), set_at hblk, initX_len]
    cases l with
    | nil => simp at hn
    | cons d l => rfl
  · have := seg_init l 0 ((rawC 0 l).set n ((c.toNat : Int), (n : Int) - 1, -1)) fun i d hd => by
      have hil := (List.getElem?_eq_some_iff.1 hd).1
      rw [Nat.zero_add]
      by_cases e : i = n
      · subst e
        rw [hd] at hc
        cases hc
        rw [List.getElem?_set_self (by rw [rawC_len]; omega), if_pos hn.symm]
      · rw [List.getElem?_set_ne (Ne.symm e), rawC_get l 0 i d hd, Nat.zero_add, if_neg (by omega)]
    simpa using this
theorem buildS (n : Int) (w : World) : (Instr.build tS #[(1, .int .i64 (-1)), (2, .int .i64 n)]).run Try.prog w = .ok (.agg #[.slice none 0 0, .int .i64 (-1), .int .i64 n]) w := run_build w _ _ _ (by kernel_rfl)
theorem buildC (a b c : Int) (w : World) : (Instr.build tC #[(0, .int .i64 a), (1, .int .i64 b), (2, .int .i64 c)]).run Try.prog w = .ok (.agg #[.int .i64 a, .int .i64 b, .int .i64 c]) w := run_build w _ _ _ (by kernel_rfl)
attribute [-go_sem] Instr.build
attribute [local go_sem high] buildS buildC
set_option maxHeartbeats 1600000 in
set_option maxRecDepth 100000 in
theorem new_any (s : ByteArray) (w : World) (hs : s.size ≤ 100000) :
    Calls Try.prog 60 #[.string s] w fun e w' => e = .returned (.pointer (some ⟨w.heap.size, 0, none⟩)) ∧ (∃ sv C, SeqT w.heap.size w' w.heap.size sv C (initX 0 s.data.toList)) ∧ Below w.heap.size w w' := by
  obtain ⟨iC, hiC, zC0, zC1, zC2⟩ := info_parts infoC
  obtain ⟨l, hl⟩ : ∃ l, s.data.toList = l := ⟨_, rfl⟩
  have hll : s.size = l.length := by rw [← hl, Array.length_toList]; rfl
  have hcv := Lib.run_convert_string_bytes (P := Try.prog) (w.alloc (.cells #[.slice none 0 0, .int .i64 (-1), .int .i64 (s.size : Int)] 126)) 9 76 5 s Try.underlying9 Try.underlying76 Try.underlying5
  have hlen64 : (s.size : Int) ≤ 100000 := by omega
  have HL := Lib.hid hl
  have HLL := Lib.hid hll
  clear hl hll
  go_enter Try.func60, Try.ntmps60
  go_wp2_with fail
  have k0 := heap_alloc_new w (.cells #[.slice none 0 0, .int .i64 (-1), .int .i64 (s.size : Int)] 126)
  have hb0 : Below w.heap.size w (Lib.bytesWorld (w.alloc (.cells #[.slice none 0 0, .int .i64 (-1), .int .i64 (s.size : Int)] 126)) 5 s) :=
    Lib.below_freeze ((((Below.refl w.heap.size w).alloc (Nat.le_refl _) _).drew).alloc (by simp) _) (by simp) _
  have hB0 := (Lib.bytesWorld_at_old (w.alloc (.cells #[.slice none 0 0, .int .i64 (-1), .int .i64 (s.size : Int)] 126)) 5 s w.heap.size (by simp)).trans k0
  have hR0 := Lib.bytesWorld_at_new (w.alloc (.cells #[.slice none 0 0, .int .i64 (-1), .int .i64 (s.size : Int)] 126)) 5 s
  have hcs : ∀ (k : Nat) (c : UInt8), s.data.toList[k]? = some c → (Lib.bytesCells (w.alloc (.cells #[.slice none 0 0, .int .i64 (-1), .int .i64 (s.size : Int)] 126)) 5 s)[k]? = some (.int .u8 (c.toNat : Int)) := fun k c hc => by
    have hk := (List.getElem?_eq_some_iff.1 hc).1
    have hk2 : k < s.data.size := by simpa using hk
    unfold Lib.bytesCells
    rw [Array.getElem?_append_left (by simpa using hk2), Array.getElem?_map]
    rw [Array.getElem?_toList] at hc
    rw [hc]; rfl
  rw [HL.out] at hcs
  have hsz : (w.alloc (.cells #[.slice none 0 0, .int .i64 (-1), .int .i64 (s.size : Int)] 126)).heap.size = w.heap.size + 1 := by simp
  rw [hsz] at hR0
  generalize Lib.bytesCells (w.alloc (.cells #[.slice none 0 0, .int .i64 (-1), .int .i64 (s.size : Int)] 126)) 5 s = cs at *
  generalize Lib.bytesWorld (w.alloc (.cells #[.slice none 0 0, .int .i64 (-1), .int .i64 (s.size : Int)] 126)) 5 s = w0 at *
  generalize grownCap (w.alloc (.cells #[.slice none 0 0, .int .i64 (-1), .int .i64 (s.size : Int)] 126)) s.size 0 5 = cp at *
  clear hcv k0 hsz
  have HCS := Lib.hid hcs
  clear hcs
  go_loopw [14] (fun v14 wr => ∃ (k : Nat) (sv : Value), k ≤ s.size ∧ v14 = .int .i64 (k : Int) ∧ wr.heap[w.heap.size]? = some (.cells #[sv, .int .i64 (-1), .int .i64 (s.size : Int)] 126 (0, 0)) ∧ wr.ownsRow w.heap.size tC 3 sv k ((rawC 0 (l.take k)).flatMap encC) ∧ wr.heap[w.heap.size + 1]? = some (.cells cs 5 (cs.size, cs.size + 1)) ∧ Below w.heap.size w wr) (fun i _ => s.size - (intOf i).toNat)
  case atStart => exact ⟨0, _, by omega, rfl, hB0, World.ownsRow_nil _ _ _ _, hR0, hb0⟩
  case round =>
    clear hB0 hR0 hb0
    obtain ⟨k, sv, hk, rfl, hB, hrow, hR, hW⟩ := hrel
    by_cases hlt : k < s.size
    · have hc := List.getElem?_eq_getElem (l := l) (i := k) (by rw [← HLL.out]; exact hlt)
      have hx := (cell_at hR k).trans (HCS.out k _ hc)
      have htk : l.take (k + 1) = l.take k ++ [l[k]'(by rw [← HLL.out]; exact hlt)] := List.take_succ_eq_append_getElem _
      generalize l[k]'(by rw [← HLL.out]; exact hlt) = c at *
      have hcn := UInt8.toNat_lt c
      have HTK := Lib.hid htk
      have HC := Lib.hid hc
      clear hc htk
      have c0 := cell_at hB 0
      have f0 := frozen_at hB 0
      simp only [List.getElem?_toArray, List.getElem?_cons_zero] at c0
      have hWs := hW.size
      have hlb := block_lt hB
      have hlr := block_lt hR
      have HB := Lib.hid hB
      have HR := Lib.hid hR
      have n1 := fun e => row_not_cells hrow hB (by decide) e
      have n2 := fun e => row_not_cells hrow hR (by decide) e
      clear hB hR
      go_wp2_with (at_builtin; refine wpList_append_own_at _ rfl _ _ 124 rfl w.heap.size tC iC _ 3 24 Try.underlying124 hiC zC0 zC1 zC2 rfl (by decide) _ _ _ rfl (hrow.alloc _) ⟨wr.heap.size, 0, none⟩ 1 1 [.int .i64 (c.toNat : Int), .int .i64 ((k : Int) - 1), .int .i64 ((k : Int) + 1)] rfl rfl (news_alloc rfl) (by simp [Value.oneCell']) (by unfold maxLen; omega) (by omega) (by simp; omega) ?_; intro v' w2 hown2 hgrow2 _ hat2; obtain ⟨A2, p2, rfl⟩ := own_slc hown2; have x2 := (hgrow2.block w.heap.size (by simp; omega) (fun e => n1 e.symm)).trans ((Below.heap_alloc _ _ _ hlb).trans HB.out); have d0 := cell_at x2 0; have e0 := frozen_at x2 0; simp only [List.getElem?_toArray, List.getElem?_cons_zero] at d0; have X2 := Lib.hid x2; clear x2)
      have hne : ∀ q, (Value.slice A2 (k + 1) p2).ownBlock = some q → q ≠ w.heap.size := fun q hq e => row_not_cells hown2 X2.out (by decide) (by rw [hq, e])
      have hb2 : Below w.heap.size w w2 := (hW.alloc hWs _).grown hgrow2 (by simp; omega) (fun k hk => (hrow.lt k hk).1)
      have x3 := (hgrow2.block (w.heap.size + 1) (by simp; omega) (fun e => n2 e.symm)).trans ((Below.heap_alloc _ _ _ hlr).trans HR.out)
      have hr2 : w2.ownsRow w.heap.size tC 3 (.slice A2 (k + 1) p2) (k + 1) ((rawC 0 (l.take (k + 1))).flatMap encC) := by
        rw [HTK.out, rawC_snoc, List.flatMap_append, List.length_take, Nat.min_eq_left (by rw [← HLL.out]; omega)]
        simpa [encC] using hown2
      have hr3 := own_keep (w1 := w2.setCell ⟨w.heap.size, 0, none⟩ (.slice A2 (k + 1) p2)) hr2 fun q hq => set_blk_eq (hne q hq)
      have x4 := set_at X2.out 0 (.slice A2 (k + 1) p2)
      have x5 := (set_blk_eq (w := w2) (p := ⟨w.heap.size, 0, none⟩) (v := .slice A2 (k + 1) p2) (b := w.heap.size + 1) (by simp)).trans x3
      have hb3 := hb2.setCell (p := ⟨w.heap.size, 0, none⟩) (Nat.le_refl _) (.slice A2 (k + 1) p2)
      go_roundw
      case rel => exact ⟨k + 1, _, by omega, by go_num, x4, hr3, x5, hb3⟩
      case measure => simp [intOf]; omega
    · obtain rfl : k = s.size := by omega
      have htk : l.take s.size = l := by rw [HLL.out]; exact List.take_length
      rw [htk] at hrow
      obtain ⟨A, cp', rfl⟩ := own_slc hrow
      have c0 := cell_at hB 0
      have c1 := cell_at hB 1
      have f1 := frozen_at hB 1
      simp only [List.getElem?_toArray, List.getElem?_cons_zero, List.getElem?_cons_succ] at c0 c1
      have HB := Lib.hid hB
      by_cases hz : s.size = 0
      · have hl0 : l = [] := List.eq_nil_of_length_eq_zero (by rw [← HLL.out]; exact hz)
        have hz2 : ¬ (0 : Int) < (s.size : Int) := by omega
        have HROW := Lib.hid hrow
        have HZ := Lib.hid hz
        have HL0 := Lib.hid hl0
        clear hB hrow hz htk hl0
        go_wp2_with fail
        go_ret
        have e0 := HL0.out
        have ez := HZ.out
        have h2 := HB.out
        have h3 := HROW.out
        subst e0
        rw [ez] at h2 h3
        exact ⟨rfl, ⟨_, [], ⟨by rw [HL.out]; exact h2, by simpa [rawC] using h3, by rw [HL.out]; trivial, by rw [HL.out]; exact List.Pairwise.nil, by simp, by rw [HL.out]; exact (fun x h => nomatch h)⟩⟩, hW⟩
      · obtain ⟨n, hn⟩ : ∃ n, l.length = n + 1 := ⟨l.length - 1, by rw [← HLL.out]; omega⟩
        have hc := List.getElem?_eq_getElem (l := l) (i := n) (by omega)
        generalize l[n]'(by omega) = c at hc
        obtain ⟨g, cap2, e, hcap, hj⟩ := own_get encC_len (l := rawC 0 l) hrow (by omega) (rawC_get l 0 n c hc)
        cases e
        have y2 := hj 2 _ rfl
        have fr := hrow.frozenAt (n * 3 + 2)
        have hz2 : (0 : Int) < (s.size : Int) := by omega
        have hsn : (s.size : Int) - 1 = (n : Int) := by have := HLL.out; omega
        have hn0 : (0 : Int) ≤ (n : Int) := by omega
        have hn1 : (n : Int) < (s.size : Int) := by omega
        have hgb : ¬ g = w.heap.size := fun e => row_not_cells hrow hB (by decide) (by rw [e]; rfl)
        have hbg : ¬ w.heap.size = g := fun e => hgb e.symm
        have HROW := Lib.hid hrow
        have HN := Lib.hid hn
        have HC := Lib.hid hc
        clear hB hrow hz htk hn hc hj
        go_wp2_with fail
        go_ret
        have h2 := HB.out
        have h3 := HROW.out
        rw [HLL.out] at h2 h3
        have hd := init_done HN.out HC.out h2 h3 (by have := HLL.out; omega)
        rw [HLL.out, HL.out]
        exact ⟨rfl, ⟨_, _, hd⟩, (hW.setCell (Nat.le_refl _) _).setCell (by have := (HROW.out.lt g rfl).1; exact this) _⟩
end Go.Proofs.Ythinomhjhkhidaa.SeqM
