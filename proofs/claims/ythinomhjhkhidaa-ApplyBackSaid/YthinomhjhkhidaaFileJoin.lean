/- Layer 18: a merge joined, merges looked at. -/
import Derived.Test.YthinomhjhkhidaaFilePure
import Derived.Test.YthinomhjhkhidaaSym4
import Derived.Test.YthinomhjhkhidaaKinds
import Derived.Deep.RegionHeld3
import Derived.Deep.DrawnRows
namespace Go.Proofs.Ythinomhjhkhidaa.FileJoin
open Go.RowKit Go.ChangeShapes Go.WideShapes Go.Deep Go.Proofs.YthinomhjhkhidaaW.PrintWords Go.Proofs.YthinomhjhkhidaaW.PrintLast Go.Proofs.YthinomhjhkhidaaW.PrintMore Base Foot SymPure Sym Kinds FilePure
set_option linter.unusedVariables false
set_option linter.unusedSimpArgs false
attribute [local go_sem ↓] Go.wp_at_zero Go.wp_at_succ

theorem findS_in {T : List J} (hn : T.length < 1000000) (t : ByteArray) : In64 (findS T t).1 := by
  unfold findS
  split
  · have := UInt8.toNat_lt (t.toList.headD 0)
    unfold In64
    constructor
    · show -9223372036854775808 ≤ ((t.toList.headD 0).toNat : Int); omega
    · show ((t.toList.headD 0).toNat : Int) ≤ 9223372036854775807; omega
  · cases hi : idx T t with
    | none => unfold In64; simp
    | some i =>
      unfold idx at hi
      rw [List.findIdx?_eq_some_iff_getElem] at hi
      obtain ⟨hl, _⟩ := hi
      unfold In64
      constructor
      · show -9223372036854775808 ≤ 256 + (i : Int); omega
      · show 256 + (i : Int) ≤ 9223372036854775807; omega

set_option maxHeartbeats 1600000 in
set_option maxRecDepth 100000 in
theorem fjoin_any {B : Nat} {w : World} {b : Nat} {lv mv : Value} {T : List J} {pre : List Mg} (h : SymT B w b lv mv T) (hR : Rel T pre) (m : Mg) (h1 : m.1.size ≤ maxLen) (h2 : m.2.size ≤ maxLen) (hn : T.length < 1000000) :
    Calls Try.prog 66 #[.pointer (some ⟨b, 0, none⟩), .agg #[.string m.1, .string m.2]] w fun e w' => e = .returned (.int .i64 (errM pre m)) ∧
      ∃ lv' mv' T', SymT B w' b lv' mv' T' ∧ (errM pre m = 0 → Rel T' (pre ++ [m])) ∧ Upd (Foot b lv mv) (Foot b lv' mv') w w' := by
  have hal := (Below.refl w.heap.size w).alloc (Nat.le_refl _) (.cells #[.string m.1, .string m.2] 70)
  have hf1 := hR.find m.1
  have hf2 := hR.find m.2
  have i1 := findS_in hn m.1
  have i2 := findS_in hn m.2
  have hT := h.below hal
  have hE := fun (ha : sideB m.1 pre = true) (hb : sideB m.2 pre = true) => hR.err ha hb
  have hS := fun (he : errM pre m = 0) => hR.step he
  have HE := Lib.hid hE
  have HS := Lib.hid hS
  have k0 := cell_at (heap_alloc_new w (.cells #[.string m.1, .string m.2] 70)) 0
  have k1 := cell_at (heap_alloc_new w (.cells #[.string m.1, .string m.2] 70)) 1
  simp only [List.getElem?_toArray, List.getElem?_cons_zero, List.getElem?_cons_succ] at k0 k1
  clear hE hS
  go_enter Try.func66, Try.ntmps66
  go_wp2_with fail
  generalize w.alloc (.cells #[.string m.1, .string m.2] 70) = w1 at *
  refine (find_any hT m.1 h1).mono ?_
  rintro e w2 ⟨rfl, rfl⟩
  go_wp2_with fail
  refine (find_any hT m.2 h2).mono ?_
  rintro e w2 ⟨rfl, rfl⟩
  rw [hf2]
  have hu : Upd (Foot b lv mv) (Foot b lv mv) w w1 := Upd.of_below hal
  by_cases ha : sideB m.1 pre = true
  · by_cases hb : sideB m.2 pre = true
    · have hj := HE.out ha hb
      rw [ha, hb]
      generalize (findS T m.1).1 = p at *
      generalize (findS T m.2).1 = q at *
      have HJ := Lib.hid hj
      clear hj
      go_wp2_with fail
      refine (Sym4.join_any hT p q i1 i2 hn).mono ?_
      rintro e w2 ⟨rfl, lv', mv', hT', hU'⟩
      rw [HJ.out]
      go_wp2_with fail
      go_ret
      exact ⟨rfl, lv', mv', _, hT', fun he => HS.out he, hu.trans hU'⟩
    · have hb' : sideB m.2 pre = false := by cases hx : sideB m.2 pre; rfl; exact absurd hx hb
      have he : errM pre m = 7 := by unfold errM; rw [hb']; simp
      rw [ha, hb']
      go_wp2_with fail
      go_ret
      exact ⟨by rw [he]; rfl, lv, mv, T, hT, fun h => by omega, hu⟩
  · have ha' : sideB m.1 pre = false := by cases hx : sideB m.1 pre; rfl; exact absurd hx ha
    have he : errM pre m = 7 := by unfold errM; rw [ha']; simp
    rw [ha']
    go_wp2_with fail
    go_ret
    exact ⟨by rw [he]; rfl, lv, mv, T, hT, fun h => by omega, hu⟩

set_option maxHeartbeats 1600000 in
set_option maxRecDepth 100000 in
theorem check_any (A : Option Addr) (cp : Nat) (l : List Mg) (w : World) (hr : Kd.C kSS w A l.length l) (hg : ∀ m ∈ l, m.1.size ≤ maxLen ∧ m.2.size ≤ maxLen) (hl : l.length < 100000) :
    Calls Try.prog 40 #[.slice A l.length cp] w fun e w' => e = .returned (.tuple #[.int .i64 (chk [] l).1, .int .i64 (chk [] l).2]) ∧ Below w.heap.size w w' := by
  go_enter Try.func40, Try.ntmps40
  go_wp2_with fail
  refine (new_any w).mono ?_
  rintro e w1 ⟨rfl, h1, b1⟩
  have HG := Lib.hid hg
  have hz := block_lt h1.blk
  generalize hB : w.heap.size = B at *
  clear hg
  go_wp2_with fail
  go_loopw [11] (fun v11 wr => ∃ (k : Nat) (T : List J) (lv mv : Value), k ≤ l.length ∧ v11 = .int .i64 (k : Int) ∧ SymT B wr B lv mv T ∧ Hid (Rel T (l.take k)) ∧ Hid (chk [] l = chk (l.take k) (l.drop k)) ∧ Below B w wr) (fun i _ => l.length - (intOf i).toNat)
  case atStart => exact ⟨0, [], _, _, by omega, rfl, h1, Rel.nil, (rfl : chk [] l = chk (l.take 0) (l.drop 0)), b1⟩
  case round =>
    clear h1 b1 hz
    obtain ⟨k, T, lv, mv, hk, rfl, hT, hR, hC, hW⟩ := hrel
    by_cases hlt : k < l.length
    · have hx := List.getElem?_eq_getElem hlt
      obtain ⟨ad, e1, hx0, hx1⟩ := at_SS hr hx
      cases e1
      replace hx0 := (hW.cell (by rw [← hB]; exact World.block_lt_of_cell? w _ hx0)).trans hx0
      replace hx1 := (hW.cell (by rw [← hB]; exact World.block_lt_of_cell? w _ hx1)).trans hx1
      have hgx := HG.out _ (List.getElem_mem hlt)
      have hgo := fun (he : errM (l.take k) (l[k]'hlt) = 0) => chk_go hx he
      have hst := fun (he : errM (l.take k) (l[k]'hlt) ≠ 0) => chk_stop hx he
      have htk : l.take (k + 1) = l.take k ++ [l[k]] := List.take_succ_eq_append_getElem hlt
      have hTl : T.length = k := by rw [hR.out.len, List.length_take]; omega
      generalize l[k] = x at *
      obtain ⟨xa, xb⟩ := x
      simp only at hx0 hx1 hgx
      have HGO := Lib.hid hgo
      have HST := Lib.hid hst
      have HTK := Lib.hid htk
      have HX := Lib.hid hx
      clear hgo hst htk hx
      have hb2 := hT.below ((Below.refl wr.heap.size wr).alloc (Nat.le_refl _) (.cells #[.string xa, .string xb] 70))
      have hW2 := hW.alloc (by have := block_lt hT.blk; omega) (.cells #[.string xa, .string xb] 70)
      have hff := fun q hq => (hb2.foot_lt q hq).1
      go_wp2_with fail
      refine (fjoin_any hb2 hR.out (xa, xb) hgx.1 hgx.2 (by omega)).mono ?_
      rintro e w3 ⟨rfl, lv', mv', T', hT', hR', hU'⟩
      have hW3 := hW2.trans (hU'.below (by rw [← hB]; exact hW2.size) hff)
      by_cases he : errM (l.take k) (xa, xb) = 0
      · have HR' := Lib.hid (show Rel T' (l.take (k + 1)) by rw [HTK.out]; exact hR' he)
        have HC' := Lib.hid (hC.out.trans (HGO.out he))
        rw [he]
        clear hR' hb2 hW2 hff hU' hT
        go_wp2_with fail
        go_roundw
        case rel => exact ⟨k + 1, T', lv', mv', by omega, by go_num, hT', HR', HC', hW3⟩
        case measure => simp [intOf]; omega
      · have HRES := Lib.hid (hC.out.trans (HST.out he))
        clear HGO HST hC
        generalize errM (l.take k) (xa, xb) = er at *
        clear hR' hb2 hW2 hff hU' hT
        go_wp2_with fail
        go_ret2
        rw [hB]
        exact ⟨by rw [HRES.out]; rfl, hW3⟩
    · obtain rfl : k = l.length := by omega
      have HRES := Lib.hid (hC.out.trans (chk_end l))
      go_wp2_with fail
      go_ret2
      rw [hB]
      exact ⟨by rw [HRES.out]; rfl, hW⟩
end Go.Proofs.Ythinomhjhkhidaa.FileJoin
