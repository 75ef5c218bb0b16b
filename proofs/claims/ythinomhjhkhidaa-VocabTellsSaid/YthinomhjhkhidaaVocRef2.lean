/- Layer 21: the reference: Longest, Texts, walked. -/
import Derived.Test.YthinomhjhkhidaaVocOrd
import Derived.Test.YthinomhjhkhidaaRLess
import Derived.Deep.RegionHeld3
import Derived.Deep.RegionLaw
import Derived.Deep.AppendLies
namespace Go.Proofs.Ythinomhjhkhidaa.Voc
open Go.RowKit Go.Maps Go.ChangeShapes Go.WideShapes Go.Deep Go.Proofs.YthinomhjhkhidaaW.PrintWords Go.Proofs.YthinomhjhkhidaaW.PrintLast Go.Proofs.YthinomhjhkhidaaW.PrintMore Base Foot ExtTail SymPure Kinds FilePure FileJoin SMap Src FileLaw RefFile
set_option linter.unusedVariables false
set_option linter.unusedSimpArgs false
attribute [local go_sem ↓] Go.wp_at_zero Go.wp_at_succ
attribute [local go_sem] max2_int min2_int max_two min_two

set_option maxHeartbeats 6400000 in
set_option maxRecDepth 100000 in
theorem rlongest_any (A : Option Addr) (cp : Nat) (m : List Mg) (w : World) (hr : Kd.C kSS w A m.length m) (hg : ∀ x ∈ m, x.1.size ≤ 1000 ∧ x.2.size ≤ 1000) (hl : m.length ≤ 1000000) (word : ByteArray) (hw : word.size ≤ 100000) :
    Calls Try.prog 21 #[.slice A m.length cp, .string word] w fun e w' => ∃ v, e = .returned v ∧
      w'.ownsRow w.heap.size 9 1 v (longL (fun s => sideB s m) word).length ((longL (fun s => sideB s m) word).flatMap encT) ∧ Below w.heap.size w w' := by
  have hone : ∀ s : ByteArray, s.size = 1 → sideB s m = true := fun s hs => by unfold sideB; simp [hs]
  obtain ⟨i0, hi, hz0, hz1, hz2⟩ := info_parts infoT
  obtain ⟨H, hH⟩ : ∃ H : ByteArray → Bool, (fun s => sideB s m) = H := ⟨_, rfl⟩
  have hHs : ∀ s, sideB s m = H s := fun s => congrFun hH s
  have HHS := Lib.hid hHs
  rw [hH]
  simp only [hHs] at hone
  have HONE := Lib.hid hone
  have HR := Lib.hid hr
  have HG := Lib.hid hg
  have HW := Lib.hid hw
  have hnil : w.ownsRow w.heap.size 9 1 (.slice none 0 0) ([] : List ByteArray).length (([] : List ByteArray).flatMap encT) := World.ownsRow_nil _ _ _ _
  have HNIL := Lib.hid hnil
  clear hr hg hw hone hH hHs hnil
  go_enter Try.func21, Try.ntmps21
  go_wp2_with fail
  go_loopw [1, 5] (fun v1 v5 wr => ∃ (rest : ByteArray) (out : List ByteArray) (ov : Value), v1 = .string rest ∧ ov = v5 ∧ Hid (wr.ownsRow w.heap.size 9 1 ov out.length (out.flatMap encT)) ∧ Hid (longL H word = out ++ longL H rest ∧ rest.size + out.length ≤ word.size) ∧ Hid (Below w.heap.size w wr)) (fun v1 _ _ => (sOf v1).size)
  case atStart => exact ⟨word, [], _, rfl, rfl, HNIL, Lib.hid ⟨rfl, by simp⟩, Lib.hid (Below.refl _ _)⟩
  case round =>
    clear HNIL
    obtain ⟨rest, out, ov, rfl, rfl, HO, HE, HB⟩ := hrel
    by_cases h0 : rest.size = 0
    · have he : ¬ 0 < rest.size := by omega
      have HEE := Lib.hid (show longL H word = out by have := HE.out.1; rw [longL_nil h0, List.append_nil] at this; exact this)
      clear h0
      go_wp2_with fail
      go_ret
      rw [HEE.out]
      exact ⟨_, rfl, HO.out, HB.out⟩
    · have he : 0 < rest.size := by omega
      have hsz : rest.size ≤ 100000 := by have := HE.out.2; have := HW.out; omega
      have HR0 := Lib.hid h0
      have hs1 : 1 ≤ rest.size := by omega
      clear h0
      go_wp2_with fail
      go_loopw [6] (fun v6 wq => ∃ n : Nat, v6 = .int .i64 (n : Int) ∧ Hid (Below wr.heap.size wr wq) ∧ Hid (1 ≤ n ∧ n ≤ rest.size ∧ down H rest rest.size = down H rest n)) (fun v6 _ => (intOf v6).toNat)
      case atStart => exact ⟨rest.size, rfl, Lib.hid (Below.refl _ _), Lib.hid ⟨hs1, Nat.le_refl _, rfl⟩⟩
      case round =>
        obtain ⟨n, rfl, HQ, HN⟩ := hrel
        have hnp : (0 : Int) ≤ (n : Int) := by omega
        have hnl : (n : Int) ≤ (rest.size : Int) := by have := HN.out; omega
        have hbq := HB.out.trans (HQ.out.mono HB.out.size)
        have hh := rhas_any (pre rest n) A cp m _ (Kd.C_below HR.out hbq) HG.out hl
        rw [HHS.out] at hh
        unfold pre at hh
        have HBQ := Lib.hid hbq
        clear hbq
        have fin : ∀ (wz : World), Below w.heap.size w wz → Hid (wz.ownsRow w.heap.size 9 1 ov out.length (out.flatMap encT)) → down H rest n = n → True := fun _ _ _ _ => trivial
        clear fin
        by_cases hn1 : n = 1
        · subst hn1
          have HDH := Lib.hid (show down H rest 1 = 1 by rw [down]; simp)
          have BZ := Lib.hid HQ.out
          clear hh
          obtain ⟨A3, cap3, rfl⟩ := slcT HO.out
          have hol : out.length ≤ 100000 := by have := HE.out.2; have := HW.out; omega
          have HOZ := Lib.hid (own_keep (w1 := wr) HO.out (fun q hq => (BZ.out.block q (HO.out.lt q hq).2)))
          have hbs : w.heap.size ≤ wr.heap.size := (HB.out.trans (BZ.out.mono HB.out.size)).size
          go_wp2_with (at_builtin; refine wpList_append_own_at _ rfl _ _ 37 rfl w.heap.size 9 i0 _ 1 16 Try.underlying37 hi hz0 hz1 hz2 rfl (by decide) _ _ _ rfl (HOZ.out.alloc _) ⟨_, 0, none⟩ 1 1 [.string (rest.extract 0 1)] rfl rfl (news_alloc rfl) (by simp [Value.oneCell']) (by unfold maxLen; omega) (by omega) (by simp; omega) ?_; intro v' w5 hown5 hgrow5 _ hat5)
          go_roundw
          case rel =>
            replace hgrow5 : (wr.alloc (.cells #[.string (rest.extract 0 1)] 9)).grownBy w5 (Value.slice A3 out.length cap3).ownBlock := hgrow5
            have hbz := HB.out.trans (BZ.out.mono HB.out.size)
            have hba : Below w.heap.size w (wr.alloc (.cells #[.string (rest.extract 0 1)] 9)) := hbz.alloc hbz.size _
            have hN := HN.out
            have hlr : longL H rest = pre rest 1 :: longL H (suf rest 1) := by rw [longL_step HR0.out, hN.2.2, HDH.out]
            refine ⟨suf rest 1, out ++ [pre rest 1], v', rfl, rfl, Lib.hid ?_, Lib.hid ⟨?_, ?_⟩, Lib.hid (hba.grown hgrow5 hba.size (fun q e => (HO.out.lt q e).1))⟩
            · rw [List.length_append, List.flatMap_append]; exact hown5
            · rw [HE.out.1, hlr, List.append_assoc]; rfl
            · have := HE.out.2
              rw [suf_size, List.length_append, List.length_singleton]; omega
          case measure =>
            have hN := HN.out
            show (suf rest 1).size < rest.size
            rw [suf_size]; omega
        · have hgt : 1 < n := by have := HN.out; omega
          cases hHn : H (rest.extract 0 n) with
          | false =>
            rw [hHn] at hh
            have HDM := Lib.hid (show down H rest n = down H rest (n - 1) from down_miss (by have := HN.out; omega) hHn)
            clear hHn
            go_wp2_with fail
            refine hh.mono ?_
            rintro e w5 ⟨rfl, n5, rfl⟩
            go_wp2_with fail
            go_roundw
            case rel => exact ⟨n - 1, by go_num, Lib.hid (HQ.out.trans (bdrew _ _ _)), Lib.hid ⟨by have := HN.out; omega, by have := HN.out; omega, HN.out.2.2.trans HDM.out⟩⟩
            case measure => simp [intOf]; have := HN.out; omega
          | true =>
            rw [hHn] at hh
            have HDH := Lib.hid (show down H rest n = n from down_hit HN.out.1 hHn)
            clear hHn
            go_wp2_with fail
            refine hh.mono ?_
            rintro e wz ⟨rfl, n5, rfl⟩
            have BZ := Lib.hid (HQ.out.trans (bdrew _ _ n5))
            clear hh
            obtain ⟨A3, cap3, rfl⟩ := slcT HO.out
            have hol : out.length ≤ 100000 := by have := HE.out.2; have := HW.out; omega
            have HOZ := Lib.hid (own_keep (w1 := (wr.drewN n5)) HO.out (fun q hq => (BZ.out.block q (HO.out.lt q hq).2)))
            have hbs : w.heap.size ≤ wr.heap.size := (HB.out.trans (BZ.out.mono HB.out.size)).size
            go_wp2_with (at_builtin; refine wpList_append_own_at _ rfl _ _ 37 rfl w.heap.size 9 i0 _ 1 16 Try.underlying37 hi hz0 hz1 hz2 rfl (by decide) _ _ _ rfl (HOZ.out.alloc _) ⟨_, 0, none⟩ 1 1 [.string (rest.extract 0 n)] rfl rfl (news_alloc rfl) (by simp [Value.oneCell']) (by unfold maxLen; omega) (by omega) (by simp; omega) ?_; intro v' w5 hown5 hgrow5 _ hat5)
            go_roundw
            case rel =>
              replace hgrow5 : ((wr.drewN n5).alloc (.cells #[.string (rest.extract 0 n)] 9)).grownBy w5 (Value.slice A3 out.length cap3).ownBlock := hgrow5
              have hbz := HB.out.trans (BZ.out.mono HB.out.size)
              have hba : Below w.heap.size w ((wr.drewN n5).alloc (.cells #[.string (rest.extract 0 n)] 9)) := hbz.alloc hbz.size _
              have hN := HN.out
              have hlr : longL H rest = pre rest n :: longL H (suf rest n) := by rw [longL_step HR0.out, hN.2.2, HDH.out]
              refine ⟨suf rest n, out ++ [pre rest n], v', rfl, rfl, Lib.hid ?_, Lib.hid ⟨?_, ?_⟩, Lib.hid (hba.grown hgrow5 hba.size (fun q e => (HO.out.lt q e).1))⟩
              · rw [List.length_append, List.flatMap_append]; exact hown5
              · rw [HE.out.1, hlr, List.append_assoc]; rfl
              · have := HE.out.2
                rw [suf_size, List.length_append, List.length_singleton]; omega
            case measure =>
              have hN := HN.out
              show (suf rest n).size < rest.size
              rw [suf_size]; omega
end Go.Proofs.Ythinomhjhkhidaa.Voc
