/- Layer 21: Depth, Has, Uses, Len, Longest, walked. -/
import Derived.Test.YthinomhjhkhidaaVoc
namespace Go.Proofs.Ythinomhjhkhidaa.Voc
open Go.RowKit Go.Maps Go.ChangeShapes Go.WideShapes Go.Deep Go.Proofs.YthinomhjhkhidaaW.PrintWords Go.Proofs.YthinomhjhkhidaaW.PrintLast Go.Proofs.YthinomhjhkhidaaW.PrintMore Base Foot ExtTail SymPure Kinds FilePure FileJoin SMap
set_option linter.unusedVariables false
set_option linter.unusedSimpArgs false
attribute [local go_sem ↓] Go.wp_at_zero Go.wp_at_succ
attribute [local go_sem] max2_int min2_int max_two min_two

set_option maxRecDepth 100000 in
theorem look_ok {w : World} {mb : Nat} {m : List Wd} (h : PM w mb m) {p : ByteArray} (hp : SS p) : (Instr.lookup 73 (.map (some mb)) (.string p) true).run Try.prog w = .ok (.tuple #[.int .i64 ((SMap.look m p).getD 0), .bool (SMap.look m p).isSome]) w := by
  obtain ⟨D, h1, h2⟩ := h
  obtain ⟨v, ps, h3, h4⟩ := h1.look_ok kyd Try.underlying73 (zero_i w) (plainElem_int Try.underlying3 (by decide)) (key_of hp)
  obtain ⟨c, rfl, hc, _⟩ := plainElem_int_inv Try.underlying3 h4
  rw [h2.at_ p hp] at hc
  have e : c = (SMap.look m p).getD 0 := by simp only [Prod.mk.injEq, DataW.lit.injEq, Lit.int.injEq] at hc; exact hc.1.2.symm
  rw [h3, e, h2.has_ p hp]
/-- a text's depth, -1: it is none -/
def depV (D : List Wd) (p : ByteArray) : Int := (SMap.look D p).getD (-1)
set_option maxHeartbeats 800000 in
theorem depth_nil (w : World) (p : ByteArray) : Calls Try.prog 14 #[.pointer none, .string p] w fun e w' => e = .returned (.int .i64 (-1)) ∧ w' = w := by
  go_enter Try.func14, Try.ntmps14
  go_wp2_with fail
  go_ret
  exact ⟨rfl, rfl⟩
set_option maxHeartbeats 800000 in
theorem depth_any {w : World} {b md mu : Nat} {D U : List Wd} {k : Int} (h : VT w b md mu D U k) (p : ByteArray) (hp : SS p) :
    Calls Try.prog 14 #[.pointer (some ⟨b, 0, none⟩), .string p] w fun e w' => e = .returned (.int .i64 (depV D p)) ∧ w' = w := by
  have c0 := cell_at h.blk 0
  simp only [List.getElem?_toArray, List.getElem?_cons_zero] at c0
  have lk := look_ok h.pd hp
  unfold depV
  cases hl : SMap.look D p with
  | none =>
    rw [hl] at lk
    clear h hl
    go_enter Try.func14, Try.ntmps14
    go_wp2_with fail
    go_ret
    exact ⟨rfl, rfl⟩
  | some d =>
    rw [hl] at lk
    clear h hl
    go_enter Try.func14, Try.ntmps14
    go_wp2_with fail
    go_ret
    exact ⟨rfl, rfl⟩
set_option maxHeartbeats 800000 in
theorem has_nil (w : World) (p : ByteArray) : Calls Try.prog 12 #[.pointer none, .string p] w fun e w' => e = .returned (.bool false) ∧ w' = w := by
  have hd := depth_nil w p
  go_enter Try.func12, Try.ntmps12
  go_wp2_with fail
  refine hd.mono ?_
  rintro e w1 ⟨rfl, rfl⟩
  go_wp2_with fail
  go_ret
  exact ⟨rfl, rfl⟩
theorem dep_has (m : List Mg) (p : ByteArray) : decide (0 ≤ depV (vD m) p) = sideB p m := by
  rw [← vD_has m p]
  unfold depV
  have h := vD_bd m p
  cases hl : SMap.look (vD m) p with
  | none => rfl
  | some d => rw [hl] at h; simp only [Option.getD_some] at h; simp [h.1]
set_option maxHeartbeats 800000 in
theorem has_any {w : World} {b md mu : Nat} {m : List Mg} {U : List Wd} {k : Int} (h : VT w b md mu (vD m) U k) (p : ByteArray) (hp : SS p) :
    Calls Try.prog 12 #[.pointer (some ⟨b, 0, none⟩), .string p] w fun e w' => e = .returned (.bool (sideB p m)) ∧ w' = w := by
  have hd := depth_any h p hp
  have hb := dep_has m p
  generalize depV (vD m) p = d at hd hb
  generalize sideB p m = s at hb ⊢
  clear h
  have HH := Lib.hid hb
  clear hb
  go_enter Try.func12, Try.ntmps12
  go_wp2_with fail
  refine hd.mono ?_
  rintro e w1 ⟨rfl, rfl⟩
  go_wp2_with fail
  go_ret
  exact ⟨by rw [← HH.out]; rfl, rfl⟩
set_option maxHeartbeats 800000 in
theorem uses_nil (w : World) (p : ByteArray) : Calls Try.prog 16 #[.pointer none, .string p] w fun e w' => e = .returned (.int .i64 0) ∧ w' = w := by
  go_enter Try.func16, Try.ntmps16
  go_wp2_with fail
  go_ret
  exact ⟨rfl, rfl⟩
set_option maxHeartbeats 800000 in
theorem len_nil (w : World) : Calls Try.prog 18 #[.pointer none] w fun e w' => e = .returned (.int .i64 0) ∧ w' = w := by
  go_enter Try.func18, Try.ntmps18
  go_wp2_with fail
  go_ret
  exact ⟨rfl, rfl⟩
set_option maxHeartbeats 800000 in
theorem longest_nil (w : World) (p : ByteArray) : Calls Try.prog 20 #[.pointer none, .string p] w fun e w' => e = .returned (.slice none 0 0) ∧ w' = w := by
  go_enter Try.func20, Try.ntmps20
  go_wp2_with fail
  go_ret
  exact ⟨rfl, rfl⟩
set_option maxHeartbeats 800000 in
theorem uses_any {w : World} {b md mu : Nat} {D : List Wd} {m : List Mg} {k : Int} (h : VT w b md mu D (vU m) k) (p : ByteArray) (hp : SS p) :
    Calls Try.prog 16 #[.pointer (some ⟨b, 0, none⟩), .string p] w fun e w' => e = .returned (.int .i64 (usesN m p)) ∧ w' = w := by
  have c0 := cell_at h.blk 1
  simp only [List.getElem?_toArray, List.getElem?_cons_zero, List.getElem?_cons_succ] at c0
  have lk := h.pu.look_run hp
  rw [vU_look] at lk
  clear h
  go_enter Try.func16, Try.ntmps16
  go_wp2_with fail
  go_ret
  exact ⟨rfl, rfl⟩
set_option maxHeartbeats 800000 in
theorem len_any {w : World} {b md mu : Nat} {D U : List Wd} {k : Int} (h : VT w b md mu D U k) :
    Calls Try.prog 18 #[.pointer (some ⟨b, 0, none⟩)] w fun e w' => e = .returned (.int .i64 (D.length : Int)) ∧ w' = w := by
  have c0 := cell_at h.blk 0
  simp only [List.getElem?_toArray, List.getElem?_cons_zero] at c0
  have lk := h.pd.len_run
  clear h
  go_enter Try.func18, Try.ntmps18
  go_wp2_with fail
  go_ret
  exact ⟨rfl, rfl⟩
/-! ### Longest -/
abbrev encT (s : ByteArray) : List Value := [.string s]
theorem infoT : (Try.prog.info? 9).map (fun i => (i.zero, i.size, i.bytes)) = some (some (.string ByteArray.empty), 1, 16) := by kernel_rfl
theorem slcT {w : World} {D n : Nat} {e : TypeId} {sz : Nat} {v : Value} {xs : List Value} (h : w.ownsRow D e sz v n xs) : ∃ A c, v = .slice A n c := by
  rcases h.2 with ⟨rfl, h0⟩ | ⟨g, cap, cur, rfl, _⟩
  · exact ⟨none, 0, by rw [h0]⟩
  · exact ⟨_, _, rfl⟩
def sOf : Value → ByteArray
  | .string s => s
  | _ => ByteArray.empty
theorem down_hit {H : ByteArray → Bool} {w : ByteArray} {n : Nat} (h1 : 1 ≤ n) (h : H (pre w n) = true) : down H w n = n := by
  obtain ⟨k, rfl⟩ : ∃ k, n = k + 1 := ⟨n - 1, by omega⟩
  rw [down]
  by_cases h0 : k = 0
  · rw [if_pos h0, h0]
  · rw [if_neg h0, if_pos h]
theorem down_miss {H : ByteArray → Bool} {w : ByteArray} {n : Nat} (h1 : 2 ≤ n) (h : H (pre w n) = false) : down H w n = down H w (n - 1) := by
  obtain ⟨k, rfl⟩ : ∃ k, n = k + 1 := ⟨n - 1, by omega⟩
  rw [down, if_neg (by omega), h]
  rfl
theorem empty_iff (p : ByteArray) : p.toList.isEmpty = true ↔ p.size = 0 := by
  rw [List.isEmpty_iff]
  constructor
  · intro h
    have := toList_len p
    rw [h] at this
    simpa using this.symm
  · intro h
    have := toList_len p
    rw [h] at this
    exact List.eq_nil_of_length_eq_zero this
set_option maxHeartbeats 6400000 in
set_option maxRecDepth 100000 in
theorem longest_any {w : World} {b md mu : Nat} {m : List Mg} {U : List Wd} (h : VT w b md mu (vD m) U (vM m)) (word : ByteArray) (hw : word.size ≤ 100000) :
    Calls Try.prog 20 #[.pointer (some ⟨b, 0, none⟩), .string word] w fun e w' => ∃ v, e = .returned v ∧
      w'.ownsRow w.heap.size 9 1 v (longL (fun s => sideB s m) word).length ((longL (fun s => sideB s m) word).flatMap encT) ∧ Below w.heap.size w w' := by
  have h1M := (vM_ge m).1
  have hone : ∀ s : ByteArray, s.size = 1 → sideB s m = true := fun s hs => by unfold sideB; simp [hs]
  have hbig : ∀ s : ByteArray, vM m < (s.size : Int) → sideB s m = false := fun s hs => by
    cases e : sideB s m with
    | false => rfl
    | true => have := has_size e; omega
  obtain ⟨i0, hi, hz0, hz1, hz2⟩ := info_parts infoT
  obtain ⟨k, hk⟩ : ∃ k, vM m = k := ⟨_, rfl⟩
  rw [hk] at h h1M hbig
  obtain ⟨H, hH⟩ : ∃ H : ByteArray → Bool, (fun s => sideB s m) = H := ⟨_, rfl⟩
  have hHs : ∀ s, sideB s m = H s := fun s => congrFun hH s
  have HHS := Lib.hid hHs
  rw [hH]
  simp only [hHs] at hone hbig
  have HONE := Lib.hid hone
  have HBIG := Lib.hid hbig
  have HV := Lib.hid h
  have HW := Lib.hid hw
  have H1M := Lib.hid h1M
  have hnil : w.ownsRow w.heap.size 9 1 (.slice none 0 0) ([] : List ByteArray).length (([] : List ByteArray).flatMap encT) := World.ownsRow_nil _ _ _ _
  have HNIL := Lib.hid hnil
  clear h hw h1M hone hbig hk hH hHs hnil
  go_enter Try.func20, Try.ntmps20
  go_wp2_with fail
  go_loopw [1, 5] (fun v1 v5 wr => ∃ (rest : ByteArray) (out : List ByteArray) (ov : Value), v1 = .string rest ∧ ov = v5 ∧ Hid (wr.ownsRow w.heap.size 9 1 ov out.length (out.flatMap encT)) ∧ Hid (longL H word = out ++ longL H rest ∧ rest.size + out.length ≤ word.size) ∧ Hid (Below w.heap.size w wr)) (fun v1 _ _ => (sOf v1).size)
  case atStart => exact ⟨word, [], _, rfl, rfl, HNIL, Lib.hid ⟨rfl, by simp⟩, Lib.hid (Below.refl _ _)⟩
  case round =>
    clear HNIL
    obtain ⟨rest, out, ov, rfl, rfl, HO, HE, HB⟩ := hrel
    by_cases h0 : rest.size = 0
    · have he : rest.toList.isEmpty = true := (empty_iff rest).2 h0
      have HEE := Lib.hid (show longL H word = out by have := HE.out.1; rw [longL_nil h0, List.append_nil] at this; exact this)
      clear h0
      go_wp2_with fail
      go_ret
      rw [HEE.out]
      exact ⟨_, rfl, HO.out, HB.out⟩
    · have he : rest.toList.isEmpty = false := by
        cases e : rest.toList.isEmpty with
        | false => rfl
        | true => exact absurd ((empty_iff rest).1 e) h0
      have hsz : rest.size ≤ 100000 := by have := HE.out.2; have := HW.out; omega
      have hVr := HV.out.below HB.out
      have c2 := cell_at hVr.blk 2
      simp only [List.getElem?_toArray, List.getElem?_cons_zero, List.getElem?_cons_succ] at c2
      obtain ⟨n0, hn0⟩ : ∃ n0 : Nat, (if k < (rest.size : Int) then k else (rest.size : Int)) = (n0 : Int) := ⟨(if k < (rest.size : Int) then k else (rest.size : Int)).toNat, by have := H1M.out; split <;> omega⟩
      have hn1 : 1 ≤ n0 ∧ n0 ≤ rest.size := by
        have := H1M.out
        split at hn0 <;> omega
      have HD0 := Lib.hid (show down H rest rest.size = down H rest n0 from down_skip hn1.1 _ hn1.2 (fun j h1 h2 => by
        refine HBIG.out _ ?_
        rw [pre_size]
        split at hn0
        · omega
        · omega))
      have HVR := Lib.hid hVr
      have HR0 := Lib.hid h0
      clear hVr h0
      go_wp2_with fail
      clear hn0
      go_loopw [6] (fun v6 wq => ∃ n : Nat, v6 = .int .i64 (n : Int) ∧ wq = wr ∧ Hid (1 ≤ n ∧ n ≤ rest.size ∧ down H rest rest.size = down H rest n)) (fun v6 _ => (intOf v6).toNat)
      case atStart => exact ⟨n0, rfl, rfl, Lib.hid ⟨hn1.1, hn1.2, HD0.out⟩⟩
      case round =>
        obtain ⟨n, rfl, hq, HN⟩ := hrel
        subst hq
        have hnp : (0 : Int) ≤ (n : Int) := by omega
        have hnl : (n : Int) ≤ (rest.size : Int) := by have := HN.out; omega
        have hh := has_any HVR.out (pre rest n) (ss_small (by rw [pre_size]; omega))
        rw [HHS.out] at hh
        unfold pre at hh
        cases hHn : H (rest.extract 0 n) with
        | false =>
          rw [hHn] at hh
          have hn2 : 2 ≤ n := by
            rcases Nat.lt_or_ge 1 n with h | h
            · exact h
            · have h1 : n = 1 := by have := HN.out; omega
              rw [h1] at hHn
              have := HONE.out (pre rest 1) (by rw [pre_size]; have := HR0.out; omega)
              unfold pre at this
              rw [this] at hHn; cases hHn
          have HDM := Lib.hid (show down H rest n = down H rest (n - 1) from down_miss hn2 hHn)
          clear hHn
          go_wp2_with fail
          refine hh.mono ?_
          rintro e w5 ⟨rfl, rfl⟩
          go_wp2_with fail
          go_roundw
          case rel => exact ⟨n - 1, by go_num, trivial, Lib.hid ⟨by omega, by have := HN.out; omega, HN.out.2.2.trans HDM.out⟩⟩
          case measure => simp [intOf]; omega
        | true =>
          rw [hHn] at hh
          have HDH := Lib.hid (show down H rest n = n from down_hit HN.out.1 hHn)
          clear hHn
          go_wp2_with fail
          refine hh.mono ?_
          rintro e wz ⟨rfl, rfl⟩
          clear hh
          obtain ⟨A3, cap3, rfl⟩ := slcT HO.out
          have hol : out.length ≤ 100000 := by have := HE.out.2; have := HW.out; omega
          have hbs := HB.out.size
          go_wp2_with (at_builtin; refine wpList_append_own_at _ rfl _ _ 37 rfl w.heap.size 9 i0 _ 1 16 Try.underlying37 hi hz0 hz1 hz2 rfl (by decide) _ _ _ rfl (HO.out.alloc _) ⟨_, 0, none⟩ 1 1 [.string (rest.extract 0 n)] rfl rfl (news_alloc rfl) (by simp [Value.oneCell']) (by unfold maxLen; omega) (by omega) (by simp; omega) ?_; intro v' w5 hown5 hgrow5 _ hat5)
          go_roundw
          case rel =>
            replace hgrow5 : (wz.alloc (.cells #[.string (rest.extract 0 n)] 9)).grownBy w5 (Value.slice A3 out.length cap3).ownBlock := hgrow5
            have hba : Below w.heap.size w (wz.alloc (.cells #[.string (rest.extract 0 n)] 9)) := HB.out.alloc HB.out.size _
            have hN := HN.out
            have hlr : longL H rest = pre rest n :: longL H (suf rest n) := by rw [longL_step HR0.out, hN.2.2, HDH.out]
            refine ⟨suf rest n, out ++ [pre rest n], v', rfl, rfl, Lib.hid ?_, Lib.hid ⟨?_, ?_⟩, Lib.hid (hba.grown hgrow5 hba.size (fun q e => (HO.out.lt q e).1))⟩
            · rw [List.length_append, List.flatMap_append]; exact hown5
            · rw [HE.out.1, hlr, List.append_assoc]; rfl
            · have := HE.out.2
              rw [suf_size, List.length_append, List.length_singleton]; omega
          case measure =>
            have hN := HN.out
            show (suf rest n).size < rest.size
            rw [suf_size]; omega
end Go.Proofs.Ythinomhjhkhidaa.Voc
