/- Layer 7: AddAll, Freeze, walked. -/
import Derived.Test.YthpdamkpefgmaaaFreqAdd
import Derived.Test.YthpdamkpefgmaaaShelfS
import Derived.Maps.AppendAt
namespace Go.Proofs.Ythpdamkpefgmaaa.Freq
open Go.RowKit Go.Maps Go.Sort Go.Shelf Go.Proofs.YthpdamkpefgmaaaW.PrintWords Go.Proofs.YthpdamkpefgmaaaW.PrintLast Go.Proofs.YthpdamkpefgmaaaW.PrintMore Base Foot ExtTail SMap FreqPure CAdd
set_option linter.unusedVariables false
set_option linter.unusedSimpArgs false
attribute [local go_sem ↓] Go.wp_at_zero Go.wp_at_succ

/-- what stands in each world that differs from this one in new blocks and in the footprint alone -/
def Stands (F : Nat → Prop) (w : World) (φ : World → Prop) : Prop := ∀ W : World, (∀ k, k < w.heap.size → ¬ F k → W.heap[k]? = w.heap[k]?) → φ W
theorem Stands.at {F F' : Nat → Prop} {w W : World} {φ : World → Prop} (h : Stands F w φ) (hu : Upd F F' w W) : φ W := h W hu.block
/-- an array of texts that is read -/
def Str (A : Option Addr) (l : List ByteArray) (w : World) : Prop := ∀ (j : Nat) s, l[j]? = some s → ∃ ad, A = some ad ∧ w.cell? (ad.add j) = some (.string s)
def ones (l : List ByteArray) : List Wd := l.map fun s => (s, (1 : Int))
theorem ones_take {l : List ByteArray} {i : Nat} {s : ByteArray} (h : l[i]? = some s) : ones (l.take (i + 1)) = ones (l.take i) ++ [(s, 1)] := by
  unfold ones
  rw [List.take_add_one, h, List.map_append]; rfl
theorem ones_split {l : List ByteArray} {i : Nat} {s : ByteArray} (h : l[i]? = some s) : ones l = ones (l.take i) ++ (s, 1) :: ones (l.drop (i + 1)) := by
  obtain ⟨h1, h2⟩ := List.getElem?_eq_some_iff.1 h
  have := List.take_append_drop i l
  rw [List.drop_eq_getElem_cons h1, h2] at this
  have e := congrArg ones this
  unfold ones at *
  rw [← e, List.map_append]; rfl
set_option maxHeartbeats 3200000 in
set_option maxRecDepth 100000 in
theorem addall_any {w : World} {b : Nat} {mv : Value} {m : List Wd} (h : FT w b mv m) (l : List ByteArray) (A : Option Addr) (cp : Nat) (hm : m.length + l.length ≤ 900000) (hsrc : Stands (QFoot b mv) w (Str A l)) (hal : ∀ s ∈ l, SS s) :
    Calls Try.prog 42 #[.pointer (some ⟨b, 0, none⟩), .slice A l.length cp] w fun e w' => e = .returned (.int .i64 (addsW m (ones l)).1) ∧ ∃ mv', FT w' b mv' (addsW m (ones l)).2 ∧ Upd (QFoot b mv) (QFoot b mv') w w' := by
  have HS := Lib.hid hsrc
  have HAL := Lib.hid hal
  have HH := Lib.hid h
  clear h hsrc hal
  go_enter Try.func42, Try.ntmps42
  go_wp2_with fail
  go_loopw [10] (fun v10 wr => ∃ (i : Nat) (mi : List Wd) (mvi : Value), i ≤ l.length ∧ v10 = .int .i64 (i : Int) ∧ Hid (FT wr b mvi mi) ∧ Hid (mi.length ≤ m.length + i) ∧ Hid (addsW m (ones (l.take i)) = (0, mi)) ∧ Hid (Upd (QFoot b mv) (QFoot b mvi) w wr)) (fun i _ => l.length - (intOf i).toNat)
  case atStart => exact ⟨0, m, mv, by omega, rfl, HH, Lib.hid (Nat.le_refl _), Lib.hid rfl, Lib.hid Upd.refl⟩
  case round =>
    obtain ⟨i, mi, mvi, hi, rfl, HD, HML, HE, HU⟩ := hrel
    have hi0 : (0 : Int) ≤ (i : Int) := by omega
    by_cases hlt : i < l.length
    · have hli : (i : Int) < (l.length : Int) := by omega
      have hx := List.getElem?_eq_getElem hlt
      generalize l[i] = s at hx
      have hss := HAL.out s (List.mem_of_getElem? hx)
      obtain ⟨ad, rfl, y0⟩ := HS.out.at HU.out i s hx
      have hadd := add_any' HD.out (by have := HML.out; omega) s hss 1 (by unfold In64; omega)
      have HX := Lib.hid hx
      obtain ⟨er, her⟩ : ∃ er, addW mi s 1 = er := ⟨_, rfl⟩
      rw [her] at hadd
      have HER := Lib.hid her
      clear hx her
      go_wp2_with fail
      refine hadd.mono ?_
      rintro e w5 ⟨rfl, mv5, hD5, hu5⟩
      have HD5 := Lib.hid hD5
      have HU5 := Lib.hid (HU.out.trans hu5)
      clear hadd hD5 hu5
      by_cases h0 : er.1 = 0
      · have h0b : (er.1 != 0) = false := by simp [h0]
        go_wp2_with fail
        go_roundw
        case rel =>
          refine ⟨i + 1, er.2, mv5, by omega, by go_num, HD5, Lib.hid ?_, Lib.hid ?_, HU5⟩
          · have h1 := addW_le mi s 1
            have h2 := HML.out
            rw [HER.out] at h1
            omega
          · rw [ones_take HX.out, addsW_one HE.out (s, 1) (by rw [HER.out]; exact h0), HER.out]
        case measure => simp [intOf]; omega
      · have h0b : (er.1 != 0) = true := by simp [h0]
        go_wp2_with fail
        go_ret
        have hap : addsW m (ones l) = er := by
          rw [ones_split HX.out, addsW_stop HE.out (s, 1) _ (by rw [HER.out]; exact h0), HER.out]
        rw [hap]
        exact ⟨rfl, mv5, HD5.out, HU5.out⟩
    · obtain rfl : i = l.length := by omega
      have hnl : ¬ (l.length : Int) < (l.length : Int) := by omega
      have HEE := Lib.hid (show addsW m (ones l) = (0, mi) by have := HE.out; rw [List.take_length] at this; exact this)
      go_wp2_with fail
      go_ret
      rw [HEE.out]
      exact ⟨rfl, mvi, HD.out, HU.out⟩
/-! ### the map's keys, sorted -/
abbrev tSM : TypeId := 71
abbrev FSK : Nat := 96
theorem sortsS (m : Nat) : AnyZ.SortsIn Try.prog Try.sortedS_ren Fence.wide m :=
  ⟨fun blk off cap ss W hH hblk hsz => callsIn_wide.2 (AnyM.slices_Sort_string Try.sortS blk off cap ss W hH hblk hsz), fun p cap W => callsIn_wide.2 (AnyM.slices_Sort_string_none Try.sortS p cap W)⟩
theorem keysS_any (mb : Option Nat) (W : World) : Calls Try.prog 75 #[.map mb] W fun e w' => e = .returned (.func (.func FSK) #[] #[.pointer (some ⟨W.heap.size, 0, none⟩)]) ∧ w' = W.alloc (.cells #[.map mb] tSM) :=
  (callsIn_wide (n := 5)).1 (AnyZ.keys_in Try.keysS Fence.wide 5 trivial rfl mb W)
def Sorted (m : List Wd) (ks : List (List UInt8)) : Prop := ks.Perm (m.map fun x => x.1.data.toList) ∧ ks.Pairwise fun a b => a ≤ b
set_option maxHeartbeats 1000000 in
theorem sortedS_any {w : World} {b : Nat} {mv : Value} {m : List Wd} (h : FT w b mv m) (hl : m.length ≤ 900000) :
    Calls Try.prog 74 #[.func (.func FSK) #[] #[.pointer (some ⟨w.heap.size, 0, none⟩)]] (w.alloc (.cells #[mv] tSM)) fun e w' => ∃ (v : Value) (ks : List (List UInt8)), e = .returned v ∧ Sorted m ks ∧
      w'.ownsRow (w.heap.size + 1) 9 1 v ks.length (ks.map encStr) ∧ Below (w.alloc (.cells #[mv] tSM)).heap.size (w.alloc (.cells #[mv] tSM)) w' := by
  have hsrt : ∀ ss : List (List UInt8), (ss.mergeSort fun x y => decide (x ≤ y)).Pairwise fun a b => a ≤ b := fun ss => by
    refine (List.pairwise_mergeSort (le := fun x y : List UInt8 => decide (x ≤ y)) (fun a b c h1 h2 => ?_) (fun a b => ?_) ss).imp (fun h => by simpa using h)
    · simp only [decide_eq_true_eq] at *; exact List.le_trans h1 h2
    · simp only [Bool.or_eq_true, decide_eq_true_eq]; exact List.le_total a b
  have fin : ∀ (v : Value) (ss : List (List UInt8)) (w' : World), ss.Perm (m.map fun x => x.1.data.toList) → w'.ownsRow (w.alloc (.cells #[mv] tSM)).heap.size 9 1 v ss.length ((ss.mergeSort (fun x y => decide (x ≤ y))).map encStr) →
      ∃ (v2 : Value) (ks : List (List UInt8)), Ending.returned v = .returned v2 ∧ Sorted m ks ∧ w'.ownsRow (w.heap.size + 1) 9 1 v2 ks.length (ks.map encStr) := by
    intro v ss w' hp hr
    refine ⟨v, ss.mergeSort (fun x y => decide (x ≤ y)), rfl, ⟨(List.mergeSort_perm ss _).trans hp, hsrt ss⟩, ?_⟩
    rw [List.length_mergeSort]
    simpa using hr
  refine (callsIn_wide (n := 5)).1 ?_
  rcases h.map with ⟨rfl, rfl⟩ | ⟨mb, rfl, D, hown, hr⟩
  · have hseq : SeqGives Fence.wide 2 Try.prog FSK #[.pointer (some ⟨w.heap.size, 0, none⟩)] encStr (fun ss : List (List UInt8) => ss = []) 0 (w.alloc (.cells #[.map none] tSM)) :=
      AnyZ.keys_gives_nil (ρ := Try.keysS_ren) { Try.keysS with } Fence.wide _ trivial rfl w.heap.size _ (by simp) (by simp)
    refine (AnyZ.sorted_in Try.sortedS Fence.wide 5 trivial trivial trivial trivial rfl (by omega) (sortsS _) (enters_of Try.func95 (by kernel_rfl) rfl) FSK #[.pointer (some ⟨w.heap.size, 0, none⟩)] trivial (enters_of Try.func96 (by kernel_rfl) rfl) _ 0 (Nat.zero_le _) (by omega) _ hseq).mono ?_
    rintro e w' ⟨v, ss, rfl, rfl, hrow, _, hb⟩
    obtain ⟨v2, ks, h1, h2, h3⟩ := fin v [] w' (.refl _) hrow
    exact ⟨v2, ks, h1, h2, h3, hb⟩
  · have hbl := hown.lt
    have hsz := hr.size
    have hseq : SeqGives Fence.wide 2 Try.prog FSK #[.pointer (some ⟨w.heap.size, 0, none⟩)] encStr (fun ss => ss.Perm (strKeys D)) (Maps.size D) (w.alloc (.cells #[.map (some mb)] tSM)) :=
      AnyZ.keys_gives (ρ := Try.keysS_ren) { Try.keysS with } Fence.wide _ trivial rfl (by omega) w.heap.size mb m.length D _ (by simp) (by simp) (by
        obtain ⟨es, clock, hb, Ft, hs, hD⟩ := hown
        exact ⟨es, clock, (Below.heap_alloc _ _ mb hbl).trans hb, Ft, hs, hD⟩)
    refine (AnyZ.sorted_in Try.sortedS Fence.wide 5 trivial trivial trivial trivial rfl (by omega) (sortsS _) (enters_of Try.func95 (by kernel_rfl) rfl) FSK #[.pointer (some ⟨w.heap.size, 0, none⟩)] trivial (enters_of Try.func96 (by kernel_rfl) rfl) _ _ (by rw [hsz]; unfold maxLen; omega) (by rw [hsz]; omega) _ hseq).mono ?_
    rintro e w' ⟨v, ss, rfl, hS, hrow, _, hb⟩
    obtain ⟨v2, ks, h1, h2, h3⟩ := fin v ss w' (hS.trans (keys_perm hown hr).symm) hrow
    exact ⟨v2, ks, h1, h2, h3, hb⟩
end Go.Proofs.Ythpdamkpefgmaaa.Freq
