/- Layer 7: Freeze, walked: the words, rising. -/
import Derived.Test.YthpdamkpefgmaaaFreqAll
namespace Go.Proofs.Ythpdamkpefgmaaa.Freq
open Go.RowKit Go.Maps Go.Sort Go.Shelf Go.Proofs.YthpdamkpefgmaaaW.PrintWords Go.Proofs.YthpdamkpefgmaaaW.PrintLast Go.Proofs.YthpdamkpefgmaaaW.PrintMore Base Foot ExtTail SMap FreqPure CAdd
set_option linter.unusedVariables false
set_option linter.unusedSimpArgs false
attribute [local go_sem ↓] Go.wp_at_zero Go.wp_at_succ

def fz (m : List Wd) (ks : List (List UInt8)) : List Wd := ks.map fun k => ((⟨k.toArray⟩ : ByteArray), res m ⟨k.toArray⟩)
theorem fz_ok {m : List Wd} {ks : List (List UInt8)} (hn : Nd m) (h : Sorted m ks) : Rise (fz m ks) ∧ (fz m ks).Perm m := by
  obtain ⟨h1, h2⟩ := h
  have hnk : ks.Nodup := by
    refine h1.nodup_iff.2 ?_
    unfold Nd at hn
    have e : (m.map fun x => x.1.data.toList) = (m.map (·.1)).map fun p => p.data.toList := by rw [List.map_map]; rfl
    rw [e]
    exact List.pairwise_map.2 (hn.imp fun {p q} hne e => hne (data_inj e))
  constructor
  · unfold Rise fz
    rw [List.pairwise_map]
    refine (h2.and hnk).imp fun {a b} hab => ?_
    obtain ⟨hle, hne⟩ := hab
    rw [bl_lt', toList_mk, toList_mk]
    simp only [decide_eq_true_eq]
    rcases List.le_iff_lt_or_eq.1 hle with h | h
    · exact h
    · exact absurd h hne
  · have e : (m.map fun x => x.1.data.toList).map (fun k => ((⟨k.toArray⟩ : ByteArray), res m ⟨k.toArray⟩)) = m := by
      rw [List.map_map]
      refine (List.map_congr_left (g := id) fun x hx => ?_).trans (List.map_id m)
      have e1 : (⟨x.1.data.toList.toArray⟩ : ByteArray) = x.1 := by simp
      show ((⟨x.1.data.toList.toArray⟩ : ByteArray), res m ⟨x.1.data.toList.toArray⟩) = id x
      rw [e1]
      unfold res
      rw [mem_look hn hx]
      rfl
    have := h1.map fun k => ((⟨k.toArray⟩ : ByteArray), res m ⟨k.toArray⟩)
    rw [e] at this
    exact this
abbrev tW : TypeId := 87
def encW (x : Wd) : List Value := [.string x.1, .int .i64 x.2]
theorem encW_len (x : Wd) : (encW x).length = 2 := rfl
theorem infoW : (Try.prog.info? tW).map (fun i => (i.zero, i.size, i.bytes)) = some (some (.agg #[.string ⟨#[]⟩, .int .i64 0]), 2, 24) := by kernel_rfl
theorem buildW (a : ByteArray) (b : Int) (w : World) : (Instr.build tW #[(0, .string a), (1, .int .i64 b)]).run Try.prog w = .ok (.agg #[.string a, .int .i64 b]) w := run_build w _ _ _ (by kernel_rfl)
attribute [-go_sem] Instr.build
attribute [local go_sem high] buildW
theorem fm_enc (ks : List (List UInt8)) : ks.map encStr = ks.flatMap fun k => [encStr k] := by
  induction ks with
  | nil => rfl
  | cons a t ih => rw [List.map_cons, List.flatMap_cons, ih]; rfl
theorem slc {w : World} {B : Nat} {e : TypeId} {sz n : Nat} {v : Value} {xs : List Value} (h : w.ownsRow B e sz v n xs) : ∃ A cap, v = .slice A n cap := by
  rcases h.2 with ⟨rfl, h0⟩ | ⟨g, cap, cur, rfl, _⟩
  · exact ⟨none, 0, by rw [h0]⟩
  · exact ⟨_, _, rfl⟩
theorem own_low {w : World} {B B' : Nat} {e : TypeId} {sz n : Nat} {v : Value} {xs : List Value} (h : w.ownsRow B e sz v n xs) (hb : B' ≤ B) : w.ownsRow B' e sz v n xs := by
  obtain ⟨h1, h2⟩ := h
  refine ⟨h1, ?_⟩
  rcases h2 with h2 | ⟨g, cap, cur, e1, hg, r⟩
  · exact .inl h2
  · exact .inr ⟨g, cap, cur, e1, by omega, r⟩
/-- a row of words -/
abbrev RowW (B : Nat) (w : World) (v : Value) (l : List Wd) : Prop := w.ownsRow B tW 2 v l.length (l.flatMap encW)
set_option maxHeartbeats 3200000 in
set_option maxRecDepth 100000 in
theorem freeze_any {w : World} {b : Nat} {mv : Value} {m : List Wd} (h : FT w b mv m) (hl : m.length ≤ 900000) :
    Calls Try.prog 41 #[.pointer (some ⟨b, 0, none⟩)] w fun e w' => ∃ (v : Value) (l : List Wd), e = .returned v ∧ Rise l ∧ l.Perm m ∧ RowW w.heap.size w' v l ∧ Below w.heap.size w w' := by
  obtain ⟨iW, hiW, zW0, zW1, zW2⟩ := info_parts infoW
  have c0 := cell_at h.blk 0
  simp only [List.getElem?_toArray, List.getElem?_cons_zero] at c0
  obtain ⟨mr, rfl⟩ : ∃ mr, mv = .map mr := by
    rcases h.map with ⟨rfl, _⟩ | ⟨mb, rfl, _⟩
    · exact ⟨_, rfl⟩
    · exact ⟨_, rfl⟩
  have hk := keysS_any mr w
  have hs := sortedS_any h hl
  have hb0 := (Below.refl _ w).alloc (Nat.le_refl _) (.cells #[.map mr] tSM)
  have HB0 := Lib.hid hb0
  have HH := Lib.hid h
  clear h hb0
  go_enter Try.func41, Try.ntmps41
  go_wp2_with fail
  refine hk.mono ?_
  rintro e w1 ⟨rfl, rfl⟩
  go_wp2_with fail
  refine hs.mono ?_
  rintro e w2 ⟨v, ks, rfl, hS, hrow, hb2⟩
  have hB2 := HB0.out.trans (hb2.mono HB0.out.size)
  have hfz := fz_ok HH.out.nd hS
  have hlen : ks.length = m.length := by have := hS.1.length_eq; simpa using this
  have hss : ∀ k ∈ ks, k.length ≤ maxLen := by
    intro k hk
    obtain ⟨x, hx, rfl⟩ := List.mem_map.1 (hS.1.mem_iff.1 hk)
    have := (HH.out.al x hx).1
    rw [Array.length_toList]; exact this
  obtain ⟨A, cap, rfl⟩ := slc hrow
  have hrow1 := own_low hrow (B' := w.heap.size) (by omega)
  rw [fm_enc] at hrow1
  have HR := Lib.hid hrow1
  have HB2 := Lib.hid hB2
  have HFZ := Lib.hid hfz
  have HLEN := Lib.hid hlen
  have HSS := Lib.hid hss
  have hkl : ks.length ≤ 900000 := by omega
  clear hrow hrow1 hb2 hB2 hfz hlen hs hk hss c0 HB0 hl
  go_wp2_with fail
  go_loopw [15, 3] (fun v15 v3 wr => ∃ (i : Nat) (ov : Value), i ≤ ks.length ∧ v15 = .int .i64 (i : Int) ∧ ov = v3 ∧ Hid (RowW w.heap.size wr ov ((fz m ks).take i)) ∧ Hid (wr.ownsRow w.heap.size 9 1 (.slice A ks.length cap) ks.length (ks.flatMap fun k => [encStr k])) ∧ Hid (Below w.heap.size w wr)) (fun i _ _ => ks.length - (intOf i).toNat)
  case atStart => exact ⟨0, _, by omega, rfl, rfl, Lib.hid (World.ownsRow_nil _ _ _ _), HR, HB2⟩
  case round =>
    clear HR HB2
    obtain ⟨i, ov, hi, rfl, rfl, HO, HR, HB⟩ := hrel
    have hi0 : (0 : Int) ≤ (i : Int) := by omega
    have hfl : (fz m ks).length = ks.length := by simp [fz]
    by_cases hlt : i < ks.length
    · have hli : (i : Int) < (ks.length : Int) := by omega
      have hx := List.getElem?_eq_getElem hlt
      have hss := HSS.out _ (List.getElem_mem hlt)
      generalize ks[i] = k at hx hss
      obtain ⟨ad, c2, e, hcap, y0, _⟩ := own_at (f := fun k => [encStr k]) (sz := 1) (fun _ => rfl) HR.out (by omega) hx
      cases e
      have y1 := y0 _ rfl
      rw [Nat.mul_one] at y1
      have hft := HH.out.below HB.out
      have cm := cell_at hft.blk 0
      simp only [List.getElem?_toArray, List.getElem?_cons_zero] at cm
      have hfx : (fz m ks)[i]? = some (⟨k.toArray⟩, res m ⟨k.toArray⟩) := by unfold fz; rw [List.getElem?_map, hx]; rfl
      have hye : encStr k = .string ⟨k.toArray⟩ := rfl
      rw [hye] at y1
      have lk := hft.look (p := ⟨k.toArray⟩) (by show (ByteArray.mk k.toArray).size ≤ maxLen; simpa [ByteArray.size] using hss)
      generalize (⟨k.toArray⟩ : ByteArray) = p at *
      obtain ⟨c, hc⟩ : ∃ c, res m p = c := ⟨_, rfl⟩
      rw [hc] at lk hfx
      have HX := Lib.hid hfx
      have hol := (List.length_take_of_le (l := fz m ks) (by omega : i ≤ (fz m ks).length))
      have hro : wr.ownsRow w.heap.size tW 2 ov i (((fz m ks).take i).flatMap encW) := by have := HO.out; unfold RowW at this; rw [hol] at this; exact this
      have hws := HB.out.size
      obtain ⟨A3, cap3, rfl⟩ := slc hro
      have HRO := Lib.hid hro
      clear hx hss y0 hft hye hc hro hol
      go_wp2_with (at_builtin; refine wpList_append_own_at _ rfl _ _ 77 rfl w.heap.size tW iW _ 2 24 Try.underlying77 hiW zW0 zW1 zW2 rfl (by decide) _ _ _ rfl (HRO.out.alloc _) ⟨wr.heap.size, 0, none⟩ 1 1 [.string p, .int .i64 c] rfl rfl (news_alloc rfl) (by simp [Value.oneCell']) (by unfold maxLen; omega) (by omega) (by simp; omega) ?_; intro v' w5 hown5 hgrow5 _ hat5)
      replace hgrow5 : (wr.alloc (.cells #[.string p, .int .i64 c] tW)).grownBy w5 (Value.slice A3 i cap3).ownBlock := hgrow5
      have hba : Below w.heap.size w (wr.alloc (.cells #[.string p, .int .i64 c] tW)) := HB.out.alloc HB.out.size _
      have hb5 : Below w.heap.size w w5 := hba.grown hgrow5 hba.size (fun k e => (HRO.out.lt k e).1)
      have hr5 := own_keep (w1 := w5) HR.out (fun q hq => (hgrow5.block q (by have := (HR.out.lt q hq).2; simp; omega) (fun e => own_not_own HR.out HRO.out (by decide) hq e.symm)).trans (Below.heap_alloc _ _ q (HR.out.lt q hq).2))
      have ho5 : RowW w.heap.size w5 v' ((fz m ks).take (i + 1)) := by
        unfold RowW
        rw [List.take_add_one, HX.out, List.flatMap_append, List.length_append, List.length_take_of_le (by omega)]
        exact hown5
      have HO5 := Lib.hid ho5
      have HR5 := Lib.hid hr5
      have HB5 := Lib.hid hb5
      clear hown5 hgrow5 hat5 hba hb5 hr5 ho5
      go_wp2_with fail
      go_roundw
      case rel => exact ⟨i + 1, v', by omega, by go_num, rfl, HO5, HR5, HB5⟩
      case measure => simp [intOf]; omega
    · obtain rfl : i = ks.length := by omega
      have hnl : ¬ (ks.length : Int) < (ks.length : Int) := by omega
      have ho : RowW w.heap.size wr ov (fz m ks) := by have := HO.out; rw [List.take_of_length_le (by omega)] at this; exact this
      have HO2 := Lib.hid ho
      clear ho
      go_wp2_with fail
      go_ret
      first
        | exact ⟨_, fz m ks, rfl, HFZ.out.1, HFZ.out.2, HO2.out, HB.out⟩
        | exact ⟨_, rfl, fz m ks, HFZ.out.1, HFZ.out.2, HO2.out, HB.out⟩
end Go.Proofs.Ythpdamkpefgmaaa.Freq
