/- FreqNone: a nil counter has nothing, and takes nothing; a zero one takes words; texts are added one by one, up to an empty one. No condition. -/
import Derived.Test.YthpdamkpefgmaaaFreqOnes
import Derived.Deep.RegionHeld3
import Derived.BigRegion
namespace Go.Proofs.Ythpdamkpefgmaaa.FreqNone
open Go.RowKit Go.Maps Go.ChangeShapes Go.WideShapes Go.Deep Go.Proofs.YthpdamkpefgmaaaW.PrintWords Go.Proofs.YthpdamkpefgmaaaW.PrintLast Go.Proofs.YthpdamkpefgmaaaW.PrintMore Base Foot ExtTail SMap FreqPure CAdd Freq RFreq Src
set_option linter.unusedVariables false
set_option linter.unusedSimpArgs false
attribute [local go_sem ↓] Go.wp_at_zero Go.wp_at_succ
theorem buildQ (w : World) : (Instr.build 73 #[]).run Try.prog w = .ok (.agg #[.map none]) w := run_build w _ _ _ (by kernel_rfl)
attribute [-go_sem] Instr.build
attribute [local go_sem high] buildW buildQ

abbrev sA : ByteArray := ⟨#[97]⟩
abbrev sB : ByteArray := ⟨#[98]⟩
theorem ab_adds : addsW [] (ones [sB, sA, sB]) = (0, [(sB, 2), (sA, 1)]) := by decide +kernel
theorem ab_rise : Rise [(sA, (1 : Int)), (sB, 2)] := by
  unfold Rise
  refine List.pairwise_cons.2 ⟨fun x hx => ?_, List.pairwise_singleton _ _⟩
  rw [List.mem_singleton.1 hx]
  decide +kernel
set_option maxHeartbeats 1600000 in
set_option maxRecDepth 100000 in
theorem awake_any (w : World) : Calls Try.prog 37 #[] w fun e w' => e = .returned (.bool true) ∧ Below w.heap.size w w' := by
  go_enter Try.func37, Try.ntmps37
  go_wp2_with fail
  refine (new_any _).mono ?_
  rintro e w1 ⟨rfl, f1, b1⟩
  have hba := (Below.refl _ w1).alloc (Nat.le_refl _) (.cells #[.string sB, .string sA, .string sB] 9)
  have hst : Str (some ⟨w1.heap.size, 0, none⟩) [sB, sA, sB] (w1.alloc (.cells #[.string sB, .string sA, .string sB] 9)) := by
    intro j s hx
    refine ⟨_, rfl, ?_⟩
    rw [addr_add, Nat.zero_add, cell_at (heap_alloc_new w1 _)]
    match j, hx with
    | 0, hx => cases hx; rfl
    | 1, hx => cases hx; rfl
    | 2, hx => cases hx; rfl
    | j + 3, hx => simp at hx
  have hblt := block_lt f1.blk
  have hsta : Stands (QFoot w.heap.size (.map none)) (w1.alloc (.cells #[.string sB, .string sA, .string sB] 9)) (Str (some ⟨w1.heap.size, 0, none⟩) [sB, sA, sB]) := by
    intro W hk j s hx
    obtain ⟨ad, e, hc⟩ := hst j s hx
    cases e
    refine ⟨_, rfl, ?_⟩
    rw [addr_add, Nat.zero_add] at hc ⊢
    have h1 := hk w1.heap.size (by simp) (by
      rintro (h | h)
      · omega
      · cases h)
    unfold World.cell? at hc ⊢
    rw [h1]
    exact hc
  have hall := addall_any (f1.below hba) [sB, sA, sB] _ 3 (by simp) hsta (by intro s hs; show s.size ≤ maxLen; simp at hs; rcases hs with rfl | rfl | rfl <;> decide)
  rw [ab_adds] at hall
  have HALL := Lib.hid hall
  have HB1 := Lib.hid (b1.trans (hba.mono b1.size))
  clear hba hst hsta hall f1 b1
  go_wp2_with fail
  refine HALL.out.mono ?_
  rintro e w2 ⟨rfl, mv2, f2, u2⟩
  have hb2 := HB1.out.trans (u2.below (B := w.heap.size) (by simp; omega) (foot_new _))
  have hfr := freeze_any f2 (by simp)
  have HB2 := Lib.hid hb2
  clear HALL f2 u2 hb2
  go_wp2_with fail
  refine hfr.mono ?_
  rintro e w3 ⟨v3, l3, rfl, r3, p3, o3, b3⟩
  have hl3 : l3 = [(sA, (1 : Int)), (sB, 2)] := rise_uniq r3 ab_rise (p3.trans (List.Perm.swap _ _ _))
  subst hl3
  have hba := (Below.refl _ w3).alloc (Nat.le_refl _) (.cells #[.string sA, .int .i64 1, .string sB, .int .i64 2] 87)
  have ho3 := own_keep (w1 := w3.alloc (.cells #[.string sA, .int .i64 1, .string sB, .int .i64 2] 87)) o3 (fun q hq => Below.heap_alloc _ _ q (o3.lt q hq).2)
  obtain ⟨A3, cap3, rfl⟩ := slc o3
  have hs1 := Src.of_own ho3
  have hs2 : Src (w3.alloc (.cells #[.string sA, .int .i64 1, .string sB, .int .i64 2] 87)) 2 (some ⟨w3.heap.size, 0, none⟩) 2 ([(sA, (1 : Int)), (sB, 2)].flatMap encW) := by
    refine ⟨rfl, fun _ => ⟨_, rfl, fun j u hj => ?_⟩⟩
    rw [addr_add, Nat.zero_add, cell_at (heap_alloc_new w3 _)]
    simpa [encW] using hj
  have hsm := same_yes A3 (some ⟨w3.heap.size, 0, none⟩) cap3 2 [(sA, (1 : Int)), (sB, 2)] _ hs1 hs2 (by simp)
  have HSM := Lib.hid hsm
  have HB3 := Lib.hid ((HB2.out.trans (b3.mono HB2.out.size)).trans (hba.mono (HB2.out.trans (b3.mono HB2.out.size)).size))
  clear hba ho3 hs1 hs2 hsm r3 p3 o3 b3 hfr HB2
  go_wp2_with fail
  refine HSM.out.mono ?_
  rintro e w4 ⟨rfl, b4⟩
  go_wp2_with fail
  go_ret
  exact ⟨rfl, HB3.out.trans (b4.mono HB3.out.size)⟩
set_option maxHeartbeats 6400000 in
set_option maxRecDepth 100000 in
theorem law_any (A : Option Addr) (cap : Nat) (l : List ByteArray) (w : World) (hstr : Str A l w) (hc : l.length ≤ cap) (hl : l.length ≤ maxLen)  (hg : ∀ s ∈ l, s.size ≤ maxLen) :
    Calls Try.prog 8 #[.slice A l.length cap] w fun e w' => e = .returned (.bool true) ∧ Below w.heap.size w w' := by
  have hlm : l.length ≤ 9223372036854775807 := by unfold maxLen at hl; omega
  have HG := Lib.hid hg
  have HS := Lib.hid hstr
  clear hg hstr hl
  go_enter Try.func8, Try.ntmps8
  go_wp2_with fail
  refine (awake_any _).mono ?_
  rintro e w1 ⟨rfl, b1⟩
  by_cases h2 : 50 < l.length
  · have h3 : (50 : Int) < (l.length : Int) := by omega
    go_wp2_with fail
    go_ret
    exact ⟨rfl, b1⟩
  · have h3 : (l.length : Int) ≤ 50 := by omega
    have hl50 : l.length ≤ 50 := by omega
    have hws := b1.size
    have hba := (Below.refl _ w1).alloc (Nat.le_refl _) (.cells #[.map none] 73)
    have f2 : FT (w1.alloc (.cells #[.map none] 73)) w1.heap.size (.map none) [] := ⟨heap_alloc_new _ _, .inl ⟨rfl, rfl⟩, pos_nil⟩
    have HF := Lib.hid f2
    have HB := Lib.hid (b1.trans (hba.mono b1.size))
    clear h2 hba f2 b1
    go_wp2_with fail
    generalize w1.alloc (.cells #[.map none] 73) = w2 at *
    go_loop [5] (fun v5 => ∃ k : Nat, k ≤ l.length ∧ v5 = .int .i64 (k : Int) ∧ Hid (∀ j < k, ∀ s, l[j]? = some s → s.size ≠ 0 ∧ s.size ≤ 100)) (fun i => l.length - (intOf i).toNat)
    case atStart => exact ⟨0, by omega, rfl, Lib.hid (fun j hj => by omega)⟩
    case round =>
      obtain ⟨k, hk, rfl, HK⟩ := hrel
      have k0 : (0 : Int) ≤ (k : Int) := by omega
      by_cases hlt : k < l.length
      · have k1 : (k : Int) < (l.length : Int) := by omega
        have hx := List.getElem?_eq_getElem hlt
        have hsx := HG.out _ (List.getElem_mem hlt)
        generalize l[k] = s at hx hsx
        obtain ⟨ad, rfl, y0⟩ := Str.below HS.out HB.out k s hx
        have HX := Lib.hid hx
        by_cases he : s.size = 0
        · have hem : s.toList.isEmpty = true := (empty_iff s).2 he
          have hnb : (!s.toList.isEmpty) = false := by rw [hem]; rfl
          obtain ⟨m, q1, q2, q3, q4, q5, q6, q7⟩ := ones_ok (l := l) (by omega) k (by omega) (fun j hj s hs => (HK.out j hj s hs).1)
          have HADD := Lib.hid (ones_err hx he q1)
          clear hx he
          have hkc : (k : Int) ≤ (cap : Int) := by omega
          have htk : (l.take k).length = k := List.length_take_of_le (by omega)
          have b2d : Below w.heap.size w w2.drew := HB.out.drew
          have hall := addall_any (HF.out.below ((Below.refl _ w2).drew)) l _ cap (by simp; omega) (Str.stands HS.out b2d (fun k hk => by have := foot_new _ k hk; omega)) HG.out
          rw [HADD.out] at hall
          have HALL := Lib.hid hall
          have HB2 := Lib.hid b2d
          have Q := Lib.hid (And.intro q3 (And.intro q5 q6))
          have hml : m.length ≤ 50 := by omega
          have HG2 := Lib.hid (show ∀ s ∈ l.take k, s.size < 100000000 by
            intro s hs
            obtain ⟨j, hj, hjs⟩ := List.getElem_of_mem hs
            have hj2 : j < k := by rw [htk] at hj; exact hj
            have := (HK.out j hj2 s (by rw [List.getElem_take] at hjs; rw [← hjs]; exact List.getElem?_eq_getElem _)).2
            omega)
          clear q1 q2 q3 q4 q5 q6 q7 hall b2d
          have HTK := Lib.hid htk
          clear htk
          go_wp2_with fail
          refine (add_nil _ _ _).mono ?_
          rintro e w2 ⟨rfl, rfl⟩
          go_wp2_with fail
          refine (count_nil _ _).mono ?_
          rintro e w2 ⟨rfl, rfl⟩
          go_wp2_with fail
          refine (Freq.len_nil _).mono ?_
          rintro e w2 ⟨rfl, rfl⟩
          go_wp2_with fail
          refine (freeze_nil _).mono ?_
          rintro e w2 ⟨rfl, rfl⟩
          go_wp2_with fail
          go_region_held3 (fun _ => True) (trivial)
            (first
              | (go_at_call 42; refine HALL.out.mono ?_; rintro e w5 ⟨rfl, mv5, f5, u5⟩; have HB5 := Lib.hid (HB2.out.trans (u5.below (B := w.heap.size) HB2.out.size (fun k hk => by have := foot_new _ k hk; omega))); have HFR := Lib.hid (freeze_any f5 (by omega)); clear f5 u5)
              | (go_at_call 41; refine HFR.out.mono ?_; rintro e w6 ⟨v6, l6, rfl, r6, p6, o6, b6⟩; have HB6 := Lib.hid (HB5.out.trans (b6.mono HB5.out.size)); have HL6 := Lib.hid (show l6 = ofR [] (l.take k) from rise_uniq r6 Q.out.2.2 (p6.trans Q.out.2.1.symm)); have HO6 := Lib.hid o6; have HPL := Lib.hid p6.length_eq; have HOF := Lib.hid (of_any _ cap (l.take k) (Str.take (Str.below HS.out HB6.out) k) (by rw [HTK.out]; omega) HG2.out); rw [HTK.out] at HOF; clear r6 p6 o6 b6)
              | (go_at_call 44; refine HOF.out.mono ?_; rintro e w7 ⟨v7, rfl, o7, b7⟩; have HB7 := Lib.hid (HB6.out.trans (b7.mono HB6.out.size)); have HSM := Lib.hid (same_rows (l := ofR [] (l.take k)) (by have := RFreq.RowW.keep' HO6.out b7; rw [HL6.out] at this; exact this) o7 (by have := HPL.out; rw [HL6.out] at this; omega)); clear o7 b7)
              | (go_at_call 43; refine HSM.out.mono ?_; rintro e w8 ⟨rfl, b8⟩; have HB8 := Lib.hid (HB7.out.trans (b8.mono HB7.out.size)); clear b8))
          go_wp2_with fail
          go_ret
          exact ⟨rfl, HB8.out⟩
        · have hem : s.toList.isEmpty = false := by
            cases h1 : s.toList.isEmpty
            · rfl
            · exact absurd ((empty_iff s).1 h1) he
          have hnb : (!s.toList.isEmpty) = true := by rw [hem]; rfl
          have HE := Lib.hid he
          clear hx he
          by_cases hbig : 100 < s.size
          · have h4 : (100 : Int) < (s.size : Int) := by omega
            go_wp2_with fail
            go_ret
            exact ⟨rfl, HB.out⟩
          · have h4 : ¬ (100 : Int) < (s.size : Int) := by omega
            have h5 : s.size ≤ 100 := by omega
            have H5 := Lib.hid h5
            clear h5 hbig
            go_wp2_with fail
            go_round
            case rel =>
              refine ⟨k + 1, by omega, by go_num, Lib.hid ?_⟩
              intro j hj y hy
              by_cases e : j = k
              · subst e
                rw [HX.out] at hy
                cases hy
                exact ⟨HE.out, H5.out⟩
              · exact HK.out j (by omega) y hy
            case measure => simp [intOf]; omega
      · obtain rfl : k = l.length := by omega
        have hnl : ¬ (l.length : Int) < (l.length : Int) := by omega
        obtain ⟨m, q1, q2, q3, q4, q5, q6, q7⟩ := ones_ok (l := l) (by omega) l.length (by omega) (fun j hj s hs => (HK.out j hj s hs).1)
        have HADD := Lib.hid (show addsW [] (ones l) = (0, m) by rw [List.take_length] at q1; exact q1)
        have hkc : (l.length : Int) ≤ (cap : Int) := by omega
        have htk : (l.take l.length).length = l.length := List.length_take_of_le (by omega)
        have b2d : Below w.heap.size w w2.drew := HB.out.drew
        have hall := addall_any (HF.out.below ((Below.refl _ w2).drew)) l _ cap (by simp; omega) (Str.stands HS.out b2d (fun k hk => by have := foot_new _ k hk; omega)) HG.out
        rw [HADD.out] at hall
        have HALL := Lib.hid hall
        have HB2 := Lib.hid b2d
        have Q := Lib.hid (And.intro q3 (And.intro q5 q6))
        have hml : m.length ≤ 50 := by omega
        have HG2 := Lib.hid (show ∀ s ∈ l.take l.length, s.size < 100000000 by
          intro s hs
          obtain ⟨j, hj, hjs⟩ := List.getElem_of_mem hs
          have hj2 : j < l.length := by rw [htk] at hj; exact hj
          have := (HK.out j hj2 s (by rw [List.getElem_take] at hjs; rw [← hjs]; exact List.getElem?_eq_getElem _)).2
          omega)
        clear q1 q2 q3 q4 q5 q6 q7 hall b2d
        have HTK := Lib.hid htk
        clear htk
        go_wp2_with fail
        refine (add_nil _ _ _).mono ?_
        rintro e w2 ⟨rfl, rfl⟩
        go_wp2_with fail
        refine (count_nil _ _).mono ?_
        rintro e w2 ⟨rfl, rfl⟩
        go_wp2_with fail
        refine (Freq.len_nil _).mono ?_
        rintro e w2 ⟨rfl, rfl⟩
        go_wp2_with fail
        refine (freeze_nil _).mono ?_
        rintro e w2 ⟨rfl, rfl⟩
        go_wp2_with fail
        go_region_held3 (fun _ => True) (trivial)
          (first
            | (go_at_call 42; refine HALL.out.mono ?_; rintro e w5 ⟨rfl, mv5, f5, u5⟩; have HB5 := Lib.hid (HB2.out.trans (u5.below (B := w.heap.size) HB2.out.size (fun k hk => by have := foot_new _ k hk; omega))); have HFR := Lib.hid (freeze_any f5 (by omega)); clear f5 u5)
            | (go_at_call 41; refine HFR.out.mono ?_; rintro e w6 ⟨v6, l6, rfl, r6, p6, o6, b6⟩; have HB6 := Lib.hid (HB5.out.trans (b6.mono HB5.out.size)); have HL6 := Lib.hid (show l6 = ofR [] (l.take l.length) from rise_uniq r6 Q.out.2.2 (p6.trans Q.out.2.1.symm)); have HO6 := Lib.hid o6; have HPL := Lib.hid p6.length_eq; have HOF := Lib.hid (of_any _ cap (l.take l.length) (Str.take (Str.below HS.out HB6.out) l.length) (by rw [HTK.out]; omega) HG2.out); rw [HTK.out] at HOF; clear r6 p6 o6 b6)
            | (go_at_call 44; refine HOF.out.mono ?_; rintro e w7 ⟨v7, rfl, o7, b7⟩; have HB7 := Lib.hid (HB6.out.trans (b7.mono HB6.out.size)); have HSM := Lib.hid (same_rows (l := ofR [] (l.take l.length)) (by have := RFreq.RowW.keep' HO6.out b7; rw [HL6.out] at this; exact this) o7 (by have := HPL.out; rw [HL6.out] at this; omega)); clear o7 b7)
            | (go_at_call 43; refine HSM.out.mono ?_; rintro e w8 ⟨rfl, b8⟩; have HB8 := Lib.hid (HB7.out.trans (b8.mono HB7.out.size)); clear b8))
        go_wp2_with fail
        go_ret
        exact ⟨rfl, HB8.out⟩
theorem walk (W : World) (A : Option Addr) (cp : Nat) (l : List ByteArray) (hr : Kd.C Kd.string W A l.length l) (hc : l.length ≤ cp) (hg : ∀ s ∈ l, s.size ≤ maxLen) (hsz : l.length * 16 ≤ reachBytes) :
    Calls Try.prog 8 #[.slice A l.length cp] W fun e w' => e = .returned (.bool true) ∧ Below W.heap.size W w' :=
  law_any A cp l W (str_of hr) hc (by unfold reachBytes at hsz; unfold maxLen; omega) hg
end Go.Proofs.Ythpdamkpefgmaaa.FreqNone
