/- TableOf: the table of any texts is what the document says, and right; whether parameters are right, too. No condition. Written by gen_tableof.py. -/
import Derived.Test.YtaecngdabgnamaaFreqOnes
import Derived.Test.YtaecngdabgnamaaTOfWalk
import Derived.Test.YtaecngdabgnamaaMExt
import Derived.Lib.SmallJoins
namespace Go.Proofs.Ytaecngdabgnamaa.TableOf
open Go.RowKit Go.Maps Go.ChangeShapes Go.WideShapes Go.Deep Go.Proofs.YtaecngdabgnamaaW.PrintWords Go.Proofs.YtaecngdabgnamaaW.PrintLast Go.Proofs.YtaecngdabgnamaaW.PrintMore PTableOf Base Foot ExtTail SMap FreqPure Freq RFreq Src
set_option linter.unusedVariables false
set_option linter.unusedSimpArgs false
attribute [local go_sem ↓] Go.wp_at_zero Go.wp_at_succ

def parE (b m l : Int) : Int := if b < 0 ∨ 1048576 < b ∨ m < 1 ∨ l < 1 ∨ 65536 < l then 2 else 0
set_option maxHeartbeats 1600000 in
theorem params_any (b m l : Int) (w : World) : Calls Try.prog 32 #[.agg #[.int .i64 b, .int .i64 m, .int .i64 l]] w fun e w' => e = .returned (.int .i64 (parE b m l)) ∧ Below w.heap.size w w' := by
  by_cases h0 : b < 0
  · have HE := Lib.hid (show parE b m l = 2 by unfold parE; rw [if_pos (by omega)])
    go_enter Try.func32, Try.ntmps32
    go_wp2_with fail
    go_ret
    exact ⟨by rw [HE.out]; rfl, (Below.refl _ _).alloc (Nat.le_refl _) _⟩
  · have q0 := h0
    by_cases h1 : 1048576 < b
    · have HE := Lib.hid (show parE b m l = 2 by unfold parE; rw [if_pos (by omega)])
      go_enter Try.func32, Try.ntmps32
      go_wp2_with fail
      go_ret
      exact ⟨by rw [HE.out]; rfl, (Below.refl _ _).alloc (Nat.le_refl _) _⟩
    · have q1 := h1
      by_cases h2 : m < 1
      · have HE := Lib.hid (show parE b m l = 2 by unfold parE; rw [if_pos (by omega)])
        go_enter Try.func32, Try.ntmps32
        go_wp2_with fail
        go_ret
        exact ⟨by rw [HE.out]; rfl, (Below.refl _ _).alloc (Nat.le_refl _) _⟩
      · have q2 := h2
        by_cases h3 : l < 1
        · have HE := Lib.hid (show parE b m l = 2 by unfold parE; rw [if_pos (by omega)])
          go_enter Try.func32, Try.ntmps32
          go_wp2_with fail
          go_ret
          exact ⟨by rw [HE.out]; rfl, (Below.refl _ _).alloc (Nat.le_refl _) _⟩
        · have q3 := h3
          by_cases h4 : 65536 < l
          · have HE := Lib.hid (show parE b m l = 2 by unfold parE; rw [if_pos (by omega)])
            go_enter Try.func32, Try.ntmps32
            go_wp2_with fail
            go_ret
            exact ⟨by rw [HE.out]; rfl, (Below.refl _ _).alloc (Nat.le_refl _) _⟩
          · have HE := Lib.hid (show parE b m l = 0 by unfold parE; rw [if_neg (by omega)])
            go_enter Try.func32, Try.ntmps32
            go_wp2_with fail
            go_ret
            exact ⟨by rw [HE.out]; rfl, (Below.refl _ _).alloc (Nat.le_refl _) _⟩
set_option maxHeartbeats 1600000 in
theorem rparams_any (b m l : Int) (w : World) : Calls Try.prog 33 #[.agg #[.int .i64 b, .int .i64 m, .int .i64 l]] w fun e w' => e = .returned (.int .i64 (parE b m l)) ∧ Below w.heap.size w w' := by
  by_cases h0 : b < 0
  · have HE := Lib.hid (show parE b m l = 2 by unfold parE; rw [if_pos (by omega)])
    go_enter Try.func33, Try.ntmps33
    go_wp2_with fail
    go_ret
    exact ⟨by rw [HE.out]; rfl, (Below.refl _ _).alloc (Nat.le_refl _) _⟩
  · have q0 := h0
    by_cases h1 : 1048576 < b
    · have HE := Lib.hid (show parE b m l = 2 by unfold parE; rw [if_pos (by omega)])
      go_enter Try.func33, Try.ntmps33
      go_wp2_with fail
      go_ret
      exact ⟨by rw [HE.out]; rfl, (Below.refl _ _).alloc (Nat.le_refl _) _⟩
    · have q1 := h1
      by_cases h2 : m < 1
      · have HE := Lib.hid (show parE b m l = 2 by unfold parE; rw [if_pos (by omega)])
        go_enter Try.func33, Try.ntmps33
        go_wp2_with fail
        go_ret
        exact ⟨by rw [HE.out]; rfl, (Below.refl _ _).alloc (Nat.le_refl _) _⟩
      · have q2 := h2
        by_cases h3 : l < 1
        · have HE := Lib.hid (show parE b m l = 2 by unfold parE; rw [if_pos (by omega)])
          go_enter Try.func33, Try.ntmps33
          go_wp2_with fail
          go_ret
          exact ⟨by rw [HE.out]; rfl, (Below.refl _ _).alloc (Nat.le_refl _) _⟩
        · have q3 := h3
          by_cases h4 : 65536 < l
          · have HE := Lib.hid (show parE b m l = 2 by unfold parE; rw [if_pos (by omega)])
            go_enter Try.func33, Try.ntmps33
            go_wp2_with fail
            go_ret
            exact ⟨by rw [HE.out]; rfl, (Below.refl _ _).alloc (Nat.le_refl _) _⟩
          · have HE := Lib.hid (show parE b m l = 0 by unfold parE; rw [if_neg (by omega)])
            go_enter Try.func33, Try.ntmps33
            go_wp2_with fail
            go_ret
            exact ⟨by rw [HE.out]; rfl, (Below.refl _ _).alloc (Nat.le_refl _) _⟩

set_option maxHeartbeats 1600000 in
set_option maxRecDepth 100000 in
theorem tof_any {w : World} (A : Option Addr) (cp : Nat) (l : List ByteArray) (hsrc : Str A l w) (hl : l.length ≤ 10000) (hz : ∀ s ∈ l, SS s) :
    Calls Try.prog 34 #[.slice A l.length cp] w fun e w' => ∃ v, e = .returned (.tuple #[v, .int .i64 (addsW [] (ones l)).1]) ∧ ((addsW [] (ones l)).1 ≠ 0 → v = .slice none 0 0) ∧ ((addsW [] (ones l)).1 = 0 → ∃ L, Rise L ∧ L.Perm (addsW [] (ones l)).2 ∧ RowW w.heap.size w' v L) ∧ Below w.heap.size w w' := by
  have HS := Lib.hid hsrc
  have HZ := Lib.hid hz
  obtain ⟨r, hr⟩ : ∃ r, addsW [] (ones l) = r := ⟨_, rfl⟩
  rw [hr]
  have HR := Lib.hid hr
  clear hsrc hz hr
  go_enter Try.func34, Try.ntmps34
  go_wp2_with fail
  refine (Freq.new_any w).mono ?_
  rintro e w1 ⟨rfl, f1, b1⟩
  have hall := addall_any f1 l A cp (by simp; omega) (Str.stands HS.out b1 (foot_new _)) HZ.out
  rw [HR.out] at hall
  have HB1 := Lib.hid b1
  clear f1 b1
  go_wp2_with fail
  refine hall.mono ?_
  rintro e w2 ⟨rfl, mv2, f2, u2⟩
  have HB2 := Lib.hid (HB1.out.trans (u2.below HB1.out.size (foot_new _)))
  have HF2 := Lib.hid f2
  clear hall f2 u2
  by_cases h0 : r.1 = 0
  · have h0b : (r.1 != 0) = false := by simp [h0]
    have hle : r.2.length ≤ 900000 := by
      have := HR.out
      have h1 : ∀ (l : List Wd) (m : List Wd), (addsW m l).2.length ≤ m.length + l.length := by
        intro l
        induction l with
        | nil => intro m; simp [addsW]
        | cons x l ih =>
          intro m
          rw [addsW_cons]
          have h2 := addW_le m x.1 x.2
          split
          · have := ih (addW m x.1 x.2).2
            simp only [List.length_cons]
            exact Nat.le_trans this (by omega)
          · simp only [List.length_cons]
            exact Nat.le_trans h2 (by omega)
      have h3 := h1 (ones l) []
      rw [this] at h3
      simp [ones] at h3
      omega
    have hfr := freeze_any HF2.out hle
    have H0 := Lib.hid h0
    clear hle h0
    go_wp2_with fail
    refine hfr.mono ?_
    rintro e w3 ⟨v3, L, rfl, r3, p3, o3, b3⟩
    have HO := Lib.hid (own_low o3 HB2.out.size)
    have HP := Lib.hid (And.intro r3 p3)
    have HB3 := Lib.hid (HB2.out.trans (b3.mono HB2.out.size))
    clear r3 p3 o3 b3 hfr
    go_wp2_with fail
    go_ret2
    rw [H0.out]
    first
      | exact ⟨_, rfl, fun h => absurd rfl h, fun _ => ⟨L, HP.out.1, HP.out.2, HO.out⟩, HB3.out⟩
      | exact ⟨rfl, fun h => absurd rfl h, fun _ => ⟨L, HP.out.1, HP.out.2, HO.out⟩, HB3.out⟩
  · have h0b : (r.1 != 0) = true := by simp [h0]
    have H0 := Lib.hid h0
    clear h0
    go_wp2_with fail
    go_ret2
    first
      | exact ⟨_, rfl, fun _ => rfl, fun h => absurd h H0.out, HB2.out⟩
      | exact ⟨rfl, fun h => absurd h H0.out, HB2.out⟩
      | exact ⟨rfl, fun _ => rfl, fun h => absurd h H0.out, HB2.out⟩

/-! ### a table of words that rise is right -/
abbrev toS (l : List Wd) : List S109 := l.map fun x => ⟨x.1, x.2⟩
theorem toS_at {l : List Wd} {j : Nat} {x : S109} (h : (toS l)[j]? = some x) : l[j]? = some (x.f0, x.f1) := by
  rw [List.getElem?_map] at h
  cases hx : l[j]? with
  | none => rw [hx] at h; cases h
  | some y => rw [hx] at h; cases h; rfl
theorem kd_of {w : World} {A : Option Addr} {l : List Wd} (h : Src w 2 A l.length (l.flatMap encW)) (hl : l.length ≤ 9223372036854775807) : Kd.C k109 w A (toS l).length (toS l) := by
  refine ⟨rfl, by simpa using hl, fun hn => ?_⟩
  obtain ⟨ad, e, hc⟩ := h.2 (by simpa using hn)
  refine ⟨ad, e, fun j p hp => ⟨[.string p.f0, .int .i64 p.f1], rfl, k109_mk w p, fun i u hu => ?_⟩⟩
  have hi : i < 2 := by have := (List.getElem?_eq_some_iff.1 hu).1; simpa using this
  refine hc _ _ ?_
  have := flat_get encW 2 encW_len l j i hi
  rw [toS_at hp, Option.bind_some] at this
  show (l.flatMap encW)[j * 2 + i]? = some u
  rw [this]
  exact hu
theorem first_no : ∀ (l : List Wd) (a : ByteArray) (k : Nat), (∀ x ∈ l, x.1.size ≠ 0 ∧ x.1.size ≤ 100 ∧ 1 ≤ x.2) → Rise l → (∀ x, l.head? = some x → bl a x.1 = true) → TableMath.firstWrong a k (toS l) = none
  | [], _, _, _, _, _ => rfl
  | x :: t, a, k, h, hr, ha => by
    obtain ⟨h1, h2, h3⟩ := h x (by simp)
    have hax := ha x rfl
    unfold Rise at hr
    rw [List.pairwise_cons] at hr
    have hw : TableA.wrongS a x.1 x.2 = 0 := by
      unfold TableA.wrongS
      have e1 : x.1.toList.isEmpty = false := by
        cases e : x.1.toList.isEmpty
        · rfl
        · exact absurd ((empty_iff _).1 e) h1
      rw [if_neg (by rw [e1]; simp; omega), if_neg (by omega), if_neg]
      intro hc
      have := less_yes hax
      rw [this] at hc
      cases hc
    show TableMath.firstWrong a k (⟨x.1, x.2⟩ :: toS t) = none
    unfold TableMath.firstWrong
    rw [if_pos hw]
    exact first_no t x.1 (k + 1) (fun y hy => h y (List.mem_cons_of_mem _ hy)) hr.2 (fun y hy => hr.1 y (List.mem_of_mem_head? hy))
theorem inter_ok : ∀ (l : List (Int × Int)) (acc : Int), 0 ≤ acc → (∀ x ∈ l, 0 ≤ x.1 ∧ x.1 ≤ 1000 ∧ 0 ≤ x.2 ∧ x.2 ≤ 1000) → acc + l.length * 1000000 ≤ 9223372036854775807 → (TableMath.interS l acc).2 = true
  | [], _, _, _, _ => rfl
  | (a, b) :: r, acc, h0, h, hb => by
    obtain ⟨h1, h2, h3, h4⟩ := h (a, b) (by simp)
    simp only at h1 h2 h3 h4
    have hp : 0 ≤ a * b := Int.mul_nonneg h1 h3
    have hq : a * b ≤ 1000 * 1000 := Int.mul_le_mul h2 h4 h3 (by omega)
    simp only [List.length_cons] at hb
    have em : TableA.mulS a b = (a * b, true) := by unfold TableA.mulS; rw [if_pos ⟨h1, h3, by omega⟩]
    have ea : TableMath.addS acc (a * b) = (acc + a * b, true) := by unfold TableMath.addS; rw [if_pos ⟨h0, hp, by omega⟩]
    unfold TableMath.interS
    rw [em]
    simp only [if_true]
    rw [ea]
    simp only [if_true]
    exact inter_ok r (acc + a * b) (by omega) (fun x hx => h x (List.mem_cons_of_mem _ hx)) (by omega)
theorem check_ok {l : List Wd} (h : ∀ x ∈ l, x.1.size ≠ 0 ∧ x.1.size ≤ 100 ∧ 1 ≤ x.2 ∧ x.2 ≤ 1000) (hr : Rise l) (hl : l.length ≤ 1000) : TableMath.checkS (toS l) = (-1, 0) := by
  unfold TableMath.checkS
  rw [first_no l ⟨#[]⟩ 0 (fun x hx => ⟨(h x hx).1, (h x hx).2.1, (h x hx).2.2.1⟩) hr (fun x hx => by
    have := (h x (List.mem_of_mem_head? hx)).1
    rw [bl_lt']
    simp only [decide_eq_true_eq]
    have e : (⟨#[]⟩ : ByteArray).toList = [] := by rw [ByteArray.toList_eq]
    rw [e]
    cases hc : x.1.toList with
    | nil => exact absurd ((empty_iff x.1).1 (by rw [hc]; rfl)) this
    | cons a t => exact List.nil_lt_cons a t)]
  simp only
  rw [if_pos]
  unfold TableMath.weightS
  refine inter_ok _ 0 (by omega) (fun x hx => ?_) (by simp [TableMath.pairsOf]; omega)
  unfold TableMath.pairsOf at hx
  obtain ⟨y, hy, rfl⟩ := List.mem_map.1 hx
  obtain ⟨z, hz, rfl⟩ := List.mem_map.1 hy
  obtain ⟨g1, g2, g3, g4⟩ := h z hz
  simp only [TableMath.lenOf]
  unfold mx
  split <;> omega
set_option maxHeartbeats 6400000 in
set_option maxRecDepth 100000 in
theorem law_any (A : Option Addr) (cap : Nat) (l : List ByteArray) (b m li : Int) (w : World) (hstr : Str A l w) (hc : l.length ≤ cap) (hl : l.length ≤ maxLen) (hg : ∀ s ∈ l, s.size ≤ maxLen) :
    Calls Try.prog 10 #[.slice A l.length cap, .agg #[.int .i64 b, .int .i64 m, .int .i64 li]] w fun e w' => e = .returned (.bool true) ∧ Below w.heap.size w w' := by
  have hlm : l.length ≤ 9223372036854775807 := by unfold maxLen at hl; omega
  have hba := (Below.refl _ w).alloc (Nat.le_refl _) (.cells #[.int .i64 b, .int .i64 m, .int .i64 li] 73)
  have hxa := heap_alloc_new w (.cells #[.int .i64 b, .int .i64 m, .int .i64 li] 73)
  have HBA := Lib.hid hba
  have HXA := Lib.hid hxa
  have HG := Lib.hid hg
  have HS := Lib.hid hstr
  clear hg hstr hl hba hxa
  go_enter Try.func10, Try.ntmps10
  go_wp2_with fail
  refine (TableWalk.awake_any _).mono ?_
  rintro e w1 ⟨rfl, b1⟩
  have HB1 := Lib.hid (HBA.out.trans (b1.mono HBA.out.size))
  have hx1 := (b1.block _ (block_lt HXA.out)).trans HXA.out
  have c0 := cell_at hx1 0
  have c1 := cell_at hx1 1
  have c2 := cell_at hx1 2
  simp only [List.getElem?_toArray, List.getElem?_cons_zero, List.getElem?_cons_succ] at c0 c1 c2
  have g0 := fun g => Ext.cell (u := .int .i64 b) c0 g
  have g1 := fun g => Ext.cell (u := .int .i64 m) c1 g
  have g2 := fun g => Ext.cell (u := .int .i64 li) c2 g
  clear b1 hx1 HXA
  by_cases h2 : 100 < l.length
  · have h3 : decide ((100 : Int) < (l.length : Int)) = true := by simp; omega
    clear h2
    go_wp2_with fail
    refine wp_region_ext (by kernel_rfl) (by kernel_rfl) ?_
    repeat (quiet_step (first | (go_at_call 32; exact ext_of (params_any _ _ _ _)) | (go_at_call 33; exact ext_of (rparams_any _ _ _ _))))
    refine wpQuiet_nil ?_
    rintro w3 ⟨⟨_, b3⟩, rfl⟩
    go_wp2_with fail
    go_ret
    exact ⟨rfl, HB1.out.trans (b3.mono HB1.out.size)⟩
  · have h3 : decide ((100 : Int) < (l.length : Int)) = false := by simp; omega
    have hl100 : l.length ≤ 100 := by omega
    clear h2
    go_wp2_with fail
    refine wp_region_ext (by kernel_rfl) (by kernel_rfl) ?_
    repeat (quiet_step (first | (go_at_call 32; exact ext_of (params_any _ _ _ _)) | (go_at_call 33; exact ext_of (rparams_any _ _ _ _))))
    refine wpQuiet_nil ?_
    rintro w3 ⟨⟨w4, b3⟩, he⟩
    have he2 : w3 = w4 := he
    subst he2
    have HB3 := Lib.hid (HB1.out.trans (b3.mono HB1.out.size))
    clear he b3 g0 g1 g2 c0 c1 c2
    go_wp2_with fail
    go_loop [5] (fun v5 => ∃ k : Nat, k ≤ l.length ∧ v5 = .int .i64 (k : Int) ∧ Hid (∀ j < k, ∀ s, l[j]? = some s → s.size ≤ 100)) (fun i => l.length - (intOf i).toNat)
    case atStart => exact ⟨0, by omega, rfl, Lib.hid (fun j hj => by omega)⟩
    case round =>
      obtain ⟨k, hk, rfl, HK⟩ := hrel
      have k0 : (0 : Int) ≤ (k : Int) := by omega
      by_cases hlt : k < l.length
      · have k1 : (k : Int) < (l.length : Int) := by omega
        have hx := List.getElem?_eq_getElem hlt
        generalize l[k] = s at hx
        obtain ⟨ad, rfl, y0⟩ := Str.below HS.out HB3.out k s hx
        have HX := Lib.hid hx
        clear hx
        by_cases hbig : 100 < s.size
        · have h4 : (100 : Int) < (s.size : Int) := by omega
          go_wp2_with fail
          go_ret
          exact ⟨rfl, HB3.out⟩
        · have h4 : ¬ (100 : Int) < (s.size : Int) := by omega
          have H5 := Lib.hid (show s.size ≤ 100 by omega)
          clear hbig
          go_wp2_with fail
          go_round
          case rel =>
            refine ⟨k + 1, by omega, by go_num, Lib.hid ?_⟩
            intro j hj y hy
            by_cases e : j = k
            · subst e
              rw [HX.out] at hy
              cases hy
              exact H5.out
            · exact HK.out j (by omega) y hy
          case measure => simp [intOf]; omega
      · obtain rfl : k = l.length := by omega
        have hnl : ¬ (l.length : Int) < (l.length : Int) := by omega
        have hall100 : ∀ s ∈ l, s.size ≤ 100 := by
          intro s hs
          obtain ⟨j, hj, hjs⟩ := List.getElem_of_mem hs
          exact HK.out j hj s (by rw [← hjs]; exact List.getElem?_eq_getElem _)
        have H100 := Lib.hid hall100
        have hof := tof_any A cap l (Str.below HS.out HB3.out) (by omega) HG.out
        obtain ⟨r, hr⟩ : ∃ r, addsW [] (ones l) = r := ⟨_, rfl⟩
        rw [hr] at hof
        have HR := Lib.hid hr
        clear hall100 hr
        go_wp2_with fail
        refine hof.mono ?_
        rintro e w4 ⟨v4, rfl, n4, y4, b4⟩
        have HN4 := Lib.hid n4
        have HY4 := Lib.hid y4
        have HB4 := Lib.hid (HB3.out.trans (b4.mono HB3.out.size))
        clear n4 y4 b4 hof
        go_wp2_with fail
        go_loop [8] (fun v8 => ∃ k : Nat, k ≤ l.length ∧ v8 = .int .i64 (k : Int) ∧ Hid (∀ j < k, ∀ s, l[j]? = some s → s.size ≠ 0)) (fun i => l.length - (intOf i).toNat)
        case atStart => exact ⟨0, by omega, rfl, Lib.hid (fun j hj => by omega)⟩
        case round =>
          obtain ⟨k, hk, rfl, HK2⟩ := hrel
          have k0 : (0 : Int) ≤ (k : Int) := by omega
          by_cases hlt : k < l.length
          · have k1 : (k : Int) < (l.length : Int) := by omega
            have hx := List.getElem?_eq_getElem hlt
            generalize l[k] = s at hx
            obtain ⟨ad, rfl, y0⟩ := Str.below HS.out HB4.out k s hx
            have HX := Lib.hid hx
            by_cases he : s.size = 0
            · have hem : s.toList.isEmpty = true := (empty_iff s).2 he
              obtain ⟨m', q1, _⟩ := ones_ok (l := l) (by omega) k (by omega) (fun j hj s hs => HK2.out j hj s hs)
              have herr := ones_err hx he q1
              rw [HR.out] at herr
              subst herr
              have hv := HN4.out (by exact (by decide : (1 : Int) ≠ 0))
              subst hv
              clear hx he q1
              go_wp2_with fail
              go_ret
              exact ⟨rfl, HB4.out⟩
            · have hem : s.toList.isEmpty = false := by
                cases h1 : s.toList.isEmpty
                · rfl
                · exact absurd ((empty_iff s).1 h1) he
              have HE := Lib.hid he
              clear hx he
              go_wp2_with fail
              go_round
              case rel =>
                refine ⟨k + 1, by omega, by go_num, Lib.hid ?_⟩
                intro j hj y hy
                by_cases e : j = k
                · subst e
                  rw [HX.out] at hy
                  cases hy
                  exact HE.out
                · exact HK2.out j (by omega) y hy
              case measure => simp [intOf]; omega
          · obtain rfl : k = l.length := by omega
            obtain ⟨m', q1, q2, q3, q4, q5, q6, q7⟩ := ones_ok (l := l) (by omega) l.length (by omega) (fun j hj s hs => HK2.out j hj s hs)
            rw [List.take_length] at q1 q5 q6
            rw [HR.out] at q1
            subst q1
            obtain ⟨L, r1, r2, r3⟩ := HY4.out rfl
            replace r2 : L.Perm m' := r2
            have hLo : L = ofR [] l := rise_uniq r1 q6 (r2.trans q5.symm)
            have hLm : ∀ x ∈ L, x.1.size ≠ 0 ∧ x.1.size ≤ 100 ∧ 1 ≤ x.2 ∧ x.2 ≤ 1000 := by
              intro x hx
              have hxm : x ∈ m' := r2.mem_iff.1 hx
              have h1 := q4 x hxm
              have h2 := q2 x.1
              unfold FreqPure.res at h2
              rw [mem_look q3 hxm] at h2
              simp only [Option.getD_some] at h2
              have hsz : ∃ s ∈ l, s = x.1 := by
                have e := adds_yes (l := ones l) (m' := m') nd_nil pos_nil HR.out
                have h3 := e.2.1 x.1
                unfold FreqPure.res at h3
                rw [mem_look q3 hxm, SMap.look_nil] at h3
                simp only [Option.getD_some, Option.getD_none, Int.zero_add] at h3
                refine Classical.byContradiction fun hn => ?_
                have h4 : tot (ones l) x.1 = 0 := by
                  unfold tot ones
                  rw [List.filter_eq_nil_iff.2]
                  · rfl
                  · intro a ha hc
                    obtain ⟨s, hs, rfl⟩ := List.mem_map.1 ha
                    exact hn ⟨s, hs, by simpa using hc⟩
                omega
              obtain ⟨s, hs, hse⟩ := hsz
              have hs100 := H100.out s hs
              obtain ⟨j, hj, hjs⟩ := List.getElem_of_mem hs
              have hs0 := HK2.out j hj s (by rw [← hjs]; exact List.getElem?_eq_getElem _)
              rw [hse] at hs0 hs100
              exact ⟨hs0, hs100, h1.1, by omega⟩
            have hLl : L.length ≤ 100 := by have := r2.length_eq; omega
            have hck := check_ok hLm r1 (by omega)
            obtain ⟨A5, cap5, rfl⟩ := slc r3
            have hlc : (toS L).length ≤ cap5 := by
              rcases r3.2 with ⟨e, h0⟩ | ⟨g, cap, cur, e, _, _, hcc, _⟩
              · simp [h0]
              · cases e; simpa using hcc
            have hchk := TableWalk.check_any A5 cap5 (toS L) w4 (kd_of (Src.of_own r3) (by omega)) hlc (fun x hx => by
              obtain ⟨y, hy, rfl⟩ := List.mem_map.1 hx
              have := hLm y hy
              exact ⟨by unfold In64; simp only; omega, by simp only; omega⟩) (by simp; omega)
            rw [hck] at hchk
            have hsl : (toS L).length = L.length := by simp
            rw [hsl] at hchk
            have HO := Lib.hid r3
            have HLO := Lib.hid hLo
            have hL100 : L.length ≤ 100 := hLl
            clear q2 q3 q4 q5 q6 q7 r1 r2 r3 hLo hLm hLl hck hlc hsl
            go_wp2_with fail
            refine hchk.mono ?_
            rintro e w5 ⟨rfl, b5⟩
            have HB5 := Lib.hid (HB4.out.trans (b5.mono HB4.out.size))
            have HO5 := Lib.hid (RFreq.RowW.keep' HO.out b5)
            have hof := RFreq.of_any A cap l (Str.below HS.out HB5.out) (by omega) (fun s hs => by have := H100.out s hs; omega)
            clear hchk b5
            go_wp2_with fail
            refine hof.mono ?_
            rintro e w6 ⟨v6, rfl, o6, b6⟩
            have hsm := same_rows (RFreq.RowW.keep' HO5.out b6) (by rw [HLO.out]; exact o6) (by omega)
            have HB6 := Lib.hid (HB5.out.trans (b6.mono HB5.out.size))
            clear hof o6 b6
            go_wp2_with fail
            refine hsm.mono ?_
            rintro e w7 ⟨rfl, b7⟩
            have HB7 := Lib.hid (HB6.out.trans (b7.mono HB6.out.size))
            clear hsm b7
            go_wp2_with fail
            go_ret
            exact ⟨rfl, HB7.out⟩
theorem walk (W : World) (A : Option Addr) (cp : Nat) (l : List ByteArray) (hr : Kd.C Kd.string W A l.length l) (hc : l.length ≤ cp) (hg : ∀ s ∈ l, s.size ≤ maxLen) (hsz : l.length * 16 ≤ reachBytes) (x : Int × Int × Int) (hx : In64 x.1 ∧ In64 x.2.1 ∧ In64 x.2.2) :
    Calls Try.prog 10 #[.slice A l.length cp, .agg #[.int .i64 x.1, .int .i64 x.2.1, .int .i64 x.2.2]] W fun e w' => e = .returned (.bool true) ∧ Below W.heap.size W w' :=
  law_any A cp l x.1 x.2.1 x.2.2 W (str_of hr) hc (by unfold reachBytes at hsz; unfold maxLen; omega) hg
section
variable {H : Type} {enc' : TypeId × Value → H} {w : World} {base : Nat} {spare : Nat → Bool} {held : Bool}
set_option maxRecDepth 100000 in
theorem agg_Params {r : Reach} {b0 : Nat} {v : Value} {d : DataW H} {p : List MemPlace} (hv : Value.okWide Try.prog w r b0 73 v) (h : DataW.Trod enc' Try.prog w base spare held 73 v d p) :
    ∃ x : Int × Int × Int, v = .agg #[.int .i64 x.1, .int .i64 x.2.1, .int .i64 x.2.2] ∧ (In64 x.1 ∧ In64 x.2.1 ∧ In64 x.2.2) := by
  obtain ⟨v0, v1, v2, y0, y1, y2, n, rfl, _, _, h0, h1, h2⟩ := Joins.open_agg3 Try.underlying73 (by kernel_rfl) (by kernel_rfl) hv h
  obtain ⟨k0, e0, _, w0⟩ := DataW.trod_int Try.underlying3 h0
  obtain ⟨k1, e1, _, w1⟩ := DataW.trod_int Try.underlying3 h1
  obtain ⟨k2, e2, _, w2⟩ := DataW.trod_int Try.underlying3 h2
  cases e0
  cases e1
  cases e2
  exact ⟨(k0, k1, k2), rfl, OpenArg.wf_in w0, OpenArg.wf_in w1, OpenArg.wf_in w2⟩
end
end Go.Proofs.Ytaecngdabgnamaa.TableOf
