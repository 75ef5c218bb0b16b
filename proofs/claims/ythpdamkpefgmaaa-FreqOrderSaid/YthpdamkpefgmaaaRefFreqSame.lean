/- gluepotref07: Add with its errors, Of, Merge, Same, walked. -/
import Derived.Test.YthpdamkpefgmaaaRefFreqAdd
import Derived.Test.YthpdamkpefgmaaaSrc
namespace Go.Proofs.Ythpdamkpefgmaaa.RFreq
open Go.RowKit Go.Maps Go.Proofs.YthpdamkpefgmaaaW.PrintWords Go.Proofs.YthpdamkpefgmaaaW.PrintLast Go.Proofs.YthpdamkpefgmaaaW.PrintMore Base Foot ExtTail SMap FreqPure CAdd Freq Src
set_option linter.unusedVariables false
set_option linter.unusedSimpArgs false
attribute [local go_sem ↓] Go.wp_at_zero Go.wp_at_succ

set_option maxHeartbeats 1600000 in
theorem radd_bad (w : World) (A : Option Addr) (len cap : Nat) (p : ByteArray) (n : Int) (hb : p.size = 0 ∨ n < 1) :
    Calls Try.prog 48 #[.slice A len cap, .string p, .int .i64 n] w fun e w' => e = .returned (.tuple #[.slice A len cap, .int .i64 1]) ∧ w = w' := by
  cases h1 : p.toList.isEmpty
  · have h2 : n < 1 := by
      rcases hb with h0 | h0
      · rw [(empty_iff p).2 h0] at h1; cases h1
      · exact h0
    clear hb
    go_enter Try.func48, Try.ntmps48
    go_wp2_with fail
    go_ret2
    exact ⟨rfl, rfl⟩
  · clear hb
    go_enter Try.func48, Try.ntmps48
    go_wp2_with fail
    go_ret2
    exact ⟨rfl, rfl⟩
set_option maxHeartbeats 1600000 in
theorem radd_over {w : World} {B : Nat} {v : Value} {l : List Wd} (h : RowW B w v l) (hl : l.length ≤ 100000) (p : ByteArray) (n : Int) (hn : 1 ≤ n ∧ n ≤ 9223372036854775807) (hp0 : p.size ≠ 0) (hr : 0 ≤ res l p ∧ res l p ≤ 9223372036854775807) (ho : 9223372036854775807 < res l p + n) :
    Calls Try.prog 48 #[v, .string p, .int .i64 n] w fun e w' => e = .returned (.tuple #[v, .int .i64 5]) ∧ w = w' := by
  obtain ⟨A, cap, rfl⟩ := slc h
  have hc := rcount_any h (by omega) p
  have ha := fun V => CAdd.radd_any (res l p) n V (by unfold In64; omega) (by unfold In64; omega)
  rw [addS_no (by omega)] at ha
  have h1 : p.toList.isEmpty = false := by
    cases h1 : p.toList.isEmpty
    · rfl
    · exact absurd ((empty_iff p).1 h1) hp0
  have h2 : ¬ n < 1 := by omega
  obtain ⟨c, hcc⟩ : ∃ c, res l p = c := ⟨_, rfl⟩
  rw [hcc] at ha hc
  simp only at ha
  clear h hcc hr hp0 ho
  go_enter Try.func48, Try.ntmps48
  go_wp2_with fail
  refine hc.mono ?_
  rintro e w' ⟨rfl, rfl⟩
  go_wp2_with fail
  refine (ha _).mono ?_
  rintro e w'' ⟨rfl, rfl⟩
  go_wp2_with fail
  go_ret2
  exact ⟨rfl, rfl⟩
theorem radd_all {w : World} {B : Nat} {v : Value} {l : List Wd} (h : RowW B w v l) (hB : B ≤ w.heap.size) (hl : l.length ≤ 100000) (hz : ∀ x ∈ l, x.1.size < 100000000) (hpos : Pos l) (p : ByteArray) (hp : p.size < 100000000) (n : Int) (hn : In64 n) :
    Calls Try.prog 48 #[v, .string p, .int .i64 n] w fun e w' => ∃ v', e = .returned (.tuple #[v', .int .i64 (addR l p n).1]) ∧ RowW B w' v' (addR l p n).2 ∧ Below w.heap.size w w' := by
  have hr := res_bd hpos p
  unfold In64 at hn
  by_cases h1 : p.size = 0 ∨ n < 1
  · have e : addR l p n = (1, l) := by unfold addR; rw [if_pos h1]
    rw [e]
    obtain ⟨A, cap, rfl⟩ := slc h
    exact (radd_bad w A _ cap p n h1).mono fun e w' ⟨he, hw⟩ => ⟨_, he, by rw [← hw]; exact h, by rw [← hw]; exact Below.refl _ _⟩
  · by_cases h2 : res l p + n ≤ 9223372036854775807
    · have e : addR l p n = (0, insW l p (res l p + n)) := by unfold addR; rw [if_neg h1, if_pos h2]
      rw [e]
      exact (rins_any h hB hl hz p hp n (by omega) (by omega) ⟨hr.1, h2⟩).mono fun e w' ⟨v', he, h3, h4⟩ => ⟨v', he, own_low h3 hB, h4⟩
    · have e : addR l p n = (5, l) := by unfold addR; rw [if_neg h1, if_neg h2]
      rw [e]
      exact (radd_over h hl p n (by omega) (by omega) hr (by omega)).mono fun e w' ⟨he, hw⟩ => ⟨_, he, by rw [← hw]; exact h, by rw [← hw]; exact Below.refl _ _⟩

/-- the reference's words of texts -/
def ofR (r : List Wd) (l : List ByteArray) : List Wd := l.foldl (fun r s => (addR r s 1).2) r
theorem ofR_take {l : List ByteArray} {i : Nat} {s : ByteArray} (h : l[i]? = some s) (r : List Wd) : ofR r (l.take (i + 1)) = (addR (ofR r (l.take i)) s 1).2 := by
  unfold ofR
  rw [List.take_add_one, h, List.foldl_append]; rfl
theorem addR_pos {r : List Wd} (h : Pos r) (p : ByteArray) (n : Int) : Pos (addR r p n).2 := by
  have hb := res_bd h p
  unfold addR
  split
  · exact h
  · rename_i h1
    split
    · rename_i h2
      intro x hx
      exact put_pos h p ⟨by omega, h2⟩ x ((ins_perm r p _).mem_iff.1 hx)
    · exact h
theorem addR_le (r : List Wd) (p : ByteArray) (n : Int) : (addR r p n).2.length ≤ r.length + 1 := by
  unfold addR
  split
  · simp
  · split
    · rw [(ins_perm r p _).length_eq]; exact put_le _ _ _
    · simp
theorem addR_sz {r : List Wd} {p : ByteArray} {n : Int} (h : ∀ x ∈ r, x.1.size < 100000000) (hp : p.size < 100000000) : ∀ x ∈ (addR r p n).2, x.1.size < 100000000 := by
  unfold addR
  split
  · exact h
  · split
    · intro x hx
      rcases List.mem_cons.1 ((ins_perm r p _).mem_iff.1 hx) with rfl | hx
      · exact hp
      · exact h x (mem_drop hx).1
    · exact h
theorem ofR_ok {r : List Wd} (hp : Pos r) (hr : Rise r) (hz : ∀ x ∈ r, x.1.size < 100000000) : ∀ {l : List ByteArray}, (∀ s ∈ l, s.size < 100000000) → Pos (ofR r l) ∧ Rise (ofR r l) ∧ (∀ x ∈ ofR r l, x.1.size < 100000000) ∧ (ofR r l).length ≤ r.length + l.length := by
  intro l
  induction l generalizing r with
  | nil => intro _; exact ⟨hp, hr, hz, by simp [ofR]⟩
  | cons s l ih =>
    intro hs
    have := ih (addR_pos hp s 1) (addR_rise hr s 1) (addR_sz hz (hs s (by simp))) (fun x hx => hs x (List.mem_cons_of_mem _ hx))
    obtain ⟨h1, h2, h3, h4⟩ := this
    have h5 := addR_le r s 1
    exact ⟨h1, h2, h3, by simp only [List.length_cons]; exact Nat.le_trans h4 (by omega)⟩
set_option maxHeartbeats 1600000 in
set_option maxRecDepth 100000 in
theorem of_any {w : World} (A : Option Addr) (cp : Nat) (l : List ByteArray) (hsrc : Str A l w) (hl : l.length ≤ 10000) (hz : ∀ s ∈ l, s.size < 100000000) :
    Calls Try.prog 44 #[.slice A l.length cp] w fun e w' => ∃ v, e = .returned v ∧ RowW w.heap.size w' v (ofR [] l) ∧ Below w.heap.size w w' := by
  have HS := Lib.hid hsrc
  have HZ := Lib.hid hz
  clear hsrc hz
  go_enter Try.func44, Try.ntmps44
  go_wp2_with fail
  go_loopw [3, 4] (fun v3 v4 wr => ∃ (k : Nat) (ov : Value), k ≤ l.length ∧ ov = v3 ∧ v4 = .int .i64 (k : Int) ∧ Hid (RowW w.heap.size wr ov (ofR [] (l.take k))) ∧ Hid (Below w.heap.size w wr)) (fun _ i _ => l.length - (intOf i).toNat)
  case atStart => exact ⟨0, _, by omega, rfl, rfl, Lib.hid (World.ownsRow_nil _ _ _ _), Lib.hid (Below.refl _ _)⟩
  case round =>
    obtain ⟨k, ov, hk, rfl, rfl, HO, HB⟩ := hrel
    have k0 : (0 : Int) ≤ (k : Int) := by omega
    by_cases hlt : k < l.length
    · have k1 : (k : Int) < (l.length : Int) := by omega
      have hx := List.getElem?_eq_getElem hlt
      have hzx := HZ.out _ (List.getElem_mem hlt)
      generalize l[k] = s at hx hzx
      obtain ⟨ad, rfl, y0⟩ := HS.out k s hx
      replace y0 := (HB.out.cell (p := ad.add k) (World.block_lt_of_cell? w _ y0)).trans y0
      have hok := ofR_ok pos_nil (List.Pairwise.nil : Rise []) (fun _ h => by cases h) (l := l.take k) (fun x hx => HZ.out x (List.mem_of_mem_take hx))
      have hle : (ofR [] (l.take k)).length ≤ 100000 := by
        have h1 := hok.2.2.2
        simp only [List.length_nil, Nat.zero_add, List.length_take] at h1
        omega
      have hadd := radd_all HO.out HB.out.size hle hok.2.2.1 hok.1 s hzx 1 (by unfold In64; omega)
      have HX := Lib.hid hx
      have HOK := Lib.hid hok
      obtain ⟨er, her⟩ : ∃ er, addR (ofR [] (l.take k)) s 1 = er := ⟨_, rfl⟩
      rw [her] at hadd
      have HER := Lib.hid her
      obtain ⟨A3, cap3, rfl⟩ := slc HO.out
      clear hx hok her
      go_wp2_with fail
      refine hadd.mono ?_
      rintro e w5 ⟨v5, rfl, r5, b5⟩
      have HR5 := Lib.hid r5
      have HB5 := Lib.hid (HB.out.trans (b5.mono HB.out.size))
      clear hadd r5 b5
      go_wp2_with fail
      go_roundw
      case rel => exact ⟨k + 1, v5, by omega, rfl, by go_num, Lib.hid (by rw [ofR_take HX.out, HER.out]; exact HR5.out), HB5⟩
      case measure => simp [intOf]; omega
    · obtain rfl : k = l.length := by omega
      have hnl : ¬ (l.length : Int) < (l.length : Int) := by omega
      have HO2 := Lib.hid (show RowW w.heap.size wr ov (ofR [] l) by have := HO.out; rw [List.take_length] at this; exact this)
      go_wp2_with fail
      go_ret
      first
        | exact ⟨_, rfl, HO2.out, HB.out⟩
        | exact ⟨rfl, HO2.out, HB.out⟩

theorem eqWd (d : Nat) (w : World) (x0 y0 : ByteArray) (x1 y1 : Int) :
    (Op.equalIn (d + 2) tW (.agg #[.string x0, .int .i64 x1]) (.agg #[.string y0, .int .i64 y1])).run Try.prog w = .ok (x0.toList == y0.toList && (x1 == y1)) w := by
  refine eqA_of Try.underlying87 (by kernel_rfl) ?_
  refine eqf_cons (by rfl) (by go_simp; rfl) (by go_simp; rfl) (by go_simp) ?_
  exact eqf_last (by rfl) (by go_simp; rfl) (by go_simp; rfl) (by go_simp)
attribute [local go_sem high] eqWd
theorem src_w {w : World} {A : Option Addr} {l : List Wd} (h : Src w 2 A l.length (l.flatMap encW)) {k : Nat} {x : Wd} (hx : l[k]? = some x) : ∃ ad, A = some ad ∧ w.cell? (ad.add (k * 2)) = some (.string x.1) ∧ w.cell? ⟨(ad.add (k * 2)).block, (ad.add (k * 2)).off + 1, none⟩ = some (.int .i64 x.2) := by
  have hk := (List.getElem?_eq_some_iff.1 hx).1
  obtain ⟨ad, e, hc⟩ := h.2 (by omega)
  have g0 := flat_get encW 2 encW_len l k 0 (by omega)
  have g1 := flat_get encW 2 encW_len l k 1 (by omega)
  rw [hx, Option.bind_some] at g0 g1
  have ea : ad.add (k * 2 + 1) = ⟨(ad.add (k * 2)).block, (ad.add (k * 2)).off + 1, none⟩ := by
    unfold Addr.add
    rw [if_neg (by omega)]
    by_cases h0 : k * 2 = 0
    · rw [if_pos h0, h0]
    · rw [if_neg h0]; simp [Nat.add_assoc]
  refine ⟨ad, e, hc _ _ (by rw [Nat.add_zero] at g0; rw [g0]; rfl), ?_⟩
  have := hc _ _ (show (l.flatMap encW)[k * 2 + 1]? = some (.int .i64 x.2) by rw [g1]; rfl)
  rw [ea] at this
  exact this
set_option maxHeartbeats 1600000 in
set_option maxRecDepth 100000 in
theorem same_yes (A A2 : Option Addr) (cp cp2 : Nat) (l : List Wd) (w : World) (h1 : Src w 2 A l.length (l.flatMap encW)) (h2 : Src w 2 A2 l.length (l.flatMap encW)) (hl : l.length ≤ 1000000) :
    Calls Try.prog 43 #[.slice A l.length cp, .slice A2 l.length cp2] w fun e w' => e = .returned (.bool true) ∧ Below w.heap.size w w' := by
  have H1 := Lib.hid h1
  have H2 := Lib.hid h2
  clear h1 h2
  go_enter Try.func43, Try.ntmps43
  go_wp2_with fail
  go_loopw [5] (fun v5 wr => ∃ k : Nat, k ≤ l.length ∧ v5 = .int .i64 (k : Int) ∧ Below w.heap.size w wr) (fun i _ => l.length - (intOf i).toNat)
  case atStart => exact ⟨0, by omega, rfl, Below.refl _ _⟩
  case round =>
    obtain ⟨k, hk, rfl, hb⟩ := hrel
    have hk0 : (0 : Int) ≤ (k : Int) := by omega
    by_cases hlt : k < l.length
    · have hkl : (k : Int) < (l.length : Int) := by omega
      have hx := List.getElem?_eq_getElem hlt
      generalize l[k] = x at hx
      obtain ⟨x1, x2⟩ := x
      obtain ⟨a1, rfl, y0, y1⟩ := src_w (H1.out.below hb) hx
      obtain ⟨a2, rfl, z0, z1⟩ := src_w (H2.out.below hb) hx
      simp only at y0 y1 z0 z1
      clear hx
      go_wp2_with fail
      go_quiet (fail)
      go_wp2_with fail
      go_roundw
      case rel => exact ⟨k + 1, by omega, by go_num, hb.trans (bdrew _ _ _)⟩
      case measure => simp [intOf]; omega
    · obtain rfl : k = l.length := by omega
      go_wp2_with fail
      go_ret
      exact ⟨rfl, hb⟩
theorem same_rows {w : World} {B B2 : Nat} {v v2 : Value} {l : List Wd} (h1 : RowW B w v l) (h2 : RowW B2 w v2 l) (hl : l.length ≤ 1000000) :
    Calls Try.prog 43 #[v, v2] w fun e w' => e = .returned (.bool true) ∧ Below w.heap.size w w' := by
  obtain ⟨A, cap, rfl⟩ := slc h1
  obtain ⟨A2, cap2, rfl⟩ := slc h2
  exact same_yes A A2 cap cap2 l w (Src.of_own h1) (Src.of_own h2) hl
end Go.Proofs.Ythpdamkpefgmaaa.RFreq
