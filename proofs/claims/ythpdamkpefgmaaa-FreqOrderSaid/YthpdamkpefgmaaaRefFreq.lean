/- gluepotref07: Count, Add, Of, Merge, Same, walked. -/
import Derived.Test.YthpdamkpefgmaaaFreqFreeze
import Derived.Test.YthpdamkpefgmaaaRLess
import Derived.Test.YthpdamkpefgmaaaWEqStruct
namespace Go.Proofs.Ythpdamkpefgmaaa.RFreq
open Go.RowKit Go.Maps Go.Proofs.YthpdamkpefgmaaaW.PrintWords Go.Proofs.YthpdamkpefgmaaaW.PrintLast Go.Proofs.YthpdamkpefgmaaaW.PrintMore Base Foot ExtTail SMap FreqPure CAdd Freq
set_option linter.unusedVariables false
set_option linter.unusedSimpArgs false
attribute [local go_sem ↓] Go.wp_at_zero Go.wp_at_succ
attribute [-go_sem] Instr.build
attribute [local go_sem high] buildW

theorem look_first : ∀ {m : List Wd} {k : Nat} {x : Wd} {p : ByteArray}, m[k]? = some x → (∀ j < k, ∀ y, m[j]? = some y → y.1 ≠ p) → x.1 = p → SMap.look m p = some x.2
  | [], _, _, _, hx, _, _ => by simp at hx
  | a :: t, 0, x, p, hx, _, e => by
    simp at hx
    subst hx
    rw [look_cons, if_pos e]
  | a :: t, k + 1, x, p, hx, hn, e => by
    rw [look_cons, if_neg (hn 0 (by omega) a rfl)]
    exact look_first (k := k) (by simpa using hx) (fun j hj y hy => hn (j + 1) (by omega) y (by simpa using hy)) e
theorem look_no : ∀ {m : List Wd} {p : ByteArray}, (∀ j < m.length, ∀ y, m[j]? = some y → y.1 ≠ p) → SMap.look m p = none
  | [], _, _ => rfl
  | a :: t, p, hn => by
    rw [look_cons, if_neg (hn 0 (by simp) a rfl)]
    exact look_no (fun j hj y hy => hn (j + 1) (by simp; omega) y (by simpa using hy))
theorem row_at {w : World} {B : Nat} {v : Value} {l : List Wd} (h : RowW B w v l) {k : Nat} {x : Wd} (hx : l[k]? = some x) :
    ∃ (ad : Addr) (cap : Nat), v = .slice (some ad) l.length cap ∧ l.length ≤ cap ∧ w.cell? (ad.add (k * 2)) = some (.string x.1) ∧ w.cell? ⟨(ad.add (k * 2)).block, (ad.add (k * 2)).off + 1, none⟩ = some (.int .i64 x.2) := by
  obtain ⟨ad, cap, e, hc, h0, h1⟩ := own_at encW_len h (by omega) hx
  exact ⟨ad, cap, e, hc, h0 _ rfl, h1 1 _ rfl⟩
theorem RowW.keep' {w w' : World} {B : Nat} {v : Value} {l : List Wd} (h : RowW B w v l) (hb : Below w.heap.size w w') : RowW B w' v l := own_keep h fun k hk => hb.block k (h.lt k hk).2
theorem str_eq (a b : ByteArray) : (a.toList == b.toList) = decide (a = b) := beq_toList a b
set_option maxHeartbeats 1600000 in
set_option maxRecDepth 100000 in
theorem rcount_any {w : World} {B : Nat} {v : Value} {l : List Wd} (h : RowW B w v l) (hl : l.length ≤ 1000000) (p : ByteArray) :
    Calls Try.prog 49 #[v, .string p] w fun e w' => e = .returned (.int .i64 (res l p)) ∧ w = w' := by
  obtain ⟨A, cap, rfl⟩ := slc h
  have HH := Lib.hid h
  clear h
  go_enter Try.func49, Try.ntmps49
  go_wp2_with fail
  go_loop [5] (fun v5 => ∃ k : Nat, k ≤ l.length ∧ v5 = .int .i64 (k : Int) ∧ Hid (∀ j < k, ∀ y, l[j]? = some y → y.1 ≠ p)) (fun i => l.length - (intOf i).toNat)
  case atStart => exact ⟨0, by omega, rfl, Lib.hid (fun j hj => by omega)⟩
  case round =>
    obtain ⟨k, hk, rfl, HNO⟩ := hrel
    have k0 : (0 : Int) ≤ (k : Int) := by omega
    by_cases hlt : k < l.length
    · have k1 : (k : Int) < (l.length : Int) := by omega
      have hx := List.getElem?_eq_getElem hlt
      generalize l[k] = x at hx
      obtain ⟨xs, xn⟩ := x
      obtain ⟨ad, c2, e, _, y0, y1⟩ := row_at HH.out hx
      cases e
      simp only at y0 y1
      have HX := Lib.hid hx
      have hse := str_eq xs p
      by_cases he : xs = p
      · have hd : (xs.toList == p.toList) = true := by rw [hse]; simpa using he
        have HE := Lib.hid he
        clear hx hse he
        go_wp2_with fail
        go_ret
        exact ⟨by unfold res; rw [look_first HX.out HNO.out HE.out]; rfl, rfl⟩
      · have hd : (xs.toList == p.toList) = false := by rw [hse]; simpa using he
        have HE := Lib.hid he
        clear hx hse he
        go_wp2_with fail
        go_round
        case rel =>
          refine ⟨k + 1, by omega, by go_num, Lib.hid ?_⟩
          intro j hj y hy
          by_cases e : j = k
          · subst e
            rw [HX.out] at hy
            cases hy
            exact HE.out
          · exact HNO.out j (by omega) y hy
        case measure => simp [intOf]; omega
    · obtain rfl : k = l.length := by omega
      have hnl : ¬ (l.length : Int) < (l.length : Int) := by omega
      go_wp2_with fail
      go_ret
      exact ⟨by unfold res; rw [look_no HNO.out]; rfl, rfl⟩
end Go.Proofs.Ythpdamkpefgmaaa.RFreq
