/- Layer 18: the reference: great ones, sides, a look. -/
import Derived.Test.YthinomhjhkhidaaFileWrite
namespace Go.Proofs.Ythinomhjhkhidaa.RefFile
open Go.RowKit Go.ChangeShapes Go.WideShapes Go.Deep Go.Proofs.YthinomhjhkhidaaW.PrintWords Go.Proofs.YthinomhjhkhidaaW.PrintLast Go.Proofs.YthinomhjhkhidaaW.PrintMore Base Foot Kinds FilePure
set_option linter.unusedVariables false
set_option linter.unusedSimpArgs false
attribute [local go_sem ↓] Go.wp_at_zero Go.wp_at_succ

def longM (m : Mg) : Bool := decide (300 < m.1.size) || decide (300 < m.2.size)
def greatB (l : List Mg) (most : Nat) : Bool := l.any longM || decide (most < l.length)
theorem any_step {p : Mg → Bool} {l : List Mg} {k : Nat} {m : Mg} (h : l[k]? = some m) (h1 : (l.take k).any p = false) (h2 : p m = false) : (l.take (k + 1)).any p = false := by
  obtain ⟨hk, e⟩ := List.getElem?_eq_some_iff.1 h
  rw [List.take_succ_eq_append_getElem hk, e, List.any_append, h1]
  simp [h2]
theorem any_yes {p : Mg → Bool} {l : List Mg} {k : Nat} {m : Mg} (h : l[k]? = some m) (h2 : p m = true) : l.any p = true :=
  List.any_eq_true.2 ⟨m, List.mem_of_getElem? h, h2⟩

set_option maxHeartbeats 1600000 in
set_option maxRecDepth 100000 in
theorem great_any (A : Option Addr) (cp : Nat) (l : List Mg) (most : Nat) (w : World) (hr : Kd.C kSS w A l.length l) (hl : l.length ≤ maxLen) (hm : most < 1000000) :
    Calls Try.prog 9 #[.slice A l.length cp, .int .i64 (most : Int)] w fun e w' => e = .returned (.bool (greatB l most)) ∧ w' = w := by
  unfold maxLen at hl
  go_enter Try.func9, Try.ntmps9
  go_wp2_with fail
  go_loopw [5] (fun v5 wr => ∃ (k : Nat), k ≤ l.length ∧ v5 = .int .i64 (k : Int) ∧ Hid ((l.take k).any longM = false) ∧ w = wr) (fun i _ => l.length - (intOf i).toNat)
  case atStart => exact ⟨0, by omega, rfl, (by simp : (l.take 0).any longM = false), rfl⟩
  case round =>
    obtain ⟨k, hk, rfl, hA, rfl⟩ := hrel
    by_cases hlt : k < l.length
    · have hx := List.getElem?_eq_getElem hlt
      obtain ⟨ad, e1, hx0, hx1⟩ := at_SS hr hx
      cases e1
      have hst := fun h => any_step hx hA.out h
      have hye : longM l[k] = true → l.any longM = true := fun h => any_yes hx h
      generalize l[k] = x at *
      obtain ⟨xa, xb⟩ := x
      simp only at hx0 hx1
      have HX := Lib.hid hx
      have HST := Lib.hid hst
      have HYE := Lib.hid hye
      clear hx hst hye
      by_cases h1 : 300 < xa.size
      · have hgr : greatB l most = true := by unfold greatB; rw [HYE.out (by simp [longM, h1])]; rfl
        go_wp2_with fail
        go_ret
        exact ⟨by first | rfl | (rw [hgr]; rfl), rfl⟩
      · by_cases h2 : 300 < xb.size
        · have hgr : greatB l most = true := by unfold greatB; rw [HYE.out (by simp [longM, h2])]; rfl
          go_wp2_with fail
          go_ret
          exact ⟨by first | rfl | (rw [hgr]; rfl), rfl⟩
        · have HA := Lib.hid (HST.out (by simp [longM, h1, h2]))
          go_wp2_with fail
          go_roundw
          case rel => exact ⟨k + 1, by omega, by go_num, HA, trivial⟩
          case measure => simp [intOf]; omega
    · obtain rfl : k = l.length := by omega
      have hA' := hA.out
      rw [List.take_length] at hA'
      have HGR := Lib.hid (show greatB l most = decide (most < l.length) by unfold greatB; rw [hA']; simp)
      clear hA'
      by_cases hml : most < l.length
      · go_wp2_with fail
        go_ret
        exact ⟨by rw [HGR.out]; simp [hml], rfl⟩
      · go_wp2_with fail
        go_ret
        exact ⟨by rw [HGR.out]; simp [hml], rfl⟩

set_option maxHeartbeats 1600000 in
set_option maxRecDepth 100000 in
theorem side_any (s : ByteArray) (A : Option Addr) (cp : Nat) (l : List Mg) (w : World) (hr : Kd.C kSS w A l.length l) (hg : ∀ m ∈ l, m.1.size ≤ 1000 ∧ m.2.size ≤ 1000) (hl : l.length ≤ 1000000) (hs : s.size ≤ 1000) :
    Calls Try.prog 41 #[.string s, .slice A l.length cp] w fun e w' => e = .returned (.bool (sideB s l)) ∧ ∃ n, w' = w.drewN n := by
  have HG := Lib.hid hg
  clear hg
  go_enter Try.func41, Try.ntmps41
  by_cases h1 : s.size = 1
  · have hsd : sideB s l = true := by unfold sideB; simp [h1]
    go_wp2_with fail
    go_ret
    exact ⟨by first | rfl | (rw [hsd]; rfl), 0, rfl⟩
  · have hsd : sideB s l = l.any fun m => decide (tx m = s) := by unfold sideB; simp [h1]
    have HSD := Lib.hid hsd
    clear hsd
    go_wp2_with fail
    go_loopw [5] (fun v5 wr => ∃ (k n : Nat), k ≤ l.length ∧ v5 = .int .i64 (k : Int) ∧ Hid ((l.take k).any (fun m => decide (tx m = s)) = false) ∧ wr = w.drewN n) (fun i _ => l.length - (intOf i).toNat)
    case atStart => exact ⟨0, 0, by omega, rfl, (by simp : (l.take 0).any (fun m => decide (tx m = s)) = false), rfl⟩
    case round =>
      obtain ⟨k, n, hk, rfl, hA, rfl⟩ := hrel
      by_cases hlt : k < l.length
      · have hx := List.getElem?_eq_getElem hlt
        obtain ⟨ad, e1, hx0, hx1⟩ := at_SS hr hx
        cases e1
        have hgx := HG.out _ (List.getElem_mem hlt)
        have hst := fun h => any_step hx hA.out h
        have hye : decide (tx l[k] = s) = true → l.any (fun m => decide (tx m = s)) = true := fun h => any_yes (p := fun m => decide (tx m = s)) hx h
        generalize l[k] = x at *
        obtain ⟨xa, xb⟩ := x
        simp only at hx0 hx1 hgx
        have HX := Lib.hid hx
        have HST := Lib.hid hst
        have HYE := Lib.hid hye
        clear hx hst hye
        have g1 : (9223372036854775807 < xa.size + xb.size) = False := eq_false (by omega)
        have k0 : (0 : Int) ≤ (k : Int) := by omega
        have k1 : (k : Int) < (l.length : Int) := by omega
        by_cases he : xa ++ xb = s
        · have hq : ((xa ++ xb).toList == s.toList) = true := by rw [beq_toList]; exact decide_eq_true he
          have HR := Lib.hid (HYE.out (decide_eq_true he))
          clear he
          go_wp2_with fail
          go_quiet (fail)
          go_wp2_with fail
          go_ret
          exact ⟨by rw [HSD.out, HR.out]; rfl, _, by first | rfl | exact World.drewN_drewN _ _ _⟩
        · have hq : ((xa ++ xb).toList == s.toList) = false := by rw [beq_toList]; exact decide_eq_false he
          have HA := Lib.hid (HST.out (decide_eq_false he))
          clear he
          go_wp2_with fail
          go_quiet (fail)
          go_wp2_with fail
          go_roundw
          case rel => exact ⟨k + 1, _, by omega, by go_num, HA, rfl⟩
          case measure => simp [intOf]; omega
      · obtain rfl : k = l.length := by omega
        have hA' := hA.out
        rw [List.take_length] at hA'
        have HA' := Lib.hid hA'
        clear hA'
        go_wp2_with fail
        go_ret
        exact ⟨by rw [HSD.out, HA'.out]; rfl, n, rfl⟩
theorem err_side {pre : List Mg} {m : Mg} (h : (sideB m.1 pre && sideB m.2 pre) = false) : errM pre m = 7 := by unfold errM; rw [if_pos h]
theorem err_long {pre : List Mg} {m : Mg} (ha : sideB m.1 pre = true) (hb : sideB m.2 pre = true) (h : ¬ 65536 < m.1.size + m.2.size) : errM pre m = if (pre.any fun x => decide (tx x = tx m)) = true then 8 else 0 := by
  unfold errM
  rw [if_neg (by rw [ha, hb]; decide), if_neg h]

set_option maxHeartbeats 3200000 in
set_option maxRecDepth 100000 in
theorem rcheck_any (A : Option Addr) (cp : Nat) (l : List Mg) (w : World) (hr : Kd.C kSS w A l.length l) (hc : l.length ≤ cp) (hg : ∀ m ∈ l, m.1.size ≤ 1000 ∧ m.2.size ≤ 1000) (hl : l.length ≤ 1000000) :
    Calls Try.prog 11 #[.slice A l.length cp] w fun e w' => e = .returned (.tuple #[.int .i64 (chk [] l).1, .int .i64 (chk [] l).2]) ∧ ∃ n, w' = w.drewN n := by
  obtain ⟨i0, hi, hz0, hz1, hz2⟩ := info_parts SymMerges.infoM
  have HG := Lib.hid hg
  clear hg
  go_enter Try.func11, Try.ntmps11
  go_wp2_with fail
  go_loopw [4] (fun v4 wr => ∃ (k : Nat), k ≤ l.length ∧ v4 = .int .i64 (k : Int) ∧ Hid (chk [] l = chk (l.take k) (l.drop k)) ∧ Hid (∃ n, wr = w.drewN n)) (fun i _ => l.length - (intOf i).toNat)
  case atStart => exact ⟨0, by omega, rfl, (rfl : chk [] l = chk (l.take 0) (l.drop 0)), (⟨0, rfl⟩ : ∃ n, w = w.drewN n)⟩
  case round =>
    obtain ⟨k, hk, rfl, hC, hD⟩ := hrel
    by_cases hlt : k < l.length
    · have hrw : Kd.C kSS wr A l.length l := by obtain ⟨n, e⟩ := hD.out; rw [e]; exact Kd.C_drewN hr n
      have hx := List.getElem?_eq_getElem hlt
      obtain ⟨ad, e1, hx0, hx1⟩ := at_SS hrw hx
      cases e1
      have hgx := HG.out _ (List.getElem_mem hlt)
      have hgo := fun (he : errM (l.take k) (l[k]'hlt) = 0) => chk_go hx he
      have hst := fun (he : errM (l.take k) (l[k]'hlt) ≠ 0) => chk_stop hx he
      generalize l[k] = x at *
      obtain ⟨xa, xb⟩ := x
      simp only at hx0 hx1 hgx
      have HX := Lib.hid hx
      have HGO := Lib.hid hgo
      have HST := Lib.hid hst
      clear hx hgo hst
      have htl : (l.take k).length = k := by rw [List.length_take]; omega
      have hrk := Kd.C_take (m := k) hrw (by omega)
      have hcut := cut_to (P := Try.prog) 22 70 .i64 Try.underlying22 hi (some ad) l.length cp (k : Int) (by omega) (by omega) hc
      rw [Int.toNat_natCast] at hcut
      have hs1 := fun n => side_any xa (some ad) cp (l.take k) (wr.drewN n) (Kd.C_drewN hrk n) (fun m hm => HG.out m (List.mem_of_mem_take hm)) (by rw [htl]; omega) hgx.1
      have hs2 := fun n => side_any xb (some ad) cp (l.take k) (wr.drewN n) (Kd.C_drewN hrk n) (fun m hm => HG.out m (List.mem_of_mem_take hm)) (by rw [htl]; omega) hgx.2
      rw [htl] at hs1 hs2
      have hq1 : ∀ n, Calls Try.prog 41 #[.string xa, .slice (some ad) k cp] (wr.drewN n) fun e w' => e = .returned (.bool (sideB xa (l.take k))) ∧ ∃ m, w' = wr.drewN m := fun n => (hs1 n).mono fun e w' ⟨h1, m, h2⟩ => ⟨h1, _, h2.trans (World.drewN_drewN _ _ _)⟩
      have hq2 : ∀ n, Calls Try.prog 41 #[.string xb, .slice (some ad) k cp] (wr.drewN n) fun e w' => e = .returned (.bool (sideB xb (l.take k))) ∧ ∃ m, w' = wr.drewN m := fun n => (hs2 n).mono fun e w' ⟨h1, m, h2⟩ => ⟨h1, _, h2.trans (World.drewN_drewN _ _ _)⟩
      have k0 : (0 : Int) ≤ (k : Int) := by omega
      have k1 : (k : Int) < (l.length : Int) := by omega
      have k2 : (k : Int) ≤ (l.length : Int) := by omega
      by_cases ha : sideB xa (l.take k) = true
      · rw [ha] at hq1
        by_cases hb : sideB xb (l.take k) = true
        · rw [hb] at hq2
          have HQ1 := Lib.hid hq1
          have HQ2 := Lib.hid hq2
          have hel := err_long (pre := l.take k) (m := (xa, xb)) ha hb (by simp only; omega)
          have HEL := Lib.hid hel
          clear hq1 hq2 hs1 hs2 hrk htl ha hb hel
          have hw1 : IntKind.i64.wrap ((xa.size : Int) + (xb.size : Int)) = (xa.size : Int) + (xb.size : Int) := IntWalk.i64_in _ (by omega)
          have hno : decide ((65536 : Int) < (xa.size : Int) + (xb.size : Int)) = false := decide_eq_false (by omega)
          go_wp2_with fail
          go_quiet (first | (go_at_call 41; with_reducible exact HQ1.out _) | (go_at_call 41; with_reducible exact HQ2.out _))
          go_wp2_with fail
          have hD2 : Hid (∃ n, wr.drewN nq = w.drewN n) := by obtain ⟨n, e⟩ := hD.out; exact ⟨_, by rw [e]; exact World.drewN_drewN _ _ _⟩
          have hrq : Kd.C kSS (wr.drewN nq) (some ad) l.length l := Kd.C_drewN hrw nq
          have z0 : (wr.drewN nq).cell? (ad.add (k * 2)) = some (.string xa) := hx0
          have z1 : (wr.drewN nq).cell? ⟨(ad.add (k * 2)).block, (ad.add (k * 2)).off + 1, none⟩ = some (.string xb) := hx1
          clear hx0 hx1 hrw
          generalize wr.drewN nq = wq at *
          go_quiet (fail)
          go_wp2_with fail
          have hD3 : Hid (∃ n, wq.drewN nq = w.drewN n) := by obtain ⟨n, e⟩ := hD2.out; exact ⟨_, by rw [e]; exact World.drewN_drewN _ _ _⟩
          have hrp : Kd.C kSS (wq.drewN nq) (some ad) l.length l := Kd.C_drewN hrq nq
          clear z0 z1 hrq
          generalize wq.drewN nq = wp at *
          go_loopw [5] (fun v5 ws => ∃ (j : Nat), j ≤ k ∧ v5 = .int .i64 (j : Int) ∧ Hid ((l.take j).any (fun m => decide (tx m = tx (xa, xb))) = false) ∧ Hid (∃ n, ws = w.drewN n) ∧ Kd.C kSS ws (some ad) l.length l) (fun i _ => k - (intOf i).toNat)
          case atStart => exact ⟨0, by omega, rfl, (by simp : (l.take 0).any (fun m => decide (tx m = tx (xa, xb))) = false), hD3, hrp⟩
          case round =>
            clear hrp hD3 hD2
            obtain ⟨j, hj, rfl, hN, hD4, hrs⟩ := hrel
            by_cases hjk : j < k
            · have hy := List.getElem?_eq_getElem (l := l) (i := j) (by omega)
              obtain ⟨ad2, e2, hy0, hy1⟩ := at_SS hrs hy
              cases e2
              obtain ⟨ad3, e3, hx0, hx1⟩ := at_SS hrs HX.out
              cases e3
              have hgy := HG.out _ (List.getElem_mem (l := l) (n := j) (by omega))
              have hst2 := fun h => any_step hy hN.out h
              have hye : decide (tx l[j] = tx (xa, xb)) = true → (l.take k).any (fun m => decide (tx m = tx (xa, xb))) = true := fun h => List.any_eq_true.2 ⟨_, List.mem_of_getElem? (i := j) (by rw [List.getElem?_take_of_lt hjk]; exact hy), h⟩
              generalize l[j] = y at *
              obtain ⟨ya, yb⟩ := y
              simp only at hy0 hy1 hgy hx0 hx1
              have HST2 := Lib.hid hst2
              have HYE := Lib.hid hye
              clear hst2 hye hy
              have g1 : (9223372036854775807 < ya.size + yb.size) = False := eq_false (by omega)
              have g2 : (9223372036854775807 < xa.size + xb.size) = False := eq_false (by omega)
              have j0 : (0 : Int) ≤ (j : Int) := by omega
              have j1 : (j : Int) < (l.length : Int) := by omega
              by_cases he : ya ++ yb = xa ++ xb
              · have hq : ((ya ++ yb).toList == (xa ++ xb).toList) = true := by rw [beq_toList]; exact decide_eq_true he
                have hER : errM (l.take k) (xa, xb) = 8 := by rw [HEL.out, if_pos (HYE.out (decide_eq_true he))]
                have HRES := Lib.hid (hC.out.trans (HST.out (by rw [hER]; decide)))
                rw [hER] at HRES
                clear he hER HGO HST hC HYE HST2
                go_wp2_with fail
                go_quiet (fail)
                go_wp2_with fail
                go_ret2
                exact ⟨by rw [HRES.out]; rfl, by obtain ⟨n, e⟩ := hD4.out; exact ⟨_, by rw [e]; exact World.drewN_drewN _ _ _⟩⟩
              · have hq : ((ya ++ yb).toList == (xa ++ xb).toList) = false := by rw [beq_toList]; exact decide_eq_false he
                have HN := Lib.hid (HST2.out (decide_eq_false he))
                clear he HGO HST hC HYE HST2
                go_wp2_with fail
                go_quiet (fail)
                go_wp2_with fail
                have hD5 : Hid (∃ n, wr.drewN nq = w.drewN n) := by obtain ⟨n, e⟩ := hD4.out; exact ⟨_, by rw [e]; exact World.drewN_drewN _ _ _⟩
                have hrs2 : Kd.C kSS (wr.drewN nq) (some ad) l.length l := Kd.C_drewN hrs nq
                go_roundw
                case rel => exact ⟨j + 1, by omega, by go_num, HN, hD5, hrs2⟩
                case measure => simp [intOf]; omega
            · obtain rfl : j = k := by omega
              have hE0 : errM (l.take j) (xa, xb) = 0 := by rw [HEL.out, hN.out]; rfl
              have HC2 := Lib.hid (hC.out.trans (HGO.out hE0))
              clear hE0 HGO HST hC
              go_wp2_with fail
              go_roundw
              case rel => exact ⟨j + 1, by omega, by go_num, HC2, hD4⟩
              case measure => simp [intOf]; omega
        · have hb' : sideB xb (l.take k) = false := by cases hx : sideB xb (l.take k); rfl; exact absurd hx hb
          rw [hb'] at hq2
          have he : errM (l.take k) (xa, xb) = 7 := err_side (by rw [hb']; simp)
          have HRES := Lib.hid (hC.out.trans (HST.out (by rw [he]; decide)))
          rw [he] at HRES
          have HQ1 := Lib.hid hq1
          have HQ2 := Lib.hid hq2
          clear hq1 hq2 hs1 hs2 hrk htl ha hb hb' he HGO HST hC
          go_wp2_with fail
          go_quiet (first | (go_at_call 41; with_reducible exact HQ1.out _) | (go_at_call 41; with_reducible exact HQ2.out _))
          go_wp2_with fail
          go_ret2
          exact ⟨by rw [HRES.out]; rfl, by obtain ⟨n, e⟩ := hD.out; exact ⟨_, by rw [e]; exact World.drewN_drewN _ _ _⟩⟩
      · have ha' : sideB xa (l.take k) = false := by cases hx : sideB xa (l.take k); rfl; exact absurd hx ha
        rw [ha'] at hq1
        have he : errM (l.take k) (xa, xb) = 7 := err_side (by rw [ha']; simp)
        have HRES := Lib.hid (hC.out.trans (HST.out (by rw [he]; decide)))
        rw [he] at HRES
        have HQ1 := Lib.hid hq1
        clear hq1 hq2 hs1 hs2 hrk htl ha ha' he HGO HST hC
        go_wp2_with fail
        go_quiet ((go_at_call 41; exact HQ1.out _))
        go_wp2_with fail
        go_ret2
        exact ⟨by rw [HRES.out]; rfl, by obtain ⟨n, e⟩ := hD.out; exact ⟨_, by rw [e]; exact World.drewN_drewN _ _ _⟩⟩
    · obtain rfl : k = l.length := by omega
      have HRES := Lib.hid (hC.out.trans (chk_end l))
      clear hC
      go_wp2_with fail
      go_ret2
      exact ⟨by rw [HRES.out]; rfl, hD.out⟩
end Go.Proofs.Ythinomhjhkhidaa.RefFile
