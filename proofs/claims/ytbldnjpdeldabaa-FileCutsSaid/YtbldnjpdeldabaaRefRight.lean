/- Layer 16: the reference: whether merges are right. -/
import Derived.Test.YtbldnjpdeldabaaRefFile
namespace Go.Proofs.Ytbldnjpdeldabaa.RefRight
open Go.RowKit Go.ChangeShapes Go.WideShapes Go.Deep Go.Proofs.YtbldnjpdeldabaaW.PrintWords Go.Proofs.YtbldnjpdeldabaaW.PrintLast Go.Proofs.YtbldnjpdeldabaaW.PrintMore Base Foot Kinds FilePure FileWrite RefFile
set_option linter.unusedVariables false
set_option linter.unusedSimpArgs false
attribute [local go_sem ↓] Go.wp_at_zero Go.wp_at_succ

theorem int_one (n : Nat) : ((n : Int) == 1) = decide (n = 1) := by
  rw [Bool.eq_iff_iff]
  simp
  omega
/-- the texts so far, as cells -/
def texts (l : List Mg) (i : Nat) : List Value := ((l.take i).map tx).map Value.string
theorem texts_get {l : List Mg} {i j : Nat} {m : Mg} (h : l[j]? = some m) (hj : j < i) : (texts l i)[j]? = some (.string (m.1 ++ m.2)) := by
  unfold texts
  rw [List.getElem?_map, List.getElem?_map, List.getElem?_take_of_lt hj, h]
  rfl
theorem texts_step {l : List Mg} {i : Nat} {m : Mg} (h : l[i]? = some m) : texts l (i + 1) = texts l i ++ [.string (m.1 ++ m.2)] := by
  obtain ⟨hk, e⟩ := List.getElem?_eq_some_iff.1 h
  unfold texts
  rw [List.take_succ_eq_append_getElem hk, e, List.map_append, List.map_append]
  rfl
theorem side_step {l : List Mg} {j : Nat} {m : Mg} {s : ByteArray} (h : l[j]? = some m) (h0 : sideB s (l.take j) = false) : sideB s (l.take (j + 1)) = decide (m.1 ++ m.2 = s) := by
  obtain ⟨hk, e⟩ := List.getElem?_eq_some_iff.1 h
  unfold sideB at *
  rw [Bool.or_eq_false_iff] at h0
  rw [List.take_succ_eq_append_getElem hk, e, List.any_append, h0.1, h0.2]
  simp only [List.any_cons, List.any_nil, Bool.or_false, Bool.false_or]
  rfl
theorem side_more {l : List Mg} {j i : Nat} {s : ByteArray} (h : sideB s (l.take j) = true) (hj : j ≤ i) : sideB s (l.take i) = true := by
  unfold sideB at *
  rw [Bool.or_eq_true] at *
  rcases h with h | h
  · exact .inl h
  · right
    rw [List.any_eq_true] at *
    obtain ⟨x, hx, hp⟩ := h
    exact ⟨x, (List.take_subset_take_left l hj) hx, hp⟩

set_option maxHeartbeats 3200000 in
set_option maxRecDepth 100000 in
theorem right_any (A : Option Addr) (cp : Nat) (l : List Mg) (w : World) (hr : Kd.C kSS w A l.length l) (hg : ∀ m ∈ l, m.1.size ≤ 1000 ∧ m.2.size ≤ 1000) (hl : l.length ≤ 100000) :
    Calls Try.prog 58 #[.slice A l.length cp] w fun e w' => e = .returned (.bool (decide ((chk [] l).2 = 0))) ∧ Below w.heap.size w w' := by
  obtain ⟨i0, hi, hz0, hz1, hz2⟩ := info_parts RefSym2.infoS
  have HG := Lib.hid hg
  clear hg
  go_enter Try.func58, Try.ntmps58
  go_wp2_with fail
  go_loopw [3, 4] (fun v3 v4 wr => ∃ (i : Nat) (v : Value), i ≤ l.length ∧ v4 = .int .i64 (i : Int) ∧ v3 = v ∧ wr.ownsRow w.heap.size 9 1 v i (texts l i) ∧ Hid (chk [] l = chk (l.take i) (l.drop i)) ∧ Below w.heap.size w wr) (fun _ i _ => l.length - (intOf i).toNat)
  case atStart => exact ⟨0, _, by omega, rfl, rfl, World.ownsRow_nil _ _ _ _, (rfl : chk [] l = chk (l.take 0) (l.drop 0)), Below.refl _ _⟩
  case round =>
    obtain ⟨i, v, hin, rfl, rfl, hrow, hC, hW⟩ := hrel
    by_cases hlt : i < l.length
    · obtain ⟨Am, capm, rfl⟩ := Bld.own_slice hrow
      have hrw : Kd.C kSS wr A l.length l := Kd.C_below hr hW
      have hx := List.getElem?_eq_getElem hlt
      obtain ⟨ad, e1, hx0, hx1⟩ := at_SS hrw hx
      cases e1
      have hgx := HG.out _ (List.getElem_mem hlt)
      have hgo := fun (he : errM (l.take i) (l[i]'hlt) = 0) => chk_go hx he
      have hst := fun (he : errM (l.take i) (l[i]'hlt) ≠ 0) => chk_stop hx he
      have hts := texts_step hx
      generalize l[i] = x at *
      obtain ⟨xa, xb⟩ := x
      simp only at hx0 hx1 hgx hts
      have HX := Lib.hid hx
      have HGO := Lib.hid hgo
      have HST := Lib.hid hst
      have HTS := Lib.hid hts
      have HRW := Lib.hid hrw
      clear hx hgo hst hts hrw
      have k0 : (0 : Int) ≤ (i : Int) := by omega
      have k1 : (i : Int) < (l.length : Int) := by omega
      go_wp2_with fail
      go_loopw [5] (fun v5 ws => ∃ (k : Nat), k ≤ 2 ∧ v5 = .int .i64 (k : Int) ∧ Hid (1 ≤ k → sideB xa (l.take i) = true) ∧ Hid (2 ≤ k → sideB xb (l.take i) = true) ∧ wr = ws) (fun k _ => 2 - (intOf k).toNat)
      case atStart => exact ⟨0, by omega, rfl, (fun h => absurd h (by decide) : 1 ≤ 0 → sideB xa (l.take i) = true), (fun h => absurd h (by decide) : 2 ≤ 0 → sideB xb (l.take i) = true), rfl⟩
      case round =>
        obtain ⟨k, hk, rfl, hS1, hS2, rfl⟩ := hrel
        by_cases hk2 : k < 2
        · match k, hk2 with
          | 0, _ =>
          go_wp2_with fail
          go_loopw [7, 8] (fun v7 v8 ws => ∃ (j : Nat) (ok : Bool), j ≤ i ∧ v8 = .int .i64 (j : Int) ∧ v7 = .bool ok ∧ Hid (ok = sideB xa (l.take j)) ∧ wr = ws) (fun _ j _ => i - (intOf j).toNat)
          case atStart => exact ⟨0, _, by omega, rfl, rfl, (by rw [int_one]; simp [sideB] : ((xa.size : Int) == 1) = sideB xa (l.take 0)), rfl⟩
          case round =>
            obtain ⟨j, ok, hj, rfl, rfl, hO, rfl⟩ := hrel
            by_cases hok : ok = true
            · subst hok
              have hsd := side_more (i := i) hO.out.symm hj
              have HSD := Lib.hid hsd
              clear hsd hO
              by_cases hjj : j < i
              · go_wp2_with fail
                go_roundw
                case rel => exact ⟨1, by omega, by go_num, (fun _ => HSD.out : 1 ≤ 1 → sideB xa (l.take i) = true), (fun h => absurd h (by decide) : 2 ≤ 1 → sideB xb (l.take i) = true), trivial⟩
                case measure => simp [intOf]
              · go_wp2_with fail
                go_roundw
                case rel => exact ⟨1, by omega, by go_num, (fun _ => HSD.out : 1 ≤ 1 → sideB xa (l.take i) = true), (fun h => absurd h (by decide) : 2 ≤ 1 → sideB xb (l.take i) = true), trivial⟩
                case measure => simp [intOf]
            · obtain rfl : ok = false := by cases ok; rfl; exact absurd rfl hok
              by_cases hji : j < i
              · have hy := List.getElem?_eq_getElem (l := l) (i := j) (by omega)
                have hgy := HG.out _ (List.getElem_mem (l := l) (n := j) (by omega))
                have hss := side_step (s := xa) hy hO.out.symm
                have htg := texts_get hy hji
                generalize l[j] = y at *
                obtain ⟨ya, yb⟩ := y
                simp only at hgy hss htg
                obtain ⟨g, rfl⟩ : ∃ g, Am = some ⟨g, 0, none⟩ := by
                  rcases hrow.2 with ⟨e, h0⟩ | ⟨g, _, _, e, _⟩
                  · omega
                  · cases e; exact ⟨g, rfl⟩
                have hcy : wr.cell? ⟨g, j, none⟩ = some (.string (ya ++ yb)) := by
                  have h := hrow.cells rfl j _ htg
                  by_cases h0 : j = 0
                  · subst h0; exact h
                  · simpa [Addr.add, h0] using h
                have j0 : (0 : Int) ≤ (j : Int) := by omega
                have j1 : (j : Int) < (i : Int) := by omega
                have HSS := Lib.hid hss
                clear hy htg hss
                by_cases he : ya ++ yb = xa
                · have hq : ((ya ++ yb).toList == xa.toList) = true := by rw [beq_toList]; exact decide_eq_true he
                  have HS := Lib.hid (show true = sideB xa (l.take (j + 1)) by rw [HSS.out, decide_eq_true he])
                  clear he
                  go_wp2_with fail
                  go_roundw
                  case rel => exact ⟨j + 1, true, by omega, by go_num, rfl, HS, trivial⟩
                  case measure => simp [intOf]; omega
                · have hq : ((ya ++ yb).toList == xa.toList) = false := by rw [beq_toList]; exact decide_eq_false he
                  have HS := Lib.hid (show false = sideB xa (l.take (j + 1)) by rw [HSS.out, decide_eq_false he])
                  clear he
                  go_wp2_with fail
                  go_roundw
                  case rel => exact ⟨j + 1, false, by omega, by go_num, rfl, HS, trivial⟩
                  case measure => simp [intOf]; omega
              · obtain rfl : j = i := by omega
                have hE : errM (l.take j) (xa, xb) = 7 := err_side (by show (sideB xa (l.take j) && sideB xb (l.take j)) = false; rw [← hO.out]; simp)
                have hres : decide ((chk [] l).2 = 0) = false := by rw [hC.out, HST.out (by rw [hE]; decide), hE]; rfl
                have HRES := Lib.hid hres
                clear hO hE hres HGO HST hC
                go_wp2_with fail
                go_ret
                exact ⟨by rw [HRES.out]; rfl, hW⟩
          | 1, _ =>
          go_wp2_with fail
          go_loopw [7, 8] (fun v7 v8 ws => ∃ (j : Nat) (ok : Bool), j ≤ i ∧ v8 = .int .i64 (j : Int) ∧ v7 = .bool ok ∧ Hid (ok = sideB xb (l.take j)) ∧ wr = ws) (fun _ j _ => i - (intOf j).toNat)
          case atStart => exact ⟨0, _, by omega, rfl, rfl, (by rw [int_one]; simp [sideB] : ((xb.size : Int) == 1) = sideB xb (l.take 0)), rfl⟩
          case round =>
            obtain ⟨j, ok, hj, rfl, rfl, hO, rfl⟩ := hrel
            by_cases hok : ok = true
            · subst hok
              have hsd := side_more (i := i) hO.out.symm hj
              have HSD := Lib.hid hsd
              clear hsd hO
              by_cases hjj : j < i
              · go_wp2_with fail
                go_roundw
                case rel => exact ⟨2, by omega, by go_num, (fun _ => hS1.out (by decide) : 1 ≤ 2 → sideB xa (l.take i) = true), (fun _ => HSD.out : 2 ≤ 2 → sideB xb (l.take i) = true), trivial⟩
                case measure => simp [intOf]
              · go_wp2_with fail
                go_roundw
                case rel => exact ⟨2, by omega, by go_num, (fun _ => hS1.out (by decide) : 1 ≤ 2 → sideB xa (l.take i) = true), (fun _ => HSD.out : 2 ≤ 2 → sideB xb (l.take i) = true), trivial⟩
                case measure => simp [intOf]
            · obtain rfl : ok = false := by cases ok; rfl; exact absurd rfl hok
              by_cases hji : j < i
              · have hy := List.getElem?_eq_getElem (l := l) (i := j) (by omega)
                have hgy := HG.out _ (List.getElem_mem (l := l) (n := j) (by omega))
                have hss := side_step (s := xb) hy hO.out.symm
                have htg := texts_get hy hji
                generalize l[j] = y at *
                obtain ⟨ya, yb⟩ := y
                simp only at hgy hss htg
                obtain ⟨g, rfl⟩ : ∃ g, Am = some ⟨g, 0, none⟩ := by
                  rcases hrow.2 with ⟨e, h0⟩ | ⟨g, _, _, e, _⟩
                  · omega
                  · cases e; exact ⟨g, rfl⟩
                have hcy : wr.cell? ⟨g, j, none⟩ = some (.string (ya ++ yb)) := by
                  have h := hrow.cells rfl j _ htg
                  by_cases h0 : j = 0
                  · subst h0; exact h
                  · simpa [Addr.add, h0] using h
                have j0 : (0 : Int) ≤ (j : Int) := by omega
                have j1 : (j : Int) < (i : Int) := by omega
                have HSS := Lib.hid hss
                clear hy htg hss
                by_cases he : ya ++ yb = xb
                · have hq : ((ya ++ yb).toList == xb.toList) = true := by rw [beq_toList]; exact decide_eq_true he
                  have HS := Lib.hid (show true = sideB xb (l.take (j + 1)) by rw [HSS.out, decide_eq_true he])
                  clear he
                  go_wp2_with fail
                  go_roundw
                  case rel => exact ⟨j + 1, true, by omega, by go_num, rfl, HS, trivial⟩
                  case measure => simp [intOf]; omega
                · have hq : ((ya ++ yb).toList == xb.toList) = false := by rw [beq_toList]; exact decide_eq_false he
                  have HS := Lib.hid (show false = sideB xb (l.take (j + 1)) by rw [HSS.out, decide_eq_false he])
                  clear he
                  go_wp2_with fail
                  go_roundw
                  case rel => exact ⟨j + 1, false, by omega, by go_num, rfl, HS, trivial⟩
                  case measure => simp [intOf]; omega
              · obtain rfl : j = i := by omega
                have hE : errM (l.take j) (xa, xb) = 7 := err_side (by show (sideB xa (l.take j) && sideB xb (l.take j)) = false; rw [← hO.out]; simp)
                have hres : decide ((chk [] l).2 = 0) = false := by rw [hC.out, HST.out (by rw [hE]; decide), hE]; rfl
                have HRES := Lib.hid hres
                clear hO hE hres HGO HST hC
                go_wp2_with fail
                go_ret
                exact ⟨by rw [HRES.out]; rfl, hW⟩
        · obtain rfl : k = 2 := by omega
          have hel := err_long (pre := l.take i) (m := (xa, xb)) (hS1.out (by decide)) (hS2.out (by decide)) (by simp only; omega)
          have HEL := Lib.hid hel
          clear hel hS1 hS2
          have g1 : (9223372036854775807 < xa.size + xb.size) = False := eq_false (by omega)
          go_wp2_with fail
          go_quiet (fail)
          have hrow2 : (wr.drewN nq).ownsRow w.heap.size 9 1 (.slice Am i capm) i (texts l i) := own_keep hrow (fun _ _ => rfl)
          have hW2 : Below w.heap.size w (wr.drewN nq) := hW.trans (bdrew _ _ _)
          clear hrow hW hx0 hx1 HRW
          generalize wr.drewN nq = wq at *
          go_wp2_with fail
          go_loopw [10] (fun v10 ws => ∃ (j : Nat), j ≤ i ∧ v10 = .int .i64 (j : Int) ∧ Hid ((l.take j).any (fun m => decide (tx m = tx (xa, xb))) = false) ∧ wq = ws) (fun j _ => i - (intOf j).toNat)
          case atStart => exact ⟨0, by omega, rfl, (by simp : (l.take 0).any (fun m => decide (tx m = tx (xa, xb))) = false), rfl⟩
          case round =>
            obtain ⟨j, hj, rfl, hN, rfl⟩ := hrel
            by_cases hji : j < i
            · have hy := List.getElem?_eq_getElem (l := l) (i := j) (by omega)
              have hst2 := fun h => any_step hy hN.out h
              have hye : decide (tx l[j] = tx (xa, xb)) = true → (l.take i).any (fun m => decide (tx m = tx (xa, xb))) = true := fun h => List.any_eq_true.2 ⟨_, List.mem_of_getElem? (i := j) (by rw [List.getElem?_take_of_lt hji]; exact hy), h⟩
              have htg := texts_get hy hji
              generalize l[j] = y at *
              obtain ⟨ya, yb⟩ := y
              simp only at htg
              obtain ⟨g, rfl⟩ : ∃ g, Am = some ⟨g, 0, none⟩ := by
                rcases hrow2.2 with ⟨e, h0⟩ | ⟨g, _, _, e, _⟩
                · omega
                · cases e; exact ⟨g, rfl⟩
              have hcy : wq.cell? ⟨g, j, none⟩ = some (.string (ya ++ yb)) := by
                have h := hrow2.cells rfl j _ htg
                by_cases h0 : j = 0
                · subst h0; exact h
                · simpa [Addr.add, h0] using h
              have j0 : (0 : Int) ≤ (j : Int) := by omega
              have j1 : (j : Int) < (i : Int) := by omega
              have HST2 := Lib.hid hst2
              have HYE := Lib.hid hye
              clear hy htg hst2 hye
              by_cases he : ya ++ yb = xa ++ xb
              · have hq : ((ya ++ yb).toList == (xa ++ xb).toList) = true := by rw [beq_toList]; exact decide_eq_true he
                have hER : errM (l.take i) (xa, xb) = 8 := by rw [HEL.out, if_pos (HYE.out (decide_eq_true he))]
                have hres : decide ((chk [] l).2 = 0) = false := by rw [hC.out, HST.out (by rw [hER]; decide), hER]; rfl
                have HRES := Lib.hid hres
                clear he hER hres HGO HST hC HYE HST2
                go_wp2_with fail
                go_ret
                exact ⟨by rw [HRES.out]; rfl, hW2⟩
              · have hq : ((ya ++ yb).toList == (xa ++ xb).toList) = false := by rw [beq_toList]; exact decide_eq_false he
                have HN := Lib.hid (HST2.out (decide_eq_false he))
                clear he HYE HST2
                go_wp2_with fail
                go_roundw
                case rel => exact ⟨j + 1, by omega, by go_num, HN, trivial⟩
                case measure => simp [intOf]; omega
            · obtain rfl : j = i := by omega
              have hE0 : errM (l.take j) (xa, xb) = 0 := by rw [HEL.out, hN.out]; rfl
              have HC2 := Lib.hid (hC.out.trans (HGO.out hE0))
              have hz := hW2.size
              clear hE0 HGO HST hC
              go_wp2_with (at_builtin; refine wpList_append_own_at _ rfl _ _ 43 rfl w.heap.size 9 i0 _ 1 16 Try.underlying43 hi hz0 hz1 hz2 rfl (by decide) _ _ _ rfl (hrow2.alloc _) ⟨wq.heap.size, 0, none⟩ 1 1 [.string (xa ++ xb)] rfl rfl (news_alloc rfl) (by simp [Value.oneCell']) (by unfold maxLen; omega) (by omega) (by simp; omega) ?_; intro v' w2 hown2 hgrow2 _ hat2)
              have hW3 : Below w.heap.size w w2 := (hW2.alloc hW2.size _).grown hgrow2 (by simp; omega) (fun q hq => (hrow2.lt q hq).1)
              go_roundw
              case rel => exact ⟨j + 1, v', by omega, by go_num, rfl, (by rw [HTS.out]; exact hown2), HC2, hW3⟩
              case measure => simp [intOf]; omega
    · obtain rfl : i = l.length := by omega
      have hres : (decide ((chk [] l).2 = 0)) = true := by rw [hC.out, chk_end]; rfl
      have HRES := Lib.hid hres
      clear hC hres
      go_wp2_with fail
      go_ret
      exact ⟨by rw [HRES.out]; rfl, hW⟩
end Go.Proofs.Ytbldnjpdeldabaa.RefRight
