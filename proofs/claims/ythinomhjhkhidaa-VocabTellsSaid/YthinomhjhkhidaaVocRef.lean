/- Layer 21: the reference: made, Has, Depth, Uses, walked. -/
import Derived.Test.YthinomhjhkhidaaVocLaw
namespace Go.Proofs.Ythinomhjhkhidaa.Voc
open Go.RowKit Go.Maps Go.ChangeShapes Go.WideShapes Go.Deep Go.Proofs.YthinomhjhkhidaaW.PrintWords Go.Proofs.YthinomhjhkhidaaW.PrintLast Go.Proofs.YthinomhjhkhidaaW.PrintMore Base Foot ExtTail SymPure Kinds FilePure FileJoin SMap Src FileLaw RefFile
set_option linter.unusedVariables false
set_option linter.unusedSimpArgs false
attribute [local go_sem ↓] Go.wp_at_zero Go.wp_at_succ
attribute [local go_sem] max2_int min2_int max_two min_two

/-- which merge makes a text -/
def madeN (l : List Mg) (s : ByteArray) : Option Nat := l.findIdx? fun m => decide (tx m = s)
def madeV (l : List Mg) (s : ByteArray) : Int := match madeN l s with
  | none => -1
  | some i => (i : Int)
theorem made_hit {l : List Mg} {s : ByteArray} {k : Nat} {m : Mg} (h : (l.take k).any (fun m => decide (tx m = s)) = false) (hx : l[k]? = some m) (he : tx m = s) : madeN l s = some k := by
  obtain ⟨hk, e⟩ := List.getElem?_eq_some_iff.1 hx
  unfold madeN
  rw [List.findIdx?_eq_some_iff_getElem]
  refine ⟨hk, by rw [e]; exact decide_eq_true he, fun j hj => ?_⟩
  have h1 := List.any_eq_false.1 h l[j] (by
    rw [List.mem_take_iff_getElem]
    exact ⟨j, by omega, rfl⟩)
  simpa using h1
theorem made_none {l : List Mg} {s : ByteArray} (h : l.any (fun m => decide (tx m = s)) = false) : madeN l s = none := by
  unfold madeN
  rw [List.findIdx?_eq_none_iff]
  intro m hm
  have := List.any_eq_false.1 h m hm
  simpa using this
theorem made_some {l : List Mg} {s : ByteArray} {k : Nat} (h : madeN l s = some k) : ∃ m, l[k]? = some m ∧ tx m = s ∧ (l.take k).any (fun m => decide (tx m = s)) = false := by
  unfold madeN at h
  rw [List.findIdx?_eq_some_iff_getElem] at h
  obtain ⟨h1, h2, h3⟩ := h
  refine ⟨l[k], List.getElem?_eq_getElem h1, of_decide_eq_true h2, ?_⟩
  rw [List.any_eq_false]
  intro m hm
  rw [List.mem_take_iff_getElem] at hm
  obtain ⟨j, hj, e⟩ := hm
  have := h3 j (by omega)
  rw [← e]
  simpa using this
theorem made_any_iff (l : List Mg) (s : ByteArray) : (madeN l s).isSome = l.any fun m => decide (tx m = s) := by
  unfold madeN
  rw [Bool.eq_iff_iff, List.findIdx?_isSome]
set_option maxHeartbeats 1600000 in
set_option maxRecDepth 100000 in
theorem made_any (s : ByteArray) (A : Option Addr) (cp : Nat) (l : List Mg) (w : World) (hr : Kd.C kSS w A l.length l) (hg : ∀ m ∈ l, m.1.size ≤ 1000 ∧ m.2.size ≤ 1000) (hl : l.length ≤ 1000000) :
    Calls Try.prog 42 #[.slice A l.length cp, .string s] w fun e w' => e = .returned (.int .i64 (madeV l s)) ∧ ∃ n, w' = w.drewN n := by
  have HG := Lib.hid hg
  clear hg
  go_enter Try.func42, Try.ntmps42
  go_wp2_with fail
  go_loopw [5] (fun v5 wr => ∃ (k n : Nat), k ≤ l.length ∧ v5 = .int .i64 (k : Int) ∧ Hid ((l.take k).any (fun m => decide (tx m = s)) = false) ∧ wr = w.drewN n) (fun i _ => l.length - (intOf i).toNat)
  case atStart => exact ⟨0, 0, by omega, rfl, (by simp : (l.take 0).any (fun m => decide (tx m = s)) = false), rfl⟩
  case round =>
    obtain ⟨k, n, hk, rfl, hA, rfl⟩ := hrel
    by_cases hlt : k < l.length
    · have hx := List.getElem?_eq_getElem hlt
      obtain ⟨ad, e1, hx0, hx1⟩ := at_SS hr hx
      cases e1
      have hgx := HG.out _ (List.getElem_mem hlt)
      have hst := fun h => any_step hx hA.out h
      have hye := fun h => made_hit hA.out hx h
      generalize l[k] = x at *
      obtain ⟨xa, xb⟩ := x
      simp only at hx0 hx1 hgx
      have HST := Lib.hid hst
      have HYE := Lib.hid hye
      clear hx hst hye
      have g1 : (9223372036854775807 < xa.size + xb.size) = False := eq_false (by omega)
      have k0 : (0 : Int) ≤ (k : Int) := by omega
      have k1 : (k : Int) < (l.length : Int) := by omega
      by_cases he : xa ++ xb = s
      · have hq : ((xa ++ xb).toList == s.toList) = true := by rw [beq_toList]; exact decide_eq_true he
        have HR := Lib.hid (HYE.out he)
        clear he
        go_wp2_with fail
        go_quiet (fail)
        go_wp2_with fail
        go_ret
        exact ⟨by unfold madeV; rw [HR.out]; rfl, _, by first | rfl | exact World.drewN_drewN _ _ _⟩
      · have hq : ((xa ++ xb).toList == s.toList) = false := by rw [beq_toList]; exact decide_eq_false he
        have HA := Lib.hid (HST.out (decide_eq_false he))
        clear he
        go_wp2_with fail
        go_quiet (fail)
        go_wp2_with fail
        go_roundw
        case rel => exact ⟨k + 1, _, by omega, by go_num, HA, rfl⟩
        case measure => simp [intOf]; omega
    · obtain rfl : k = l.length := by omega
      have hnl : ¬ (l.length : Int) < (l.length : Int) := by omega
      have hA' := hA.out
      rw [List.take_length] at hA'
      have HA' := Lib.hid (made_none hA')
      clear hA'
      go_wp2_with fail
      go_ret
      exact ⟨by unfold madeV; rw [HA'.out]; rfl, n, rfl⟩
theorem has_made (l : List Mg) (s : ByteArray) (h1 : ¬ s.size = 1) : decide (0 ≤ madeV l s) = sideB s l := by
  unfold sideB
  rw [← made_any_iff l s]
  unfold madeV
  cases hm : madeN l s with
  | none => simp [h1]
  | some i => simp
set_option maxHeartbeats 800000 in
theorem rhas_any (s : ByteArray) (A : Option Addr) (cp : Nat) (l : List Mg) (w : World) (hr : Kd.C kSS w A l.length l) (hg : ∀ m ∈ l, m.1.size ≤ 1000 ∧ m.2.size ≤ 1000) (hl : l.length ≤ 1000000) :
    Calls Try.prog 13 #[.slice A l.length cp, .string s] w fun e w' => e = .returned (.bool (sideB s l)) ∧ ∃ n, w' = w.drewN n := by
  by_cases h1 : s.size = 1
  · have hi1 : ((s.size : Nat) : Int) = 1 := by omega
    have hsd : sideB s l = true := by unfold sideB; simp [h1]
    clear hr hg
    go_enter Try.func13, Try.ntmps13
    go_wp2_with fail
    go_ret
    exact ⟨by first | rfl | (rw [hsd]; rfl), 0, rfl⟩
  · have hi1 : ¬ ((s.size : Nat) : Int) = 1 := by omega
    have hb1 : (((s.size : Nat) : Int) == 1) = false := by simpa using hi1
    have hm := made_any s A cp l w hr hg hl
    have HB := Lib.hid (has_made l s h1)
    generalize madeV l s = mv at *
    clear hr hg
    go_enter Try.func13, Try.ntmps13
    go_wp2_with fail
    refine hm.mono ?_
    rintro e w1 ⟨rfl, n, rfl⟩
    go_wp2_with fail
    go_ret
    exact ⟨by rw [← HB.out]; rfl, n, rfl⟩
set_option maxHeartbeats 1600000 in
set_option maxRecDepth 100000 in
theorem ruses_any (s : ByteArray) (A : Option Addr) (cp : Nat) (l : List Mg) (w : World) (hr : Kd.C kSS w A l.length l) (hl : l.length ≤ 1000000) :
    Calls Try.prog 17 #[.slice A l.length cp, .string s] w fun e w' => e = .returned (.int .i64 (usesN l s)) ∧ w' = w := by
  go_enter Try.func17, Try.ntmps17
  go_wp2_with fail
  go_loopw [5, 6] (fun v5 v6 wr => ∃ (k : Nat) (u : Int), k ≤ l.length ∧ v5 = .int .i64 u ∧ v6 = .int .i64 (k : Int) ∧ Hid (u = usesN (l.take k) s) ∧ w = wr) (fun _ i _ => l.length - (intOf i).toNat)
  case atStart => exact ⟨0, 0, by omega, rfl, rfl, Lib.hid rfl, rfl⟩
  case round =>
    obtain ⟨k, u, hk, rfl, rfl, HU, hq⟩ := hrel
    subst hq
    have k0 : (0 : Int) ≤ (k : Int) := by omega
    have hbd := usesN_bd (l.take k) s
    rw [← HU.out, List.length_take_of_le hk] at hbd
    by_cases hlt : k < l.length
    · have k1 : (k : Int) < (l.length : Int) := by omega
      have hx := List.getElem?_eq_getElem hlt
      obtain ⟨ad, e1, hx0, hx1⟩ := at_SS hr hx
      cases e1
      have htk : l.take (k + 1) = l.take k ++ [l[k]] := List.take_succ_eq_append_getElem hlt
      generalize l[k] = x at *
      obtain ⟨xa, xb⟩ := x
      simp only at hx0 hx1
      have hsn := usesN_snoc (l.take k) (xa, xb) s
      rw [← htk, ← HU.out] at hsn
      have HSN := Lib.hid hsn
      clear hx htk hsn
      by_cases ea : xa = s
      · have qa : (xa.toList == s.toList) = true := by rw [beq_toList]; exact decide_eq_true ea
        by_cases eb : xb = s
        · have qb : (xb.toList == s.toList) = true := by rw [beq_toList]; exact decide_eq_true eb
          have HN := Lib.hid (show u + 1 + 1 = usesN (l.take (k + 1)) s by rw [HSN.out]; simp only [ea, eb, if_true]; omega)
          clear ea eb
          go_wp2_with fail
          go_roundw
          case rel => exact ⟨k + 1, u + 1 + 1, by omega, by go_num, by go_num, HN, trivial⟩
          case measure => simp [intOf]; omega
        · have qb : (xb.toList == s.toList) = false := by rw [beq_toList]; exact decide_eq_false eb
          have HN := Lib.hid (show u + 1 = usesN (l.take (k + 1)) s by rw [HSN.out]; simp only [ea, eb, if_true, if_false]; omega)
          clear ea eb
          go_wp2_with fail
          go_roundw
          case rel => exact ⟨k + 1, u + 1, by omega, by go_num, by go_num, HN, trivial⟩
          case measure => simp [intOf]; omega
      · have qa : (xa.toList == s.toList) = false := by rw [beq_toList]; exact decide_eq_false ea
        by_cases eb : xb = s
        · have qb : (xb.toList == s.toList) = true := by rw [beq_toList]; exact decide_eq_true eb
          have HN := Lib.hid (show u + 1 = usesN (l.take (k + 1)) s by rw [HSN.out]; simp only [ea, eb, if_true, if_false]; omega)
          clear ea eb
          go_wp2_with fail
          go_roundw
          case rel => exact ⟨k + 1, u + 1, by omega, by go_num, by go_num, HN, trivial⟩
          case measure => simp [intOf]; omega
        · have qb : (xb.toList == s.toList) = false := by rw [beq_toList]; exact decide_eq_false eb
          have HN := Lib.hid (show u = usesN (l.take (k + 1)) s by rw [HSN.out]; simp only [ea, eb, if_false]; omega)
          clear ea eb
          go_wp2_with fail
          go_roundw
          case rel => exact ⟨k + 1, u, by omega, rfl, by go_num, HN, trivial⟩
          case measure => simp [intOf]; omega
    · obtain rfl : k = l.length := by omega
      have hnl : ¬ (l.length : Int) < (l.length : Int) := by omega
      have HN := Lib.hid (show u = usesN l s by have := HU.out; rw [List.take_length] at this; exact this)
      go_wp2_with fail
      go_ret
      exact ⟨by rw [← HN.out]; rfl, rfl⟩
/-! ### Depth -/
def rdep : Nat → List Mg → ByteArray → Int
  | 0, _, s => if s.size = 1 then 0 else -1
  | n + 1, l, s => if s.size = 1 then 0 else match madeN l s with
    | none => -1
    | some i => 1 + max (rdep n (l.take i) (l.getD i (s, s)).1) (rdep n (l.take i) (l.getD i (s, s)).2)
theorem rdep_bd : ∀ (n : Nat) (l : List Mg) (s : ByteArray), -1 ≤ rdep n l s ∧ rdep n l s ≤ n
  | 0, l, s => by unfold rdep; split <;> simp
  | n + 1, l, s => by
    unfold rdep
    split
    · omega
    · cases hm : madeN l s with
      | none => simp only; omega
      | some i =>
        simp only
        have h1 := rdep_bd n (l.take i) (l.getD i (s, s)).1
        have h2 := rdep_bd n (l.take i) (l.getD i (s, s)).2
        omega
set_option maxHeartbeats 3200000 in
set_option maxRecDepth 100000 in
theorem rdepth_any : ∀ (n : Nat) (l : List Mg) (s : ByteArray) (A : Option Addr) (cp : Nat) (w : World), l.length ≤ n → n ≤ 1000 → Kd.C kSS w A l.length l → l.length ≤ cp → (∀ m ∈ l, m.1.size ≤ 1000 ∧ m.2.size ≤ 1000) →
    Calls Try.prog 15 #[.slice A l.length cp, .string s] w fun e w' => e = .returned (.int .i64 (rdep n l s)) ∧ ∃ n, w' = w.drewN n := by
  intro n
  induction n with
  | zero =>
    intro l s A cp w hln hn hr hc hg
    have hl0 : l = [] := List.eq_nil_of_length_eq_zero (by omega)
    subst hl0
    by_cases h1 : s.size = 1
    · have hi1 : ((s.size : Nat) : Int) = 1 := by omega
      have HV := Lib.hid (show rdep 0 [] s = 0 by unfold rdep; rw [if_pos h1])
      go_enter Try.func15, Try.ntmps15
      go_wp2_with fail
      go_ret
      exact ⟨by rw [HV.out]; rfl, 0, rfl⟩
    · have hi1 : ¬ ((s.size : Nat) : Int) = 1 := by omega
      have hb1 : (((s.size : Nat) : Int) == 1) = false := by simpa using hi1
      have HV := Lib.hid (show rdep 0 [] s = -1 by unfold rdep; rw [if_neg h1])
      have hm := made_any s A cp [] w hr hg (by simp)
      have e : madeV [] s = -1 := rfl
      rw [e] at hm
      clear hr hg
      go_enter Try.func15, Try.ntmps15
      go_wp2_with fail
      refine hm.mono ?_
      rintro e w1 ⟨rfl, n1, rfl⟩
      go_wp2_with fail
      go_ret
      exact ⟨by rw [HV.out]; rfl, n1, rfl⟩
  | succ n ih =>
    intro l s A cp w hln hn hr hc hg
    by_cases h1 : s.size = 1
    · have hi1 : ((s.size : Nat) : Int) = 1 := by omega
      have HV := Lib.hid (show rdep (n + 1) l s = 0 by unfold rdep; rw [if_pos h1])
      clear hr hg ih
      go_enter Try.func15, Try.ntmps15
      go_wp2_with fail
      go_ret
      exact ⟨by rw [HV.out]; rfl, 0, rfl⟩
    · have hi1 : ¬ ((s.size : Nat) : Int) = 1 := by omega
      have hb1 : (((s.size : Nat) : Int) == 1) = false := by simpa using hi1
      have hm := made_any s A cp l w hr hg (by omega)
      cases hmn : madeN l s with
      | none =>
        have e : madeV l s = -1 := by unfold madeV; rw [hmn]
        have HV := Lib.hid (show rdep (n + 1) l s = -1 by unfold rdep; rw [if_neg h1, hmn])
        rw [e] at hm
        clear hr hg ih hmn
        go_enter Try.func15, Try.ntmps15
        go_wp2_with fail
        refine hm.mono ?_
        rintro e w1 ⟨rfl, n1, rfl⟩
        go_wp2_with fail
        go_ret
        exact ⟨by rw [HV.out]; rfl, n1, rfl⟩
      | some i =>
        have e : madeV l s = (i : Int) := by unfold madeV; rw [hmn]
        obtain ⟨x, hx, htx, _⟩ := made_some hmn
        have hil := (List.getElem?_eq_some_iff.1 hx).1
        have hgd : l.getD i (s, s) = x := by simp [List.getD, hx]
        have hval : rdep (n + 1) l s = 1 + max (rdep n (l.take i) x.1) (rdep n (l.take i) x.2) := by
          rw [rdep, if_neg h1, hmn]
          simp only [hgd]
        rw [e] at hm
        have i0 : (0 : Int) ≤ (i : Int) := by omega
        have i1 : (i : Int) < (l.length : Int) := by omega
        have hgt : ∀ m ∈ l.take i, m.1.size ≤ 1000 ∧ m.2.size ≤ 1000 := fun m hm => hg m (List.mem_of_mem_take hm)
        have hrk := fun n1 => Kd.C_take (m := i) (Kd.C_drewN hr n1) (by omega)
        have htl : (l.take i).length = i := by rw [List.length_take]; omega
        have hca := fun n1 => ih (l.take i) x.1 A cp (w.drewN n1) (by omega) (by omega) (hrk n1) (by omega) hgt
        have hcb := fun n1 => ih (l.take i) x.2 A cp (w.drewN n1) (by omega) (by omega) (hrk n1) (by omega) hgt
        rw [htl] at hca hcb
        obtain ⟨ad, e1, hx0, hx1⟩ := at_SS hr hx
        subst e1
        have hbd1 := rdep_bd n (l.take i) x.1
        have hbd2 := rdep_bd n (l.take i) x.2
        obtain ⟨xa, xb⟩ := x
        simp only at hx0 hx1 hca hcb hval hbd1 hbd2
        generalize rdep n (l.take i) xa = ra at *
        generalize rdep n (l.take i) xb = rb at *
        obtain ⟨mx, hmx⟩ : ∃ mx, (if ra < rb then rb else ra) = mx := ⟨_, rfl⟩
        have hmx1 : max ra rb = mx := by rw [← hmx]; split <;> omega
        have hw1 : IntKind.i64.wrap (1 + mx) = 1 + mx := IntWalk.i64_in _ (by omega)
        have HV := Lib.hid (show rdep (n + 1) l s = 1 + mx by rw [hval, hmx1])
        obtain ⟨iM, hiM, _, _, _⟩ := info_parts SymMerges.infoM
        have hcut := cut_to (P := Try.prog) 22 70 .i64 Try.underlying22 hiM (some ad) l.length cp (i : Int) (by omega) (by omega) hc
        rw [Int.toNat_natCast] at hcut
        have HCA := Lib.hid hca
        have HCB := Lib.hid hcb
        clear hr hg ih hmn hval hgd htx hx hrk hgt hca hcb hmx1 hbd1 hbd2 htl
        go_enter Try.func15, Try.ntmps15
        go_wp2_with fail
        refine hm.mono ?_
        rintro e w1 ⟨rfl, n1, rfl⟩
        go_wp2_with fail
        go_quiet (first
          | (go_at_call_of 15 (Value.string xa); refine (HCA.out _).mono ?_; rintro e w2 ⟨rfl, m, rfl⟩; exact ⟨rfl, _, by rw [World.drewN_drewN, Nat.add_assoc]⟩)
          | (go_at_call 15; refine (HCB.out _).mono ?_; rintro e w2 ⟨rfl, m, rfl⟩; exact ⟨rfl, _, by rw [World.drewN_drewN, Nat.add_assoc]⟩))
        go_wp2_with fail
        go_ret
        exact ⟨by rw [HV.out]; rfl, _, World.drewN_drewN _ _ _⟩
end Go.Proofs.Ythinomhjhkhidaa.Voc
