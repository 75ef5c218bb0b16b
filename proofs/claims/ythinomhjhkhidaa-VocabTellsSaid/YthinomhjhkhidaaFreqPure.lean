/- Layer 7, plain: words with counts, a list that rises; in which order words come plays no part. -/
import Derived.Test.YthinomhjhkhidaaSMap
namespace Go.Proofs.Ythinomhjhkhidaa.FreqPure
open Go.RowKit Base SMap
set_option linter.unusedVariables false
set_option linter.unusedSimpArgs false

abbrev Wd := ByteArray × Int
abbrev bl (a b : ByteArray) : Bool := Op.bytesLess a.toList b.toList
theorem bl_lt' (a b : ByteArray) : bl a b = decide (a.toList < b.toList) := bl_lt _ _
theorem bl_irr (a : ByteArray) : bl a a = false := bl_irrefl _
theorem bl_trans {a b c : ByteArray} (h1 : bl a b = true) (h2 : bl b c = true) : bl a c = true := by
  rw [bl_lt'] at *
  simp only [decide_eq_true_eq] at *
  exact List.lt_trans h1 h2
theorem bl_asym {a b : ByteArray} (h1 : bl a b = true) : bl b a = false := by
  cases h : bl b a with
  | false => rfl
  | true => have := bl_trans h1 h; rw [bl_irr] at this; cases this
theorem bl_tri {a b : ByteArray} (h : bl a b = false) (hne : a ≠ b) : bl b a = true := by
  have h1 := less_no h
  rw [Bool.or_eq_true] at h1
  rcases h1 with h1 | h1
  · exact h1
  · exact absurd (toList_inj (by simpa using h1)).symm hne
theorem bl_ne {a b : ByteArray} (h : bl a b = true) : a ≠ b := fun e => by rw [e, bl_irr] at h; cases h

def res (m : List Wd) (p : ByteArray) : Int := (SMap.look m p).getD 0
def addW (m : List Wd) (p : ByteArray) (n : Int) : Int × List Wd :=
  if p.size = 0 ∨ n < 1 then (1, m) else if res m p + n ≤ 9223372036854775807 then (0, putL m p (res m p + n)) else (5, m)
def insW : List Wd → ByteArray → Int → List Wd
  | [], p, s => [(p, s)]
  | x :: t, p, s => if bl x.1 p = true then x :: insW t p s else (p, s) :: dropL (x :: t) p
/-- the reference's -/
def addR (m : List Wd) (p : ByteArray) (n : Int) : Int × List Wd :=
  if p.size = 0 ∨ n < 1 then (1, m) else if res m p + n ≤ 9223372036854775807 then (0, insW m p (res m p + n)) else (5, m)
def Rise (l : List Wd) : Prop := l.Pairwise fun a b => bl a.1 b.1 = true
def Pos (m : List Wd) : Prop := ∀ x ∈ m, 1 ≤ x.2 ∧ x.2 ≤ 9223372036854775807
theorem drop_cons_ne {x : Wd} {t : List Wd} {p : ByteArray} (h : x.1 ≠ p) : dropL (x :: t) p = x :: dropL t p := by
  unfold dropL; rw [List.filter_cons_of_pos (by simpa using h)]
theorem ins_perm : ∀ (m : List Wd) (p : ByteArray) (s : Int), (insW m p s).Perm (putL m p s)
  | [], p, s => by simp [insW, putL, dropL]
  | x :: t, p, s => by
    unfold insW
    split
    · rename_i h
      unfold putL
      rw [drop_cons_ne (bl_ne h)]
      exact ((ins_perm t p s).cons x).trans (List.Perm.swap _ _ _)
    · exact List.Perm.refl _
theorem mem_drop {m : List Wd} {p : ByteArray} {x : Wd} (h : x ∈ dropL m p) : x ∈ m ∧ x.1 ≠ p := by
  unfold dropL at h
  obtain ⟨h1, h2⟩ := List.mem_filter.1 h
  exact ⟨h1, by simpa using h2⟩
theorem ins_rise : ∀ {m : List Wd} (p : ByteArray) (s : Int), Rise m → Rise (insW m p s)
  | [], p, s, _ => by simp [insW, Rise]
  | x :: t, p, s, h => by
    unfold Rise at h
    rw [List.pairwise_cons] at h
    unfold insW
    split
    · rename_i hl
      refine List.pairwise_cons.2 ⟨fun y hy => ?_, ins_rise p s h.2⟩
      rcases List.mem_cons.1 ((ins_perm t p s).mem_iff.1 hy) with rfl | hy
      · exact hl
      · exact h.1 y (mem_drop hy).1
    · rename_i hl
      have hl' : bl x.1 p = false := by simpa using hl
      refine List.pairwise_cons.2 ⟨fun y hy => ?_, ?_⟩
      · obtain ⟨h1, h2⟩ := mem_drop hy
        rcases List.mem_cons.1 h1 with rfl | h1
        · exact bl_tri hl' h2
        · have h3 := h.1 y h1
          by_cases e : x.1 = p
          · rw [← e]; exact h3
          · exact bl_trans (bl_tri hl' e) h3
      · exact List.Pairwise.sublist List.filter_sublist (List.pairwise_cons.2 h)
theorem rise_uniq {l l' : List Wd} (h : Rise l) (h' : Rise l') (hp : l.Perm l') : l = l' :=
  List.Perm.eq_of_pairwise (le := fun a b : Wd => bl a.1 b.1 = true) (fun a b _ _ h1 h2 => by rw [bl_asym h1] at h2; cases h2) h h' hp
theorem rise_nd {l : List Wd} (h : Rise l) : Nd l := by
  unfold Nd
  exact List.pairwise_map.2 (h.imp fun h1 => bl_ne h1)
theorem res_perm {m m' : List Wd} (hd : Nd m) (hp : m'.Perm m) (p : ByteArray) : res m' p = res m p := by unfold res; rw [look_perm hd hp]
theorem res_bd {m : List Wd} (h : Pos m) (p : ByteArray) : 0 ≤ res m p ∧ res m p ≤ 9223372036854775807 := by
  unfold res
  cases hl : SMap.look m p with
  | none => simp
  | some n =>
    have := h _ (look_some_mem hl)
    simp at this ⊢
    omega
theorem put_pos {m : List Wd} (h : Pos m) (p : ByteArray) {s : Int} (hs : 1 ≤ s ∧ s ≤ 9223372036854775807) : Pos (putL m p s) := by
  intro x hx
  rcases List.mem_cons.1 hx with rfl | hx
  · exact hs
  · exact h x (mem_drop hx).1
theorem put_perm {m m' : List Wd} (hp : m'.Perm m) (p : ByteArray) (s : Int) : (putL m' p s).Perm (putL m p s) := by
  unfold putL dropL
  exact (hp.filter _).cons _
theorem put_le (m : List Wd) (p : ByteArray) (s : Int) : (putL m p s).length ≤ m.length + 1 := by
  unfold putL dropL
  rw [List.length_cons]
  exact Nat.succ_le_succ (List.length_filter_le _ _)
/-- both, of lists that are the same words -/
theorem add_same {m r : List Wd} (hd : Nd m) (hp : r.Perm m) (p : ByteArray) (n : Int) : (addR r p n).1 = (addW m p n).1 ∧ (addR r p n).2.Perm (addW m p n).2 := by
  unfold addR addW
  rw [res_perm hd hp]
  split
  · exact ⟨rfl, hp⟩
  · split
    · exact ⟨rfl, (ins_perm _ _ _).trans (put_perm hp _ _)⟩
    · exact ⟨rfl, hp⟩
theorem addR_rise {r : List Wd} (h : Rise r) (p : ByteArray) (n : Int) : Rise (addR r p n).2 := by
  unfold addR
  split
  · exact h
  · split
    · exact ins_rise _ _ h
    · exact h
theorem addW_pos {m : List Wd} (h : Pos m) (p : ByteArray) (n : Int) : Pos (addW m p n).2 := by
  unfold addW
  split
  · exact h
  · rename_i h1
    split
    · rename_i h2
      have := res_bd h p
      exact put_pos h p ⟨by omega, h2⟩
    · exact h
theorem addW_le (m : List Wd) (p : ByteArray) (n : Int) : (addW m p n).2.length ≤ m.length + 1 := by
  unfold addW
  split
  · simp
  · split
    · exact put_le _ _ _
    · simp

/-- words added one by one, up to the first that can't be -/
def addsW (m : List Wd) : List Wd → Int × List Wd
  | [] => (0, m)
  | x :: l => if (addW m x.1 x.2).1 = 0 then addsW (addW m x.1 x.2).2 l else addW m x.1 x.2
theorem addsW_cons (m : List Wd) (x : Wd) (l : List Wd) : addsW m (x :: l) = if (addW m x.1 x.2).1 = 0 then addsW (addW m x.1 x.2).2 l else addW m x.1 x.2 := rfl
theorem addsW_app {m m1 : List Wd} {a : List Wd} (h : addsW m a = (0, m1)) (b : List Wd) : addsW m (a ++ b) = addsW m1 b := by
  induction a generalizing m with
  | nil => simp [addsW] at h; rw [h]; rfl
  | cons x a ih =>
    rw [List.cons_append, addsW_cons]
    rw [addsW_cons] at h
    split at h
    · rename_i h0; rw [if_pos h0]; exact ih h
    · rename_i h0; rw [h] at h0; exact absurd rfl h0
/-- an error at a word ends it -/
theorem addsW_stop {m m1 : List Wd} {a : List Wd} (h : addsW m a = (0, m1)) (x : Wd) (b : List Wd) (he : (addW m1 x.1 x.2).1 ≠ 0) : addsW m (a ++ x :: b) = addW m1 x.1 x.2 := by
  rw [addsW_app h, addsW_cons, if_neg he]
theorem addsW_one {m m1 : List Wd} {a : List Wd} (h : addsW m a = (0, m1)) (x : Wd) (he : (addW m1 x.1 x.2).1 = 0) : addsW m (a ++ [x]) = (0, (addW m1 x.1 x.2).2) := by
  rw [addsW_app h, addsW_cons, if_pos he]; rfl

/-! ### all that are of one word -/
def tot (l : List Wd) (p : ByteArray) : Int := ((l.filter fun x => decide (x.1 = p)).map (·.2)).sum
theorem tot_cons (x : Wd) (l : List Wd) (p : ByteArray) : tot (x :: l) p = (if x.1 = p then x.2 else 0) + tot l p := by
  unfold tot
  by_cases h : x.1 = p
  · rw [List.filter_cons_of_pos (by simpa using h), if_pos h]; simp
  · rw [List.filter_cons_of_neg (by simpa using h), if_neg h]; simp
theorem tot_app (a b : List Wd) (p : ByteArray) : tot (a ++ b) p = tot a p + tot b p := by
  induction a with
  | nil => simp [tot]
  | cons x a ih => rw [List.cons_append, tot_cons, tot_cons, ih]; omega
theorem tot_nonneg {l : List Wd} (h : ∀ x ∈ l, 1 ≤ x.2) (p : ByteArray) : 0 ≤ tot l p := by
  induction l with
  | nil => simp [tot]
  | cons x l ih =>
    have h1 := h x (by simp)
    have h2 := ih (fun y hy => h y (List.mem_cons_of_mem _ hy))
    rw [tot_cons]
    split <;> omega
theorem tot_perm {a b : List Wd} (h : a.Perm b) (p : ByteArray) : tot a p = tot b p := by
  induction h with
  | nil => rfl
  | cons x _ ih => rw [tot_cons, tot_cons, ih]
  | swap x y l => rw [tot_cons, tot_cons, tot_cons, tot_cons]; omega
  | trans _ _ ih1 ih2 => exact ih1.trans ih2
theorem res_put (m : List Wd) (p q : ByteArray) (s : Int) : res (putL m p s) q = if q = p then s else res m q := by
  unfold res
  by_cases e : q = p
  · subst e; rw [if_pos rfl, look_put_same]; rfl
  · rw [if_neg e, look_put_other _ e]
theorem addW_nd {m : List Wd} (h : Nd m) (p : ByteArray) (n : Int) : Nd (addW m p n).2 := by
  unfold addW
  split
  · exact h
  · split
    · exact h.put _ _
    · exact h
def Okw (x : Wd) : Prop := x.1.size ≠ 0 ∧ 1 ≤ x.2
theorem addW_ok {m : List Wd} {p : ByteArray} {n : Int} (h : (addW m p n).1 = 0) : Okw (p, n) ∧ res m p + n ≤ 9223372036854775807 ∧ (addW m p n).2 = putL m p (res m p + n) := by
  unfold addW at *
  split at h
  · cases h
  · rename_i h1
    split at h
    · rename_i h2
      rw [if_neg h1, if_pos h2]
      exact ⟨⟨by simp only; omega, by simp only; omega⟩, h2, rfl⟩
    · cases h
theorem adds_yes : ∀ {l m m' : List Wd}, Nd m → Pos m → addsW m l = (0, m') → (∀ x ∈ l, Okw x) ∧ (∀ p, res m' p = res m p + tot l p) ∧ Nd m' ∧ Pos m'
  | [], m, m', hd, hp, h => by
    simp [addsW] at h
    subst h
    exact ⟨by simp, fun p => by simp [tot], hd, hp⟩
  | x :: l, m, m', hd, hp, h => by
    rw [addsW_cons] at h
    split at h
    · rename_i h0
      obtain ⟨h1, h2, h3⟩ := addW_ok h0
      obtain ⟨i1, i2, i3, i4⟩ := adds_yes (addW_nd hd x.1 x.2) (addW_pos hp x.1 x.2) h
      refine ⟨fun y hy => ?_, fun p => ?_, i3, i4⟩
      · rcases List.mem_cons.1 hy with rfl | hy
        · exact h1
        · exact i1 y hy
      · rw [i2 p, h3, res_put, tot_cons]
        by_cases e : p = x.1
        · subst e; rw [if_pos rfl, if_pos rfl]; omega
        · rw [if_neg e, if_neg (Ne.symm e)]; omega
    · rename_i h0; rw [h] at h0; exact absurd rfl h0
theorem adds_can : ∀ {l m : List Wd}, (∀ x ∈ l, Okw x) → (∀ p, res m p + tot l p ≤ 9223372036854775807) → (addsW m l).1 = 0
  | [], m, _, _ => rfl
  | x :: l, m, hok, ht => by
    have hx := hok x (by simp)
    have hl := fun y hy => hok y (List.mem_cons_of_mem x hy)
    have h1 := ht x.1
    rw [tot_cons, if_pos rfl] at h1
    have h2 := tot_nonneg (l := l) (fun y hy => (hl y hy).2) x.1
    have e : addW m x.1 x.2 = (0, putL m x.1 (res m x.1 + x.2)) := by
      unfold addW
      rw [if_neg (by unfold Okw at hx; omega), if_pos (by omega)]
    rw [addsW_cons, e, if_pos rfl]
    refine adds_can hl fun p => ?_
    have h3 := ht p
    rw [tot_cons] at h3
    rw [res_put]
    by_cases e : p = x.1
    · subst e; rw [if_pos rfl]; rw [if_pos rfl] at h3; omega
    · rw [if_neg e]; rw [if_neg (Ne.symm e)] at h3; omega
theorem perm_of_res {m m' : List Wd} (hd : Nd m) (hd' : Nd m') (hp : Pos m) (hp' : Pos m') (h : ∀ p, res m p = res m' p) : m.Perm m' := by
  have one : ∀ {m m' : List Wd}, Nd m → Pos m → (∀ p, res m p = res m' p) → ∀ x, x ∈ m → x ∈ m' := by
    intro m m' hd hp h x hx
    have h1 := mem_look hd hx
    have h2 := (hp x hx).1
    have h3 := h x.1
    unfold res at h3
    rw [h1] at h3
    cases hl : SMap.look m' x.1 with
    | none => rw [hl] at h3; simp at h3; omega
    | some c =>
      rw [hl] at h3
      simp at h3
      subst h3
      exact look_some_mem hl
  have nd : ∀ {m : List Wd}, Nd m → m.Nodup := fun {m} h => by
    unfold Nd at h
    exact (List.pairwise_map.1 h).imp fun hne e => hne (by rw [e])
  exact (List.perm_ext_iff_of_nodup (nd hd) (nd hd')).2 fun x => ⟨one hd hp h x, one hd' hp' (fun p => (h p).symm) x⟩
theorem pos_nil : Pos [] := fun _ h => by cases h
theorem nd_nil : Nd [] := List.nodup_nil
/-- the order plays no part -/
theorem adds_perm {a b : List Wd} (h : a.Perm b) : ((addsW [] a).1 = 0 ↔ (addsW [] b).1 = 0) ∧ ((addsW [] a).1 = 0 → (addsW [] a).2.Perm (addsW [] b).2) := by
  have half : ∀ {a b : List Wd}, a.Perm b → (addsW [] a).1 = 0 → (addsW [] b).1 = 0 := by
    intro a b h h0
    obtain ⟨h1, h2, _, h4⟩ := adds_yes (m' := (addsW [] a).2) nd_nil pos_nil (Prod.ext h0 rfl)
    refine adds_can (fun x hx => h1 x (h.mem_iff.2 hx)) fun p => ?_
    have h5 := h2 p
    have h6 := res_bd h4 p
    rw [tot_perm h] at h5
    omega
  refine ⟨⟨half h, half h.symm⟩, fun h0 => ?_⟩
  obtain ⟨_, h2, h3, h4⟩ := adds_yes (m' := (addsW [] a).2) nd_nil pos_nil (Prod.ext h0 rfl)
  obtain ⟨_, g2, g3, g4⟩ := adds_yes (m' := (addsW [] b).2) nd_nil pos_nil (Prod.ext (half h h0) rfl)
  exact perm_of_res h3 g3 h4 g4 fun p => by rw [h2 p, g2 p, tot_perm h]
end Go.Proofs.Ythinomhjhkhidaa.FreqPure
