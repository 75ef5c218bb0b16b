/- Layer 14, plain: a list that is a heap: moving up, moving down, what pushing and popping leave. -/
import Derived.Test.YthpdamkpefgmaaaBase
namespace Go.Proofs.Ythpdamkpefgmaaa.HeapPure
set_option linter.unusedVariables false

structure Ord {α : Type} (lt : α → α → Bool) : Prop where
  asymm : ∀ a b, lt a b = true → lt b a = false
  ntrans : ∀ a b c, lt b a = false → lt c b = false → lt c a = false
theorem Ord.irr {α : Type} {lt : α → α → Bool} (h : Ord lt) (a : α) : lt a a = false := by
  cases e : lt a a
  · rfl
  · have := h.asymm a a e; rw [e] at this; cases this
def par (j : Nat) : Nat := (j - 1) / 2
def swap {α : Type} (l : List α) (i p : Nat) (x y : α) : List α := (l.set i y).set p x
theorem swap_len {α : Type} (l : List α) (i p : Nat) (x y : α) : (swap l i p x y).length = l.length := by simp [swap]
theorem swap_perm {α : Type} {l : List α} {i p : Nat} {x y : α} (hx : l[i]? = some x) (hy : l[p]? = some y) : (swap l i p x y).Perm l := by
  obtain ⟨hi, hx⟩ := List.getElem?_eq_some_iff.1 hx
  obtain ⟨hp, hy⟩ := List.getElem?_eq_some_iff.1 hy
  have h := Array.swap_perm (xs := l.toArray) (i := i) (j := p) (by simpa using hi) (by simpa using hp)
  rw [Array.perm_iff_toList_perm] at h
  simpa [Array.swap, swap, hx, hy] using h
theorem swap_get {α : Type} {l : List α} {i p : Nat} {x y : α} (hx : l[i]? = some x) (hy : l[p]? = some y) (j : Nat) : (swap l i p x y)[j]? = if j = p then some x else if j = i then some y else l[j]? := by
  have hi := (List.getElem?_eq_some_iff.1 hx).1
  have hp := (List.getElem?_eq_some_iff.1 hy).1
  unfold swap
  rw [List.getElem?_set]
  by_cases h1 : j = p
  · subst h1; simp [hp]
  · rw [if_neg (fun e => h1 e.symm), List.getElem?_set]
    by_cases h2 : j = i
    · subst h2; simp [h1, hi]
    · rw [if_neg (fun e => h2 e.symm)]; simp [h1, h2]

section
variable {α : Type} (lt : α → α → Bool)
def HeapFrom (l : List α) (s : Nat) : Prop := ∀ j x y, 0 < j → s ≤ par j → l[j]? = some x → l[par j]? = some y → lt x y = false
structure UpInv (l : List α) (i : Nat) : Prop where
  other : ∀ j x y, 0 < j → j ≠ i → l[j]? = some x → l[par j]? = some y → lt x y = false
  over : ∀ j x y, 0 < j → par j = i → 0 < i → l[j]? = some x → l[par i]? = some y → lt x y = false
structure DownInv (l : List α) (s i : Nat) : Prop where
  ge : s ≤ i
  other : ∀ j x y, 0 < j → s ≤ par j → par j ≠ i → l[j]? = some x → l[par j]? = some y → lt x y = false
  over : ∀ j x y, 0 < j → par j = i → 0 < i → s ≤ par i → l[j]? = some x → l[par i]? = some y → lt x y = false
structure BestInv (l : List α) (i k best : Nat) : Prop where
  lo : 2 * i + 1 ≤ k
  hi : k ≤ 2 * i + 3
  at_ : best = i ∨ (2 * i + 1 ≤ best ∧ best < k)
  lt_ : best < l.length
  no : ∀ c x y, (c = i ∨ (2 * i + 1 ≤ c ∧ c < k)) → l[c]? = some x → l[best]? = some y → lt x y = false
variable {lt}
theorem up_start {l : List α} {x : α} (h : HeapFrom lt l 0) : UpInv lt (l ++ [x]) l.length := by
  refine ⟨fun j a b hj hne ha hb => ?_, fun j a b hj hp h0 ha hb => ?_⟩
  · have hl := (List.getElem?_eq_some_iff.1 ha).1
    simp at hl
    have hjl : j < l.length := by omega
    have hpl : par j < l.length := by unfold par; omega
    rw [List.getElem?_append_left hjl] at ha
    rw [List.getElem?_append_left hpl] at hb
    exact h j a b hj (Nat.zero_le _) ha hb
  · have hl := (List.getElem?_eq_some_iff.1 ha).1
    simp at hl
    unfold par at hp
    omega
theorem up_stop0 {l : List α} (h : UpInv lt l 0) : HeapFrom lt l 0 := fun j x y hj _ hx hy => h.other j x y hj (by omega) hx hy
theorem up_stop {l : List α} {i : Nat} {x y : α} (h : UpInv lt l i) (hx : l[i]? = some x) (hy : l[par i]? = some y) (hn : lt x y = false) : HeapFrom lt l 0 := by
  intro j a b hj _ ha hb
  by_cases e : j = i
  · subst e; rw [hx] at ha; rw [hy] at hb; cases ha; cases hb; exact hn
  · exact h.other j a b hj e ha hb
theorem up_step {l : List α} {i : Nat} {x y : α} (ho : Ord lt) (h : UpInv lt l i) (hi : 0 < i) (hx : l[i]? = some x) (hy : l[par i]? = some y) (hlt : lt x y = true) : UpInv lt (swap l i (par i) x y) (par i) := by
  have hpi : par i < i := by unfold par; omega
  have hyx := ho.asymm _ _ hlt
  refine ⟨fun j a b hj hne ha hb => ?_, fun j a b hj hp h0 ha hb => ?_⟩
  · rw [swap_get hx hy] at ha hb
    rw [if_neg hne] at ha
    by_cases e1 : j = i
    · subst e1
      rw [if_pos rfl] at ha
      rw [if_pos rfl] at hb
      cases ha; cases hb; exact hyx
    · rw [if_neg e1] at ha
      by_cases e2 : par j = par i
      · rw [if_pos e2] at hb
        cases hb
        have h1 := h.other j a y hj e1 ha (by rw [e2]; exact hy)
        exact ho.ntrans x y a hyx h1
      · rw [if_neg e2] at hb
        by_cases e3 : par j = i
        · rw [if_pos e3] at hb
          cases hb
          exact h.over j a y hj e3 hi ha hy
        · rw [if_neg e3] at hb
          exact h.other j a b hj e1 ha hb
  · have hpp : par (par i) < par i := by unfold par at h0 ⊢; omega
    rw [swap_get hx hy] at ha hb
    rw [if_neg (by omega), if_neg (by omega)] at hb
    have hb2 := h.other (par i) y b h0 (by omega) hy hb
    have hjp : j ≠ par i := by intro e; subst e; unfold par at hp; unfold par at hj; omega
    rw [if_neg hjp] at ha
    by_cases e1 : j = i
    · subst e1
      rw [if_pos rfl] at ha
      cases ha
      exact hb2
    · rw [if_neg e1] at ha
      have h1 := h.other j a y hj e1 ha (by rw [hp]; exact hy)
      exact ho.ntrans b y a hb2 h1
theorem best_start {l : List α} {i : Nat} (ho : Ord lt) (hi : i < l.length) : BestInv lt l i (2 * i + 1) i :=
  ⟨by omega, by omega, .inl rfl, hi, fun c x y hc hx hy => by
    rcases hc with rfl | hc
    · rw [hx] at hy; cases hy; exact ho.irr x
    · omega⟩
theorem best_take {l : List α} {i k best : Nat} {x y : α} (ho : Ord lt) (h : BestInv lt l i k best) (hk : k ≤ 2 * i + 2) (hx : l[k]? = some x) (hy : l[best]? = some y) (hlt : lt x y = true) : BestInv lt l i (k + 1) k := by
  have := h.lo
  refine ⟨by omega, by omega, .inr ⟨by omega, by omega⟩, (List.getElem?_eq_some_iff.1 hx).1, fun c a b hc ha hb => ?_⟩
  rw [hx] at hb
  cases hb
  by_cases e : c = k
  · subst e; rw [hx] at ha; cases ha; exact ho.irr _
  · have h1 := h.no c a y (by omega) ha hy
    exact ho.ntrans x y a (ho.asymm _ _ hlt) h1
theorem best_leave {l : List α} {i k best : Nat} {x y : α} (h : BestInv lt l i k best) (hk : k ≤ 2 * i + 2) (hx : l[k]? = some x) (hy : l[best]? = some y) (hlt : lt x y = false) : BestInv lt l i (k + 1) best := by
  have := h.lo
  refine ⟨by omega, by omega, ?_, h.lt_, fun c a b hc ha hb => ?_⟩
  · rcases h.at_ with h1 | h1
    · exact .inl h1
    · exact .inr ⟨h1.1, by omega⟩
  · by_cases e : c = k
    · subst e; rw [hx] at ha; cases ha; rw [hy] at hb; cases hb; exact hlt
    · exact h.no c a b (by omega) ha hb
theorem down_start {l : List α} {s : Nat} (h : HeapFrom lt l (s + 1)) : DownInv lt l s s :=
  ⟨Nat.le_refl _, fun j x y hj hs hne hx hy => h j x y hj (by omega) hx hy, fun j x y hj hp h0 hs hx hy => by unfold par at hs; omega⟩
theorem down_stop {l : List α} {s i k : Nat} (h : DownInv lt l s i) (hb : BestInv lt l i k i) (hk : 2 * i + 2 < k ∨ l.length ≤ k) : HeapFrom lt l s := by
  intro j x y hj hs hx hy
  by_cases e : par j = i
  · have hl := (List.getElem?_eq_some_iff.1 hx).1
    refine hb.no j x y (.inr ?_) hx (by rw [← e]; exact hy)
    unfold par at e
    omega
  · exact h.other j x y hj hs e hx hy
theorem down_step {l : List α} {s i k best : Nat} {x y : α} (ho : Ord lt) (h : DownInv lt l s i) (hb : BestInv lt l i k best) (hk : 2 * i + 2 < k ∨ l.length ≤ k) (hne : best ≠ i) (hx : l[i]? = some x) (hy : l[best]? = some y) :
    DownInv lt (swap l i best x y) s best ∧ i < best := by
  have hbi : i < best := by have := hb.at_; omega
  have hpb : par best = i := by have := hb.at_; have := hb.hi; unfold par; omega
  have hib : lt x y = false := hb.no i x y (.inl rfl) hx hy
  refine ⟨⟨by have := h.ge; omega, fun j a b hj hs hpn ha hb' => ?_, fun j a b hj hp h0 hs ha hb' => ?_⟩, hbi⟩
  · rw [swap_get hx hy] at ha hb'
    rw [if_neg hpn] at hb'
    by_cases e1 : par j = i
    · rw [if_pos e1] at hb'
      cases hb'
      have hji : j ≠ i := by unfold par at e1; omega
      by_cases e2 : j = best
      · rw [if_pos e2] at ha
        cases ha
        exact hib
      · rw [if_neg e2, if_neg hji] at ha
        have hl := (List.getElem?_eq_some_iff.1 ha).1
        exact hb.no j a y (.inr (by unfold par at e1; omega)) ha hy
    · rw [if_neg e1] at hb'
      by_cases e2 : j = best
      · subst e2; exact absurd hpb e1
      · rw [if_neg e2] at ha
        by_cases e3 : j = i
        · subst e3
          rw [if_pos rfl] at ha
          cases ha
          exact h.over best _ _ (by omega) hpb hj hs hy hb'
        · rw [if_neg e3] at ha
          exact h.other j a b hj hs e1 ha hb'
  · rw [hpb] at hs hb'
    rw [swap_get hx hy] at ha hb'
    rw [if_neg (by omega), if_pos rfl] at hb'
    cases hb'
    have hjb : j ≠ best := by intro e; subst e; unfold par at hp; omega
    have hji : j ≠ i := by intro e; subst e; unfold par at hp; omega
    rw [if_neg hjb, if_neg hji] at ha
    exact h.other j _ _ hj (by omega) (by omega) ha (by rw [hp]; exact hy)
/-- the first item is as good as any -/
theorem heap_root {l : List α} (ho : Ord lt) (h : HeapFrom lt l 0) {r : α} (hr : l[0]? = some r) : ∀ (j : Nat) (x : α), l[j]? = some x → lt x r = false := by
  intro j
  induction j using Nat.strongRecOn with
  | ind j ih =>
    intro x hx
    by_cases e : j = 0
    · subst e; rw [hr] at hx; cases hx; exact ho.irr _
    · have hl := (List.getElem?_eq_some_iff.1 hx).1
      have hp : par j < j := by unfold par; omega
      have hpl : l[par j]? = some (l[par j]'(by omega)) := List.getElem?_eq_getElem (by omega)
      have h1 := h j x _ (by omega) (Nat.zero_le _) hx hpl
      have h2 := ih (par j) hp _ hpl
      exact ho.ntrans r _ x h2 h1
theorem heap_root_mem {l : List α} (ho : Ord lt) (h : HeapFrom lt l 0) {r : α} (hr : l[0]? = some r) {x : α} (hx : x ∈ l) : lt x r = false := by
  obtain ⟨j, hj, e⟩ := List.getElem_of_mem hx
  exact heap_root ho h hr j x (by rw [List.getElem?_eq_getElem hj, e])
/-- the last item in the first one's place -/
def cutTop (l : List α) (x : α) : List α := (l.set 0 x).take (l.length - 1)
theorem cutTop_perm {l : List α} {r x : α} (hr : l[0]? = some r) (hx : l[l.length - 1]? = some x) : (r :: cutTop l x).Perm l := by
  match l, hr with
  | a :: t, hr =>
    simp at hr
    subst hr
    rcases List.eq_nil_or_concat t with rfl | ⟨t', z, rfl⟩
    · simp [cutTop]
    · simp at hx
      subst hx
      simp [cutTop]
      exact List.perm_append_singleton _ _ |>.symm
theorem cutTop_heap {l : List α} {x : α} (h : HeapFrom lt l 0) : HeapFrom lt (cutTop l x) 1 := by
  intro j a b hj hs ha hb
  unfold cutTop at ha hb
  have hl := (List.getElem?_eq_some_iff.1 ha).1
  simp at hl
  have hpj : par j < j := by unfold par; omega
  rw [List.getElem?_take_of_lt (by omega), List.getElem?_set_ne (by omega)] at ha hb
  exact h j a b hj (Nat.zero_le _) ha hb
theorem heap_half {l : List α} {s : Nat} (hs : l.length / 2 ≤ s) : HeapFrom lt l s := by
  intro j x y hj hp hx hy
  have hl := (List.getElem?_eq_some_iff.1 hx).1
  unfold par at hp
  omega
end
/-- each item, when it came, was as good as any that was left -/
def Best {α : Type} (lt : α → α → Bool) (l0 pre : List α) : Prop := ∀ q x r, pre = q ++ x :: r → ∃ rest, (q ++ x :: rest).Perm l0 ∧ ∀ y ∈ rest, lt y x = false
theorem Best.nil {α : Type} {lt : α → α → Bool} {l0 : List α} : Best lt l0 [] := fun q x r e => by simp at e
theorem Best.snoc {α : Type} {lt : α → α → Bool} {l0 pre : List α} (h : Best lt l0 pre) {x : α} {rest : List α} (hp : (pre ++ [x] ++ rest).Perm l0) (hb : ∀ y ∈ rest, lt y x = false) : Best lt l0 (pre ++ [x]) := by
  intro q z r e
  rcases List.eq_nil_or_concat r with rfl | ⟨r', t, rfl⟩
  · have := List.append_inj' e rfl
    obtain ⟨rfl, e2⟩ := this
    cases e2
    exact ⟨rest, by simpa using hp, hb⟩
  · rw [List.concat_eq_append, ← List.cons_append, ← List.append_assoc] at e
    have := List.append_inj' e rfl
    exact h q z r' this.1
theorem Best.sorted {α : Type} {lt : α → α → Bool} {l0 xs : List α} (h : Best lt l0 xs) (hp : xs.Perm l0) : xs.Pairwise fun a b => lt b a = false := by
  rw [List.pairwise_iff_getElem]
  intro i j hi hj hij
  have hs : xs = xs.take i ++ xs[i] :: xs.drop (i + 1) := by simp
  obtain ⟨rest, h1, h2⟩ := h _ _ _ hs
  have h3 : (xs.take i ++ xs[i] :: rest).Perm (xs.take i ++ xs[i] :: xs.drop (i + 1)) := h1.trans (by rw [← hs]; exact hp.symm)
  rw [List.perm_append_left_iff, List.perm_cons] at h3
  refine h2 _ (h3.mem_iff.2 ?_)
  rw [List.mem_iff_getElem]
  exact ⟨j - (i + 1), by simp; omega, by simp; congr 1; omega⟩
end Go.Proofs.Ythpdamkpefgmaaa.HeapPure
